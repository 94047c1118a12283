/- isa.Text's contract, at every instruction. The contract of the laws' 'known': the document's first example holds. -/
import Derived.Test.YtedjkbekhhffeaaDoorIsaTextA
import Derived.Test.YtedjkbekhhffeaaDoorIsaTextB
import Derived.Test.YtedjkbekhhffeaaDoorIsaDecAll
namespace Go.Proofs.YtedjkbekhhffeaaDoor
open Go.RowKit
set_option linter.unusedSimpArgs false
set_option linter.unusedVariables false
theorem Isa.enc_ok {op d a b imm : Int} (h : (Isa.enc op d a b imm).2 = 0) : (1 ≤ op ∧ op < 49) ∧ Isa.badAt (Isa.atD (Isa.formOf op.toNat)) d = false ∧ Isa.badAt (Isa.atA (Isa.formOf op.toNat)) a = false ∧ Isa.badAt (Isa.atB (Isa.formOf op.toNat)) b = false ∧ Isa.fits (Isa.formOf op.toNat) (Isa.numOf op.toNat) imm = true ∧ (Isa.enc op d a b imm).1 = Isa.wordF (Isa.formOf op.toNat) op d a b imm := by
  unfold Isa.enc at h ⊢
  by_cases h1 : op < 1 ∨ 49 ≤ op
  · rw [if_pos h1] at h; exact absurd h (by decide)
  · rw [if_neg h1] at h ⊢
    unfold Isa.encF at h ⊢
    by_cases h2 : (Isa.badAt (Isa.atD (Isa.formOf op.toNat)) d || Isa.badAt (Isa.atA (Isa.formOf op.toNat)) a || Isa.badAt (Isa.atB (Isa.formOf op.toNat)) b) = true
    · rw [if_pos h2] at h; exact absurd h (by decide)
    · rw [if_neg h2] at h ⊢
      by_cases h3 : Isa.fits (Isa.formOf op.toNat) (Isa.numOf op.toNat) imm = true
      · rw [if_pos h3]
        simp only [Bool.or_eq_true, not_or, Bool.not_eq_true] at h2
        exact ⟨by omega, h2.1.1, h2.1.2, h2.2, h3, rfl⟩
      · rw [if_neg h3] at h; exact absurd h (by decide)
theorem Isa.badAt_le {at_ r : Int} (h : Isa.badAt at_ r = false) : r ≤ 15 ∧ (at_ < 0 → r ≤ 0) := by
  unfold Isa.badAt at h
  simp only [Bool.or_eq_false_iff, decide_eq_false_iff_not, Bool.and_eq_false_imp, decide_eq_true_eq] at h
  exact ⟨by omega, fun hh => by have := h.2 hh; omega⟩
/-- What an instruction's text has behind its name. -/
def Isa.parts (f nu : Nat) (d a b imm : Int) : List ByteArray :=
  (if 0 ≤ Isa.atD f then [Isa.reg d] else []) ++ (if 0 ≤ Isa.atA f then [Isa.reg a] else []) ++ (if 0 ≤ Isa.atB f then [Isa.reg b] else []) ++ (if nu ≠ 0 then [Isa.num imm] else [])
def Isa.textF (f nu s : Nat) (nm : ByteArray) (d a b imm : Int) : ByteArray :=
  if s = 1 then (((((((nm ++ ⟨#[32]⟩) ++ Isa.reg (if 0 ≤ Isa.atB f then b else d)) ++ ⟨#[44, 32]⟩) ++ Isa.num imm) ++ ⟨#[40]⟩) ++ Isa.reg a) ++ ⟨#[41]⟩)
  else if Isa.parts f nu d a b imm = [] then nm else (nm ++ ⟨#[32]⟩) ++ Isa.joined (Isa.parts f nu d a b imm)
/-- Text's answer at every instruction. -/
def Isa.text (op d a b imm : Int) : ByteArray :=
  if (Isa.enc op d a b imm).2 ≠ 0 then ⟨#[]⟩ else Isa.textF (Isa.formOf op.toNat) (Isa.numOf op.toNat) (Isa.shapeOf op.toNat) (Isa.nameOf op.toNat) d a b imm
set_option maxHeartbeats 4000000 in
set_option maxRecDepth 100000 in
theorem text_none (op d a b imm : Int) (hd : 0 ≤ d ∧ d ≤ 255) (ha : 0 ≤ a ∧ a ≤ 255) (hb : 0 ≤ b ∧ b ≤ 255) (him : -2147483648 ≤ imm ∧ imm ≤ 2147483647) (hE : (Isa.enc op d a b imm).2 ≠ 0) (w : World) (hL : Isa.Laid w) :
    Calls Tryd.prog 13 #[.agg #[.int .i64 op, .int .u8 d, .int .u8 a, .int .u8 b, .int .i32 imm]] w (Isa.TextPost ⟨#[]⟩ w) := by
  have hq : ((Isa.enc op d a b imm).2 == 0) = false := by simpa using hE
  clear hE
  go_enter Tryd.func13, Tryd.ntmps13
  go_wp2_with fail
  refine (Encode_calls op d a b imm hd ha hb him _ (hL.alloc _)).mono ?_
  rintro e w1 ⟨rfl, hb1⟩
  have HB1 := Lib.hid (below_next (below_alloc' (Below.refl _ _) _) hb1)
  go_wp2_with fail
  go_ret
  exact ⟨rfl, HB1.out⟩
theorem Isa.name_le : ∀ n : Fin 49, (Isa.nameOf n.1).size ≤ 16 := by decide
theorem Isa.text_combos : ∀ n : Fin 49, 1 ≤ n.1 → (Isa.formOf n.1 = 1 ∧ Isa.shapeOf n.1 = 0 ∧ Isa.numOf n.1 = 0) ∨ (Isa.formOf n.1 = 2 ∧ Isa.shapeOf n.1 = 0 ∧ Isa.numOf n.1 ≠ 0) ∨ (Isa.formOf n.1 = 2 ∧ Isa.shapeOf n.1 = 1 ∧ Isa.numOf n.1 ≠ 0) ∨ (Isa.formOf n.1 = 3 ∧ Isa.shapeOf n.1 = 0 ∧ Isa.numOf n.1 ≠ 0) ∨ (Isa.formOf n.1 = 3 ∧ Isa.shapeOf n.1 = 1 ∧ Isa.numOf n.1 ≠ 0) ∨ (Isa.formOf n.1 = 4 ∧ Isa.shapeOf n.1 = 0 ∧ Isa.numOf n.1 ≠ 0) ∨ (Isa.formOf n.1 = 5 ∧ Isa.shapeOf n.1 = 0 ∧ Isa.numOf n.1 = 0) ∨ (Isa.formOf n.1 = 6 ∧ Isa.shapeOf n.1 = 0 ∧ Isa.numOf n.1 = 0) ∨ (Isa.formOf n.1 = 7 ∧ Isa.shapeOf n.1 = 0 ∧ Isa.numOf n.1 ≠ 0) ∨ (Isa.formOf n.1 = 8 ∧ Isa.shapeOf n.1 = 0 ∧ Isa.numOf n.1 = 0) := by decide
/-- THE CONTRACT. -/
theorem Text_calls (op d a b imm : Int) (hd : 0 ≤ d ∧ d ≤ 255) (ha : 0 ≤ a ∧ a ≤ 255) (hb : 0 ≤ b ∧ b ≤ 255) (him : -2147483648 ≤ imm ∧ imm ≤ 2147483647) (w : World) (hL : Isa.Laid w) :
    Calls Tryd.prog 13 #[.agg #[.int .i64 op, .int .u8 d, .int .u8 a, .int .u8 b, .int .i32 imm]] w (Isa.TextPost (Isa.text op d a b imm) w) := by
  unfold Isa.text
  by_cases hE : (Isa.enc op d a b imm).2 = 0
  · rw [if_neg (by simpa using hE)]
    obtain ⟨ho, b1, b2, b3, hf, _⟩ := Isa.enc_ok hE
    have b1' := (Isa.badAt_le b1).1
    have b2' := (Isa.badAt_le b2).1
    have b3' := (Isa.badAt_le b3).1
    clear b1 b2 b3 hf
    obtain ⟨n, rfl⟩ : ∃ n : Nat, op = (n : Int) := ⟨op.toNat, by omega⟩
    obtain ⟨d, rfl⟩ : ∃ n : Nat, d = (n : Int) := ⟨d.toNat, by omega⟩
    obtain ⟨a, rfl⟩ : ∃ n : Nat, a = (n : Int) := ⟨a.toNat, by omega⟩
    obtain ⟨b, rfl⟩ : ∃ n : Nat, b = (n : Int) := ⟨b.toNat, by omega⟩
    have h1 : 1 ≤ n := by omega
    have h2 : n < 49 := by omega
    have hn := Isa.name_le ⟨n, h2⟩
    have hc := Isa.text_combos ⟨n, h2⟩ h1
    simp only [Int.toNat_natCast] at hc hn ⊢
    rcases hc with ⟨e1, e2, e3⟩ | ⟨e1, e2, e3⟩ | ⟨e1, e2, e3⟩ | ⟨e1, e2, e3⟩ | ⟨e1, e2, e3⟩ | ⟨e1, e2, e3⟩ | ⟨e1, e2, e3⟩ | ⟨e1, e2, e3⟩ | ⟨e1, e2, e3⟩ | ⟨e1, e2, e3⟩
    · have r := text_1_0 n h1 h2 (by rw [e1]; rfl) (by rw [e2]; rfl) (Isa.numOf n : Int) rfl (by rw [e3]; rfl) d a b imm (by omega) (by omega) (by omega) him hE hn w hL
      have q : Isa.textF (Isa.formOf n) (Isa.numOf n) (Isa.shapeOf n) (Isa.nameOf n) (d : Int) (a : Int) (b : Int) imm = ((Isa.nameOf n ++ ⟨#[32]⟩) ++ Isa.joined [Isa.reg (d : Int), Isa.reg (a : Int), Isa.reg (b : Int)]) := by
        rw [e1, e2]; rw [e3]
        simp [Isa.textF, Isa.parts, Isa.atD, Isa.atA, Isa.atB, Isa.layD, Isa.layA, Isa.layB]
      rw [q]; exact r
    · have r := text_2_0 n h1 h2 (by rw [e1]; rfl) (by rw [e2]; rfl) (Isa.numOf n : Int) rfl (by simp; omega) d a b imm (by omega) (by omega) (by omega) him hE hn w hL
      have q : Isa.textF (Isa.formOf n) (Isa.numOf n) (Isa.shapeOf n) (Isa.nameOf n) (d : Int) (a : Int) (b : Int) imm = ((Isa.nameOf n ++ ⟨#[32]⟩) ++ Isa.joined [Isa.reg (d : Int), Isa.reg (a : Int), Isa.num imm]) := by
        rw [e1, e2]
        simp [Isa.textF, Isa.parts, Isa.atD, Isa.atA, Isa.atB, Isa.layD, Isa.layA, Isa.layB, e3]
      rw [q]; exact r
    · have r := text_2_1 n h1 h2 (by rw [e1]; rfl) (by rw [e2]; rfl) (Isa.numOf n : Int) rfl (by simp; omega) d a b imm (by omega) (by omega) (by omega) him hE hn w hL
      have q : Isa.textF (Isa.formOf n) (Isa.numOf n) (Isa.shapeOf n) (Isa.nameOf n) (d : Int) (a : Int) (b : Int) imm = (((((((Isa.nameOf n ++ ⟨#[32]⟩) ++ Isa.reg (d : Int)) ++ ⟨#[44, 32]⟩) ++ Isa.num imm) ++ ⟨#[40]⟩) ++ Isa.reg (a : Int)) ++ ⟨#[41]⟩) := by
        rw [e1, e2]
        simp [Isa.textF, Isa.parts, Isa.atD, Isa.atA, Isa.atB, Isa.layD, Isa.layA, Isa.layB, e3]
      rw [q]; exact r
    · have r := text_3_0 n h1 h2 (by rw [e1]; rfl) (by rw [e2]; rfl) (Isa.numOf n : Int) rfl (by simp; omega) d a b imm (by omega) (by omega) (by omega) him hE hn w hL
      have q : Isa.textF (Isa.formOf n) (Isa.numOf n) (Isa.shapeOf n) (Isa.nameOf n) (d : Int) (a : Int) (b : Int) imm = ((Isa.nameOf n ++ ⟨#[32]⟩) ++ Isa.joined [Isa.reg (a : Int), Isa.reg (b : Int), Isa.num imm]) := by
        rw [e1, e2]
        simp [Isa.textF, Isa.parts, Isa.atD, Isa.atA, Isa.atB, Isa.layD, Isa.layA, Isa.layB, e3]
      rw [q]; exact r
    · have r := text_3_1 n h1 h2 (by rw [e1]; rfl) (by rw [e2]; rfl) (Isa.numOf n : Int) rfl (by simp; omega) d a b imm (by omega) (by omega) (by omega) him hE hn w hL
      have q : Isa.textF (Isa.formOf n) (Isa.numOf n) (Isa.shapeOf n) (Isa.nameOf n) (d : Int) (a : Int) (b : Int) imm = (((((((Isa.nameOf n ++ ⟨#[32]⟩) ++ Isa.reg (b : Int)) ++ ⟨#[44, 32]⟩) ++ Isa.num imm) ++ ⟨#[40]⟩) ++ Isa.reg (a : Int)) ++ ⟨#[41]⟩) := by
        rw [e1, e2]
        simp [Isa.textF, Isa.parts, Isa.atD, Isa.atA, Isa.atB, Isa.layD, Isa.layA, Isa.layB, e3]
      rw [q]; exact r
    · have r := text_4_0 n h1 h2 (by rw [e1]; rfl) (by rw [e2]; rfl) (Isa.numOf n : Int) rfl (by simp; omega) d a b imm (by omega) (by omega) (by omega) him hE hn w hL
      have q : Isa.textF (Isa.formOf n) (Isa.numOf n) (Isa.shapeOf n) (Isa.nameOf n) (d : Int) (a : Int) (b : Int) imm = ((Isa.nameOf n ++ ⟨#[32]⟩) ++ Isa.joined [Isa.reg (d : Int), Isa.num imm]) := by
        rw [e1, e2]
        simp [Isa.textF, Isa.parts, Isa.atD, Isa.atA, Isa.atB, Isa.layD, Isa.layA, Isa.layB, e3]
      rw [q]; exact r
    · have r := text_5_0 n h1 h2 (by rw [e1]; rfl) (by rw [e2]; rfl) (Isa.numOf n : Int) rfl (by rw [e3]; rfl) d a b imm (by omega) (by omega) (by omega) him hE hn w hL
      have q : Isa.textF (Isa.formOf n) (Isa.numOf n) (Isa.shapeOf n) (Isa.nameOf n) (d : Int) (a : Int) (b : Int) imm = ((Isa.nameOf n ++ ⟨#[32]⟩) ++ Isa.joined [Isa.reg (d : Int)]) := by
        rw [e1, e2]; rw [e3]
        simp [Isa.textF, Isa.parts, Isa.atD, Isa.atA, Isa.atB, Isa.layD, Isa.layA, Isa.layB]
      rw [q]; exact r
    · have r := text_6_0 n h1 h2 (by rw [e1]; rfl) (by rw [e2]; rfl) (Isa.numOf n : Int) rfl (by rw [e3]; rfl) d a b imm (by omega) (by omega) (by omega) him hE hn w hL
      have q : Isa.textF (Isa.formOf n) (Isa.numOf n) (Isa.shapeOf n) (Isa.nameOf n) (d : Int) (a : Int) (b : Int) imm = ((Isa.nameOf n ++ ⟨#[32]⟩) ++ Isa.joined [Isa.reg (a : Int)]) := by
        rw [e1, e2]; rw [e3]
        simp [Isa.textF, Isa.parts, Isa.atD, Isa.atA, Isa.atB, Isa.layD, Isa.layA, Isa.layB]
      rw [q]; exact r
    · have r := text_7_0 n h1 h2 (by rw [e1]; rfl) (by rw [e2]; rfl) (Isa.numOf n : Int) rfl (by simp; omega) d a b imm (by omega) (by omega) (by omega) him hE hn w hL
      have q : Isa.textF (Isa.formOf n) (Isa.numOf n) (Isa.shapeOf n) (Isa.nameOf n) (d : Int) (a : Int) (b : Int) imm = ((Isa.nameOf n ++ ⟨#[32]⟩) ++ Isa.joined [Isa.num imm]) := by
        rw [e1, e2]
        simp [Isa.textF, Isa.parts, Isa.atD, Isa.atA, Isa.atB, Isa.layD, Isa.layA, Isa.layB, e3]
      rw [q]; exact r
    · have r := text_8_0 n h1 h2 (by rw [e1]; rfl) (by rw [e2]; rfl) (Isa.numOf n : Int) rfl (by rw [e3]; rfl) d a b imm (by omega) (by omega) (by omega) him hE hn w hL
      have q : Isa.textF (Isa.formOf n) (Isa.numOf n) (Isa.shapeOf n) (Isa.nameOf n) (d : Int) (a : Int) (b : Int) imm = (Isa.nameOf n) := by
        rw [e1, e2]; rw [e3]
        simp [Isa.textF, Isa.parts, Isa.atD, Isa.atA, Isa.atB, Isa.layD, Isa.layA, Isa.layB]
      rw [q]; exact r
  · rw [if_pos hE]
    exact text_none op d a b imm hd ha hb him hE w hL
end Go.Proofs.YtedjkbekhhffeaaDoor
namespace Go.Proofs.YtedjkbekhhffeaaDoor
open Go.RowKit
set_option linter.unusedSimpArgs false
set_option linter.unusedVariables false
theorem Isa.known_enc : Isa.enc 1 1 2 3 0 = (71876608, 0) := by decide
theorem Isa.known_dec : Isa.dec 71876608 = (1, 1, 2, 3, 0, 0) := by decide
theorem Isa.reg_one (n : Nat) (h : n < 10) : Isa.reg (n : Int) = ⟨#[114, UInt8.ofNat (48 + n)]⟩ := by
  unfold Isa.reg
  rw [Lib.itoa_nonneg, Lib.decDigits_one h]
theorem Isa.known_text : Isa.text 1 1 2 3 0 = ⟨#[97, 100, 100, 32, 114, 49, 44, 32, 114, 50, 44, 32, 114, 51]⟩ := by
  unfold Isa.text
  rw [Isa.known_enc, if_neg (by decide)]
  show Isa.textF 1 0 0 ⟨#[97, 100, 100]⟩ 1 2 3 0 = _
  have e : Isa.parts 1 0 1 2 3 0 = [⟨#[114, 49]⟩, ⟨#[114, 50]⟩, ⟨#[114, 51]⟩] := by
    show [Isa.reg ((1 : Nat) : Int), Isa.reg ((2 : Nat) : Int), Isa.reg ((3 : Nat) : Int)] = _
    rw [Isa.reg_one 1 (by decide), Isa.reg_one 2 (by decide), Isa.reg_one 3 (by decide)]
    rfl
  unfold Isa.textF
  rw [e, if_neg (by decide), if_neg (by simp)]
  rfl
theorem Isa.known_named : Isa.named ⟨#[97, 100, 100]⟩ = (1, true) := by
  unfold Isa.named
  show Isa.findFrom ⟨#[97, 100, 100]⟩ (47 + 1 + 1) 0 = _
  have h0 : ¬ (Isa.nameOf 0 = ⟨#[97, 100, 100]⟩ ∧ (⟨#[97, 100, 100]⟩ : ByteArray) ≠ ⟨#[]⟩) := fun hh => by
    have := congrArg ByteArray.size hh.1
    exact absurd this (by decide)
  have h1 : Isa.nameOf (0 + 1) = ⟨#[97, 100, 100]⟩ ∧ (⟨#[97, 100, 100]⟩ : ByteArray) ≠ ⟨#[]⟩ := ⟨rfl, fun hh => by
    have := congrArg ByteArray.size hh
    exact absurd this (by decide)⟩
  unfold Isa.findFrom
  rw [if_neg h0]
  unfold Isa.findFrom
  rw [if_pos h1]
  rfl
set_option maxHeartbeats 4000000 in
set_option maxRecDepth 100000 in
theorem known_calls (w : World) (hL : Isa.Laid w) : Calls Tryd.prog 9 #[] w fun e w' => e = .returned (.bool true) ∧ Below w.heap.size w w' := by
  go_enter Tryd.func9, Tryd.ntmps9
  go_wp2_with fail
  refine (Encode_calls 1 1 2 3 0 (by decide) (by decide) (by decide) (by decide) _ (hL.alloc _)).mono ?_
  rintro e w1 ⟨rfl, hb1⟩
  rw [Isa.known_enc]
  have k1 := blk_keep hb1 (heap_alloc_new _ _)
  obtain ⟨d1, f1⟩ := blk_facts k1
  have hL1 := (hL.alloc _).below hb1
  have HB1 := Lib.hid (below_next (below_alloc' (Below.refl _ _) _) hb1)
  go_wp2_with fail
  refine (Decode_calls 71876608 (by decide) (by decide) _ hL1).mono ?_
  rintro e w2 ⟨rfl, hb2⟩
  rw [Isa.known_dec]
  have k2 := blk_keep hb2 k1
  have hL2 := hL1.below hb2
  have HB2 := Lib.hid (below_next HB1.out hb2)
  clear d1 f1
  obtain ⟨d2, f2⟩ := blk_facts k2
  have z2 := blk_size k2
  have z2k : ∀ k, w.heap.size < w2.heap.size + k := fun k => by omega
  go_wp2_with fail
  refine (Text_calls 1 1 2 3 0 (by decide) (by decide) (by decide) (by decide) _ (hL2.alloc _)).mono ?_
  rintro e w3 ⟨rfl, hb3⟩
  rw [Isa.known_text]
  have k3 := blk_keep hb3 (blk_alloc _ k2)
  have j3 := blk_keep hb3 (heap_alloc_new _ _)
  have HB3 := Lib.hid (below_next (below_alloc' HB2.out _) hb3)
  clear d2 f2
  go_wp2_with fail
  refine (Named_calls ⟨#[97, 100, 100]⟩ _).mono ?_
  rintro e w4 ⟨rfl, hb4⟩
  rw [Isa.known_named]
  have k4 := blk_keep hb4 k3
  have j4 := blk_keep hb4 j3
  have HB4 := Lib.hid (below_next HB3.out hb4)
  go_wp2_with fail
  refine (Name_calls 1 _).mono ?_
  rintro e w5 ⟨rfl, hb5⟩
  rw [show Isa.nameOf (Isa.ix 1) = ⟨#[97, 100, 100]⟩ from rfl]
  obtain ⟨d5, f5⟩ := blk_facts (blk_keep hb5 k4)
  obtain ⟨c5, g5⟩ := blk_facts (blk_keep hb5 j4)
  have HB5 := Lib.hid (below_next HB4.out hb5)
  go_wp2_with fail
  go_ret
  exact ⟨rfl, HB5.out⟩
end Go.Proofs.YtedjkbekhhffeaaDoor
