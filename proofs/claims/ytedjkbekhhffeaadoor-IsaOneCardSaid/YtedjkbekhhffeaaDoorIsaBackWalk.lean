/- IsaBack: the walk of the law's body, and the plain facts that it asks for. -/
import Derived.Test.YtedjkbekhhffeaaDoorIsaTop
import Derived.Test.YtedjkbekhhffeaaDoorIsaBackRound
namespace Go.Proofs.YtedjkbekhhffeaaDoor
open Go.RowKit
set_option linter.unusedSimpArgs false
set_option linter.unusedVariables false
theorem Isa.named_name : ∀ n : Fin 49, 1 ≤ n.1 → Isa.named (Isa.nameOf n.1) = ((n.1 : Int), true) := by decide +kernel
theorem Isa.name_some : ∀ n : Fin 49, 1 ≤ n.1 → (!(Isa.nameOf n.1).data.toList.isEmpty) = true := by decide +kernel
theorem Isa.text_starts (f nu s : Nat) (nm : ByteArray) (d a b imm : Int) : ∃ t : ByteArray, Isa.textF f nu s nm d a b imm = nm ++ t := by
  unfold Isa.textF
  split
  · exact ⟨_, by simp only [ByteArray.append_assoc]; rfl⟩
  · split
    · exact ⟨⟨#[]⟩, by apply ByteArray.ext; simp [ByteArray.data_append]⟩
    · exact ⟨_, by simp only [ByteArray.append_assoc]; rfl⟩
set_option maxHeartbeats 4000000 in
set_option maxRecDepth 100000 in
theorem isaBack_no (x : Int) (hx0 : 0 ≤ x) (hx1 : x ≤ 4294967295) (hd : (Isa.dec x).2.2.2.2.2 ≠ 0) (w : World) (hL : Isa.Laid w) :
    Calls Tryd.prog 6 #[.int .u32 x] w fun e w' => e = .returned (.bool true) ∧ Below w.heap.size w w' := by
  have hz := Isa.dec_none_zero x hd
  obtain ⟨⟨r1, r2, r3, r4, r5, r6⟩, hr⟩ : ∃ r, Isa.dec x = r := ⟨_, rfl⟩
  have hD := Decode_calls x hx0 hx1
  rw [hr] at hz hD hd
  obtain ⟨rfl, rfl, rfl, rfl, rfl⟩ := hz
  have hq : (r6 == 0) = false := by simpa using hd
  clear hd hr
  go_enter Tryd.func6, Tryd.ntmps6
  go_wp2_with fail
  refine (known_calls _ hL).mono ?_
  rintro e w1 ⟨rfl, hb1⟩
  have hL1 := hL.below hb1
  have HB1 := Lib.hid (below_next (Below.refl _ _) hb1)
  go_wp2_with fail
  refine (hD _ hL1).mono ?_
  rintro e w2 ⟨rfl, hb2⟩
  have HB2 := Lib.hid (below_next HB1.out hb2)
  go_wp2_with fail
  go_ret
  exact ⟨rfl, below_alloc' HB2.out _⟩
set_option maxHeartbeats 4000000 in
set_option maxRecDepth 100000 in
theorem isaBack_yes (x : Int) (hx0 : 0 ≤ x) (hx1 : x ≤ 4294967295) (n : Nat) (d a b m : Int) (h1 : 1 ≤ n) (h2 : n < 49) (hd : 0 ≤ d ∧ d ≤ 255) (ha : 0 ≤ a ∧ a ≤ 255) (hb : 0 ≤ b ∧ b ≤ 255) (hm : -2147483648 ≤ m ∧ m ≤ 2147483647)
    (hdec : Isa.dec x = ((n : Int), d, a, b, m, 0)) (henc : Isa.enc (n : Int) d a b m = (x, 0)) (nm : ByteArray) (hnm : Isa.nameOf n = nm) (hne : (!nm.toList.isEmpty) = true) (hnamed : Isa.named nm = ((n : Int), true))
    (s : ByteArray) (hs : Isa.text (n : Int) d a b m = s) (hsz : nm.size ≤ s.size) (hss : s.size ≤ 1000) (hpre : s.extract 0 nm.size = nm) (fo : Nat) (hfo : Isa.formOf n = fo) (hf0 : 0 < fo) (w : World) (hL : Isa.Laid w) :
    Calls Tryd.prog 6 #[.int .u32 x] w fun e w' => e = .returned (.bool true) ∧ Below w.heap.size w w' := by
  have hix : Isa.ix (n : Int) = n := by unfold Isa.ix; rw [if_pos (by omega)]; rfl
  have hD := Decode_calls x hx0 hx1
  have hE := Encode_calls (n : Int) d a b m hd ha hb hm
  have hT := Text_calls (n : Int) d a b m hd ha hb hm
  have hN := Name_calls (n : Int)
  have hF := Form_calls (n : Int)
  have hM := Named_calls nm
  rw [hdec] at hD
  rw [henc] at hE
  rw [hs] at hT
  rw [hix, hnm] at hN
  rw [hix, hfo] at hF
  rw [hnamed] at hM
  have hq2 : decide ((0 : Int) < (fo : Int)) = true := by simp; omega
  have HS := Lib.hid hs
  have HNM := Lib.hid hnm
  clear hs hnm hfo hix hdec henc hnamed
  go_enter Tryd.func6, Tryd.ntmps6
  go_wp2_with fail
  refine (known_calls _ hL).mono ?_
  rintro e w1 ⟨rfl, hb1⟩
  have hL1 := hL.below hb1
  have HB1 := Lib.hid (below_next (Below.refl _ _) hb1)
  go_wp2_with fail
  refine (hD _ hL1).mono ?_
  rintro e w2 ⟨rfl, hb2⟩
  have hL2 := (hL1.below hb2).alloc (.cells #[.int .i64 (n : Int), .int .u8 d, .int .u8 a, .int .u8 b, .int .i32 m] 26)
  have HB2 := Lib.hid (below_next HB1.out hb2)
  go_wp2_with fail
  refine (hE _ hL2).mono ?_
  rintro e w3 ⟨rfl, hb3⟩
  have hL3 := hL2.below hb3
  have k3 := blk_keep hb3 (heap_alloc_new _ _)
  have HB3 := Lib.hid (below_next (below_alloc' HB2.out _) hb3)
  obtain ⟨d3, f3⟩ := blk_facts k3
  go_wp2_with fail
  refine (hN _).mono ?_
  rintro e w4 ⟨rfl, hb4⟩
  have hL4 := hL3.below hb4
  have k4 := blk_keep hb4 k3
  have HB4 := Lib.hid (below_next HB3.out hb4)
  clear d3 f3
  obtain ⟨d4, f4⟩ := blk_facts k4
  go_wp2_with fail
  refine (hM _).mono ?_
  rintro e w5 ⟨rfl, hb5⟩
  have hL5 := hL4.below hb5
  have k5 := blk_keep hb5 k4
  have HB5 := Lib.hid (below_next HB4.out hb5)
  clear d4 f4
  obtain ⟨d5, f5⟩ := blk_facts k5
  go_wp2_with fail
  refine (hT _ hL5).mono ?_
  rintro e w6 ⟨rfl, hb6⟩
  have k6 := blk_keep hb6 k5
  have HB6 := Lib.hid (below_next HB5.out hb6)
  clear d5 f5
  obtain ⟨d6, f6⟩ := blk_facts k6
  go_wp2_with fail
  refine (hF _).mono ?_
  rintro e w7 ⟨rfl, hb7⟩
  have k7 := blk_keep hb7 k6
  have HB7 := Lib.hid (below_next HB6.out hb7)
  clear d6 f6
  obtain ⟨d7, f7⟩ := blk_facts k7
  have hle : decide (nm.size ≤ s.size) = true := by simpa using hsz
  go_wp2_with fail
  go_ret
  exact ⟨rfl, HB7.out⟩
theorem Isa.enc_size (s : ByteArray) : s.size = s.data.toList.length := by rw [Array.length_toList]; rfl
theorem Isa.parts_size (f nu : Nat) (d a b imm : Int) (hd : 0 ≤ d ∧ d ≤ 255) (ha : 0 ≤ a ∧ a ≤ 255) (hb : 0 ≤ b ∧ b ≤ 255) (hm : -2147483648 ≤ imm ∧ imm ≤ 2147483647) : (∀ p ∈ Isa.parts f nu d a b imm, p.size ≤ 22) ∧ (Isa.parts f nu d a b imm).length ≤ 4 := by
  have sd := Isa.reg_size d (by omega) (by omega)
  have sa := Isa.reg_size a (by omega) (by omega)
  have sb := Isa.reg_size b (by omega) (by omega)
  have si := Isa.num_size imm (by omega) (by omega)
  unfold Isa.parts
  refine ⟨?_, ?_⟩
  · intro p hp
    simp only [List.mem_append] at hp
    rcases hp with ((hp | hp) | hp) | hp <;> (split at hp <;> simp at hp <;> (subst hp; omega))
  · split <;> split <;> split <;> split <;> simp
theorem Isa.textF_size (f nu s : Nat) (nm : ByteArray) (d a b imm : Int) (hn : nm.size ≤ 16) (hd : 0 ≤ d ∧ d ≤ 255) (ha : 0 ≤ a ∧ a ≤ 255) (hb : 0 ≤ b ∧ b ≤ 255) (hm : -2147483648 ≤ imm ∧ imm ≤ 2147483647) : (Isa.textF f nu s nm d a b imm).size ≤ 1000 := by
  have sa := Isa.reg_size a (by omega) (by omega)
  have si := Isa.num_size imm (by omega) (by omega)
  unfold Isa.textF
  split
  · have sx := Isa.reg_size (if 0 ≤ Isa.atB f then b else d) (by split <;> omega) (by split <;> omega)
    simp only [ByteArray.size_append]
    have e1 : (⟨#[32]⟩ : ByteArray).size = 1 := rfl
    have e2 : (⟨#[44, 32]⟩ : ByteArray).size = 2 := rfl
    have e3 : (⟨#[40]⟩ : ByteArray).size = 1 := rfl
    have e4 : (⟨#[41]⟩ : ByteArray).size = 1 := rfl
    omega
  · split
    · omega
    · have hp := Isa.parts_size f nu d a b imm hd ha hb hm
      have hj := Isa.joined_size (Isa.parts f nu d a b imm) 22 hp.1
      have e1 : (⟨#[32]⟩ : ByteArray).size = 1 := rfl
      simp only [ByteArray.size_append]
      have := hp.2
      omega
theorem isaBack_walk (x : Int) (hx0 : 0 ≤ x) (hx1 : x ≤ 4294967295) (w : World) (hL : Isa.Laid w) :
    Calls Tryd.prog 6 #[.int .u32 x] w fun e w' => e = .returned (.bool true) ∧ Below w.heap.size w w' := by
  by_cases h : (Isa.dec x).2.2.2.2.2 = 0
  · obtain ⟨op, d, a, b, m, e1, e2, o1, o2, d1, d2, a1, a2, b1, b2, m1, m2⟩ := Isa.enc_dec hx0 hx1 h
    obtain ⟨n, rfl⟩ : ∃ n : Nat, op = (n : Int) := ⟨op.toNat, by omega⟩
    have hn2 : n < 49 := by omega
    have hn1 : 1 ≤ n := by omega
    have ht : Isa.text (n : Int) d a b m = Isa.textF (Isa.formOf n) (Isa.numOf n) (Isa.shapeOf n) (Isa.nameOf n) d a b m := by
      unfold Isa.text
      rw [e2, if_neg (fun hh => hh rfl)]
      rfl
    have hs16 := Isa.name_le ⟨n, hn2⟩
    simp only at hs16
    obtain ⟨t, htt⟩ := Isa.text_starts (Isa.formOf n) (Isa.numOf n) (Isa.shapeOf n) (Isa.nameOf n) d a b m
    have hsz := Isa.textF_size (Isa.formOf n) (Isa.numOf n) (Isa.shapeOf n) (Isa.nameOf n) d a b m hs16 (by omega) (by omega) (by omega) (by omega)
    have hle : (Isa.nameOf n).size ≤ (Isa.textF (Isa.formOf n) (Isa.numOf n) (Isa.shapeOf n) (Isa.nameOf n) d a b m).size := by
      rw [htt, ByteArray.size_append]; omega
    have hpre : (Isa.textF (Isa.formOf n) (Isa.numOf n) (Isa.shapeOf n) (Isa.nameOf n) d a b m).extract 0 (Isa.nameOf n).size = Isa.nameOf n := by
      rw [htt]
      exact ByteArray.extract_append_eq_left rfl
    exact isaBack_yes x hx0 hx1 n d a b m hn1 hn2 (by omega) (by omega) (by omega) ⟨m1, m2⟩ e1 e2 _ rfl (by rw [ByteArray.toList_eq]; exact Isa.name_some ⟨n, hn2⟩ hn1) (Isa.named_name ⟨n, hn2⟩ hn1) _ ht hle hsz hpre _ rfl ((Isa.table_facts ⟨n, hn2⟩).2.2.2.1 hn1) w hL
  · exact isaBack_no x hx0 hx1 h w hL
end Go.Proofs.YtedjkbekhhffeaaDoor
