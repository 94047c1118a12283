/- What this claim needs of RenAsm, RenFin, RenWritten, RenNews. -/
import Derived.Test.YtabmlbnnhhpaoaaGreatDoorDMRenG
import Derived.Test.YtabmlbnnhhpaoaaGreatDoorBMAsmHexG
import Derived.Laws.MakeOwn
set_option linter.unusedSimpArgs false
set_option linter.unusedVariables false
namespace Go.Proofs.YtabmlbnnhhpaoaaGreatDoor
open Go.RowKit Go.Shelf
namespace Asm
def absW (kind : Nat) (at_ a : Int) : List Int :=
 if kind = 0 then [(Isa.enc 32 0 1 2 ((a - at_).tdiv 4)).1]
 else if kind = 1 then [(Isa.enc 38 15 0 0 ((a - at_).tdiv 4)).1]
 else if kind = 2 then [7, a % 4294967296, 4294967295]
 else if kind = 3 then [(Isa.enc 23 3 0 0 (a % 4294967296 / 16384)).1, (Isa.enc 16 3 3 0 (a % 16384)).1]
 else if kind = 4 then [(Isa.enc 28 4 0 0 a).1]
 else [(Isa.enc 1 1 2 3 0).1]
theorem enc_beq (m : Int) (h0 : -10000 ≤ m) (h1 : m ≤ 10000) : (Isa.enc 32 0 1 2 m).2 = 0 := by
 have e : Isa.enc 32 0 1 2 m = Isa.encF 3 1 32 0 1 2 m := by
  unfold Isa.enc
  rw [if_neg (by decide), show Isa.formOf (32 : Int).toNat = 3 by decide +kernel, show Isa.numOf (32 : Int).toNat = 1 by decide +kernel]
 rw [e]
 unfold Isa.encF
 rw [if_neg (by decide), if_pos]
 unfold Isa.fits
 rw [if_pos rfl, show Isa.bits 3 - 1 = 17 by decide]
 simp
 omega
theorem enc_jal (m : Int) (h0 : -10000 ≤ m) (h1 : m ≤ 10000) : (Isa.enc 38 15 0 0 m).2 = 0 := by
 have e : Isa.enc 38 15 0 0 m = Isa.encF 4 1 38 15 0 0 m := by
  unfold Isa.enc
  rw [if_neg (by decide), show Isa.formOf (38 : Int).toNat = 4 by decide +kernel, show Isa.numOf (38 : Int).toNat = 1 by decide +kernel]
 rw [e]
 unfold Isa.encF
 rw [if_neg (by decide), if_pos]
 unfold Isa.fits
 rw [if_pos rfl, show Isa.bits 4 - 1 = 21 by decide]
 simp
 omega
theorem enc_lw (m : Int) (h0 : 0 ≤ m) (h1 : m ≤ 20000) : (Isa.enc 28 4 0 0 m).2 = 0 := by
 have e : Isa.enc 28 4 0 0 m = Isa.encF 2 1 28 4 0 0 m := by
  unfold Isa.enc
  rw [if_neg (by decide), show Isa.formOf (28 : Int).toNat = 2 by decide +kernel, show Isa.numOf (28 : Int).toNat = 1 by decide +kernel]
 rw [e]
 unfold Isa.encF
 rw [if_neg (by decide), if_pos]
 unfold Isa.fits
 rw [if_pos rfl, show Isa.bits 2 - 1 = 17 by decide]
 simp
 omega
theorem st_piece_ok (o : List UInt8) (ho : o ≠ []) (hol : o.length ≤ 16) (kind : Nat) (hk : kind < 6) (line : Int) (at_ a : Nat) (hat : at_ ≤ 20000) (ha : a ≤ 20000) (S : PS) (hv : valOf S ⟨o, 0⟩ = (a : Int)) (hvk : valOk S ⟨o, 0⟩ = true) :
 PieceOk S (stPiece o kind line (at_ : Int)) ∧ wordsOf S (stPiece o kind line (at_ : Int)) = absW kind (at_ : Int) (a : Int) := by
 have hg32 : numAt S (at_ : Int) ⟨32, 0, 1, 2, 0⟩ ⟨o, 0⟩ = ((a : Int) - at_).tdiv 4 := by unfold numAt; rw [if_pos ⟨ho, by decide⟩, hv]
 have hg38 : numAt S (at_ : Int) ⟨38, 15, 0, 0, 0⟩ ⟨o, 0⟩ = ((a : Int) - at_).tdiv 4 := by unfold numAt; rw [if_pos ⟨ho, by decide⟩, hv]
 have hg28 : numAt S (at_ : Int) ⟨28, 4, 0, 0, 0⟩ ⟨o, 0⟩ = (a : Int) := by unfold numAt; rw [if_neg (fun h => absurd h.2 (by decide)), hv]
 have hg1 : numAt S (at_ : Int) ⟨1, 1, 2, 3, 0⟩ ⟨[], 0⟩ = 0 := by simp [numAt, valOf]
 have hd0 : -10000 ≤ ((a : Int) - at_).tdiv 4 ∧ ((a : Int) - at_).tdiv 4 ≤ 10000 := by
  rcases Int.le_total 0 ((a : Int) - at_) with h | h
  · rw [Int.tdiv_eq_ediv_of_nonneg h]; omega
  · have e : ((a : Int) - at_).tdiv 4 = -((at_ : Int) - a).tdiv 4 := by rw [← Int.neg_tdiv]; congr 1; omega
    rw [e, Int.tdiv_eq_ediv_of_nonneg (by omega)]; omega
 match kind, hk with
 | 0, _ =>
  refine ⟨?_, ?_⟩
  · show EncOk S ⟨line, at_, ⟨32, 0, 1, 2, 0⟩, ⟨o, 0⟩, .enc⟩
    exact ⟨⟨by simp, by simp, by simp⟩, by show o.length ≤ _; omega, hvk, by show (0 : Int) ≤ at_; omega, by show (at_ : Int) ≤ _; omega, by show _ ≤ valOf S ⟨o, 0⟩; rw [hv]; omega, by show valOf S ⟨o, 0⟩ ≤ _; rw [hv]; omega, by show _ ≤ numAt S at_ ⟨32, 0, 1, 2, 0⟩ ⟨o, 0⟩; rw [hg32]; omega, by show numAt S at_ ⟨32, 0, 1, 2, 0⟩ ⟨o, 0⟩ ≤ _; rw [hg32]; omega, by show (Isa.enc 32 0 1 2 (numAt S at_ ⟨32, 0, 1, 2, 0⟩ ⟨o, 0⟩)).2 = 0; rw [hg32]; exact enc_beq _ hd0.1 hd0.2⟩
  · show [wordAt S at_ ⟨32, 0, 1, 2, 0⟩ ⟨o, 0⟩] = _
    unfold wordAt
    rw [hg32]
    rfl
 | 1, _ =>
  refine ⟨?_, ?_⟩
  · show EncOk S ⟨line, at_, ⟨38, 15, 0, 0, 0⟩, ⟨o, 0⟩, .enc⟩
    exact ⟨⟨by simp, by simp, by simp⟩, by show o.length ≤ _; omega, hvk, by show (0 : Int) ≤ at_; omega, by show (at_ : Int) ≤ _; omega, by show _ ≤ valOf S ⟨o, 0⟩; rw [hv]; omega, by show valOf S ⟨o, 0⟩ ≤ _; rw [hv]; omega, by show _ ≤ numAt S at_ ⟨38, 15, 0, 0, 0⟩ ⟨o, 0⟩; rw [hg38]; omega, by show numAt S at_ ⟨38, 15, 0, 0, 0⟩ ⟨o, 0⟩ ≤ _; rw [hg38]; omega, by show (Isa.enc 38 15 0 0 (numAt S at_ ⟨38, 15, 0, 0, 0⟩ ⟨o, 0⟩)).2 = 0; rw [hg38]; exact enc_jal _ hd0.1 hd0.2⟩
  · show [wordAt S at_ ⟨38, 15, 0, 0, 0⟩ ⟨o, 0⟩] = _
    unfold wordAt
    rw [hg38]
    rfl
 | 2, _ =>
  have f7 : FullOk S ⟨[], 7⟩ := ⟨by simp, by simp [valOk], by simp [valOf], by simp [valOf]⟩
  have fm : FullOk S ⟨[], -1⟩ := ⟨by simp, by simp [valOk], by simp [valOf], by simp [valOf]⟩
  have fo : FullOk S ⟨o, 0⟩ := ⟨by show o.length ≤ _; omega, hvk, by rw [hv]; omega, by rw [hv]; omega⟩
  refine ⟨⟨by simp, by simp, fun v hv => ?_⟩, ?_⟩
  · simp at hv
    rcases hv with rfl | rfl | rfl
    · exact f7
    · exact fo
    · exact fm
  · show [valOf S ⟨[], 7⟩ % 4294967296, valOf S ⟨o, 0⟩ % 4294967296, valOf S ⟨[], -1⟩ % 4294967296] = _
    rw [hv, show valOf S ⟨[], 7⟩ = 7 by simp [valOf], show valOf S ⟨[], -1⟩ = -1 by simp [valOf]]
    rfl
 | 3, _ =>
  refine ⟨⟨⟨by show o.length ≤ _; omega, hvk, by show _ ≤ valOf S ⟨o, 0⟩; rw [hv]; omega, by show valOf S ⟨o, 0⟩ ≤ _; rw [hv]; omega⟩, by show (0 : Int) ≤ 3; decide, by show (3 : Int) ≤ 15; decide⟩, ?_⟩
  show [(Isa.enc 23 3 0 0 (valOf S ⟨o, 0⟩ % 4294967296 / 16384)).1, (Isa.enc 16 3 3 0 (valOf S ⟨o, 0⟩ % 16384)).1] = _
  rw [hv]
  rfl
 | 4, _ =>
  refine ⟨?_, ?_⟩
  · show EncOk S ⟨line, at_, ⟨28, 4, 0, 0, 0⟩, ⟨o, 0⟩, .enc⟩
    exact ⟨⟨by simp, by simp, by simp⟩, by show o.length ≤ _; omega, hvk, by show (0 : Int) ≤ at_; omega, by show (at_ : Int) ≤ _; omega, by show _ ≤ valOf S ⟨o, 0⟩; rw [hv]; omega, by show valOf S ⟨o, 0⟩ ≤ _; rw [hv]; omega, by show _ ≤ numAt S at_ ⟨28, 4, 0, 0, 0⟩ ⟨o, 0⟩; rw [hg28]; omega, by show numAt S at_ ⟨28, 4, 0, 0, 0⟩ ⟨o, 0⟩ ≤ _; rw [hg28]; omega, by show (Isa.enc 28 4 0 0 (numAt S at_ ⟨28, 4, 0, 0, 0⟩ ⟨o, 0⟩)).2 = 0; rw [hg28]; exact enc_lw _ (by omega) (by omega)⟩
  · show [wordAt S at_ ⟨28, 4, 0, 0, 0⟩ ⟨o, 0⟩] = _
    unfold wordAt
    rw [hg28]
    rfl
 | 5, _ =>
  refine ⟨?_, ?_⟩
  · show EncOk S ⟨line, at_, ⟨1, 1, 2, 3, 0⟩, ⟨[], 0⟩, .enc⟩
    exact ⟨⟨by simp, by simp, by simp⟩, by simp, by simp [valOk], by show (0 : Int) ≤ at_; omega, by show (at_ : Int) ≤ _; omega, by simp [valOf], by simp [valOf], by show _ ≤ numAt S at_ ⟨1, 1, 2, 3, 0⟩ ⟨[], 0⟩; rw [hg1]; omega, by show numAt S at_ ⟨1, 1, 2, 3, 0⟩ ⟨[], 0⟩ ≤ _; rw [hg1]; omega, by show (Isa.enc 1 1 2 3 (numAt S at_ ⟨1, 1, 2, 3, 0⟩ ⟨[], 0⟩)).2 = 0; rw [hg1]; decide +kernel⟩
  · show [wordAt S at_ ⟨1, 1, 2, 3, 0⟩ ⟨[], 0⟩] = _
    unfold wordAt
    rw [hg1]
    rfl
 | n + 6, h => exact absurd h (by omega)
theorem tail_steps {N : Nat → List UInt8} (hN : NamesOk N) : ∀ (ks : List Nat) {S : PS} {labs : List (Nat × Nat)} {cnt m : Nat}, RS N S labs cnt m → (∀ p ∈ labs, p.1 < 5) → (∀ k ∈ ks, k < 5) → (labs.map (·.1) ++ ks).Nodup → m + ks.length ≤ 900000 → cnt ≤ 4096 →
 ∃ S', Steps S (ks.map fun k => N k ++ [58]) S' ∧ RS N S' (labs ++ ks.map fun k => (k, 4 * cnt)) cnt (m + ks.length) ∧ S'.pieces = S.pieces
 | [], S, labs, cnt, m, h, _, _, _, _, _ => ⟨S, .nil S, by simpa using h, rfl⟩
 | k :: ks, S, labs, cnt, m, h, hl, hks, hnd, hm, hc => by
  simp only [List.length_cons] at hm
  have hk := hks k (by simp)
  have hnk : k ∉ labs.map (·.1) := fun hin => (List.nodup_append.1 hnd).2.2 k hin k (by simp) rfl
  obtain ⟨k1, k2, k3⟩ := h.mark hN hk (fun p hp => ⟨hl p hp, fun e => hnk (e ▸ List.mem_map_of_mem hp)⟩) hc
  have hb := h.bnd (by omega) hc
  have hnl := nameOk_len (hN.ok k hk)
  have hone : OneOk S (N k ++ [58]) (marked { S with line := S.line + 1, toks := [], fresh := S.fresh ++ [N k] }) := fun B w hP =>
   one_LBx (N k ++ [58]) (by simp; omega) B S ⟨0, N k, 0⟩ ⟨2, [58], 0⟩ rfl (by show (N k).length ≤ _; omega) (hN.ok k hk) ⟨rfl, rfl⟩ (lab_tokens (hN.ok k hk)) hb (by rw [h.line]; omega) (by rw [h.fresh]; decide) k1 w hP
  obtain ⟨S2, i1, i2, i3⟩ := tail_steps hN ks k2 (fun p hp => by
   rcases List.mem_append.1 hp with hp | hp
   · exact hl p hp
   · simp at hp; subst hp; exact hk) (fun x hx => hks x (List.mem_cons_of_mem _ hx)) (by simpa [List.append_assoc] using hnd) (by omega) hc
  refine ⟨S2, .cons hone i1, ?_, i3.trans k3⟩
  rw [List.length_cons, show m + (ks.length + 1) = m + 1 + ks.length by omega]
  simpa [List.append_assoc] using i2
def allLabs (ls : List Ln) (ks : List Nat) : List (Nat × Nat) := rLabs ls 0 ++ ks.map fun k => (k, 4 * rCnt ls 0)
def adr (labs : List (Nat × Nat)) (t : Nat) : Nat := ((labs.find? fun p => p.1 == t).map (·.2)).getD 0
def allWords (ls : List Ln) (ks : List Nat) : List Int := (rPcs ls 0).flatMap fun q => absW q.1 ((q.2.2 : Nat) : Int) ((adr (allLabs ls ks) q.2.1 : Nat) : Int)
def renText (N : Nat → List UInt8) (ls : List Ln) (ks : List Nat) : List UInt8 := (ls.flatMap fun l => lnText N l ++ [10]) ++ ks.flatMap fun k => N k ++ [58, 10]
theorem rCnt_le : ∀ (ls : List Ln) (c : Nat), rCnt ls c ≤ c + 3 * ls.length
 | [], c => by simp [rCnt]
 | l :: ls, c => by
  have h1 := rCnt_le ls (c + stCnt l.kind)
  have h2 := (stCnt_le l.kind).2
  rw [rCnt, List.length_cons]
  omega
theorem rLabs_le : ∀ (ls : List Ln) (c : Nat), ∀ p ∈ rLabs ls c, p.2 ≤ 4 * (c + 3 * ls.length)
 | [], c => by intro p hp; cases hp
 | l :: ls, c => by
  intro p hp
  have h2 := (stCnt_le l.kind).2
  rw [List.length_cons]
  rw [rLabs] at hp
  rcases List.mem_append.1 hp with hp | hp
  · unfold labOf at hp
    split at hp
    · cases hp
    · simp at hp; subst hp; simp; omega
  · have := rLabs_le ls (c + stCnt l.kind) p hp; omega
theorem rPcs_ok : ∀ (ls : List Ln) (c : Nat), (∀ l ∈ ls, LnOk l) → ∀ q ∈ rPcs ls c, q.1 < 6 ∧ q.2.1 < 5 ∧ q.2.2 ≤ 4 * (c + 3 * ls.length)
 | [], c, _ => by intro q hq; cases hq
 | l :: ls, c, h => by
  intro q hq
  have h2 := (stCnt_le l.kind).2
  rw [List.length_cons]
  rw [rPcs] at hq
  rcases List.mem_cons.1 hq with rfl | hq
  · exact ⟨(h l (by simp)).kind, (h l (by simp)).tgt, by simp; omega⟩
  · obtain ⟨a, b, d⟩ := rPcs_ok ls (c + stCnt l.kind) (fun x hx => h x (List.mem_cons_of_mem _ hx)) q hq
    exact ⟨a, b, by omega⟩
theorem Pcs.words {N : Nat → List UInt8} (hN : NamesOk N) {S : PS} {labs : List (Nat × Nat)} (hv : ∀ t, t < 5 → valOf S ⟨N t, 0⟩ = ((adr labs t : Nat) : Int) ∧ valOk S ⟨N t, 0⟩ = true ∧ adr labs t ≤ 20000) {ps : List Piece} {qs : List (Nat × Nat × Nat)} (h : Pcs N ps qs) :
 (∀ q ∈ qs, q.1 < 6 ∧ q.2.1 < 5 ∧ q.2.2 ≤ 20000) → (∀ p ∈ ps, PieceOk S p) ∧ ps.flatMap (wordsOf S) = qs.flatMap fun q => absW q.1 ((q.2.2 : Nat) : Int) ((adr labs q.2.1 : Nat) : Int) := by
 induction h with
 | nil => intro _; exact ⟨(by intro p hp; cases hp), rfl⟩
 | @cons p q ps qs h k ih =>
  intro hq
  obtain ⟨line, rfl⟩ := h
  obtain ⟨h1, h2, h3⟩ := hq q (by simp)
  obtain ⟨v1, v2, v3⟩ := hv q.2.1 h2
  obtain ⟨o1, o2⟩ := st_piece_ok (N q.2.1) (name_ne hN h2) (nameOk_len (hN.ok _ h2)) q.1 h1 line q.2.2 (adr labs q.2.1) h3 v3 S v1 v2
  obtain ⟨i1, i2⟩ := ih (fun x hx => hq x (List.mem_cons_of_mem _ hx))
  refine ⟨fun p hp => ?_, ?_⟩
  · rcases List.mem_cons.1 hp with rfl | hp
    · exact o1
    · exact i1 p hp
  · rw [List.flatMap_cons, List.flatMap_cons, o2, i2]
end Asm
end Go.Proofs.YtabmlbnnhhpaoaaGreatDoor
namespace Go.Proofs.YtabmlbnnhhpaoaaGreatDoor
open Go.RowKit Go.Shelf
namespace Asm
theorem lines_flat : ∀ (E : List (List UInt8)) (r : List UInt8), (∀ l ∈ E, ∀ c ∈ l, c ≠ 10) → lines ((E.flatMap fun l => l ++ [10]) ++ r) = E ++ lines r
 | [], r, _ => rfl
 | l :: E, r, h => by
  rw [List.flatMap_cons, List.append_assoc, List.append_assoc, List.singleton_append, lines_cat _ _ (h l (by simp)), lines_flat E r (fun x hx => h x (List.mem_cons_of_mem _ hx))]
  rfl
theorem ren_flat (N : Nat → List UInt8) (ls : List Ln) (ks : List Nat) : renText N ls ks = ((ls.map (lnText N) ++ ks.map fun k => N k ++ [58]).flatMap fun l => l ++ [10]) ++ [] := by
 unfold renText
 rw [List.append_nil, List.flatMap_append, List.flatMap_map, List.flatMap_map]
 simp
theorem st_nonl {o : List UInt8} (ho : ∀ c ∈ o, c ≠ 10) (kind : Nat) (hk : kind < 6) : ∀ c ∈ stText o kind, c ≠ 10 := by
 have k0 : ∀ c ∈ ([98, 101, 113, 32, 114, 49, 44, 32, 114, 50, 44, 32] : List UInt8), c ≠ 10 := by decide
 have k1 : ∀ c ∈ ([99, 97, 108, 108, 32] : List UInt8), c ≠ 10 := by decide
 have k2 : ∀ c ∈ ([46, 119, 111, 114, 100, 32, 55, 44, 32] : List UInt8), c ≠ 10 := by decide
 have k2b : ∀ c ∈ ([44, 32, 45, 49] : List UInt8), c ≠ 10 := by decide
 have k3 : ∀ c ∈ ([108, 105, 32, 114, 51, 44, 32] : List UInt8), c ≠ 10 := by decide
 have k4 : ∀ c ∈ ([108, 119, 32, 114, 52, 44, 32] : List UInt8), c ≠ 10 := by decide
 have k4b : ∀ c ∈ ([40, 114, 48, 41] : List UInt8), c ≠ 10 := by decide
 have k5 : ∀ c ∈ ([97, 100, 100, 32, 114, 49, 44, 32, 114, 50, 44, 32, 114, 51] : List UInt8), c ≠ 10 := by decide
 have cat : ∀ a b : List UInt8, (∀ c ∈ a, c ≠ 10) → (∀ c ∈ b, c ≠ 10) → ∀ c ∈ a ++ b, c ≠ 10 := fun a b ha hb c hc => (List.mem_append.1 hc).elim (ha c) (hb c)
 match kind, hk with
 | 0, _ => exact cat _ _ k0 ho
 | 1, _ => exact cat _ _ k1 ho
 | 2, _ => exact cat _ _ (cat _ _ k2 ho) k2b
 | 3, _ => exact cat _ _ k3 ho
 | 4, _ => exact cat _ _ (cat _ _ k4 ho) k4b
 | 5, _ => exact k5
 | n + 6, h => exact absurd h (by omega)
theorem ln_nonl {N : Nat → List UInt8} (hN : NamesOk N) {l : Ln} (hl : LnOk l) : ∀ c ∈ lnText N l, c ≠ 10 := by
 have h1 := st_nonl (hN.nonl _ hl.tgt) l.kind hl.kind
 unfold lnText
 intro c hc
 rcases List.mem_append.1 hc with hc | hc
 · cases hq : l.lab with
   | none => rw [hq] at hc; cases hc
   | some k =>
    rw [hq] at hc
    rcases List.mem_append.1 hc with hc | hc
    · exact hN.nonl k (hl.lab k hq) c hc
    · have key : ∀ d ∈ ([58, 32] : List UInt8), d ≠ 10 := by decide
      exact key c hc
 · exact h1 c hc
theorem rLabs_lt : ∀ (ls : List Ln) (c : Nat), (∀ l ∈ ls, LnOk l) → ∀ p ∈ rLabs ls c, p.1 < 5
 | [], c, _ => by intro p hp; cases hp
 | l :: ls, c, h => by
  intro p hp
  rw [rLabs] at hp
  rcases List.mem_append.1 hp with hp | hp
  · unfold labOf at hp
    split at hp
    · cases hp
    · rename_i k hq
      simp at hp; subst hp
      exact (h l (by simp)).lab k hq
  · exact rLabs_lt ls _ (fun x hx => h x (List.mem_cons_of_mem _ hx)) p hp
theorem ren_len {N : Nat → List UInt8} (hN : NamesOk N) (ls : List Ln) (ks : List Nat) (hls : ∀ l ∈ ls, LnOk l) (hks : ∀ k ∈ ks, k < 5) : (renText N ls ks).length ≤ 101 * ls.length + 18 * ks.length := by
 have h1 : ∀ l : List Ln, (∀ x ∈ l, LnOk x) → (l.flatMap fun l => lnText N l ++ [10]).length ≤ 101 * l.length := by
  intro l
  induction l with
  | nil => simp
  | cons x l ih =>
   intro h
   have := ln_len hN (h x (by simp))
   have := ih (fun y hy => h y (List.mem_cons_of_mem _ hy))
   rw [List.flatMap_cons, List.length_append, List.length_append, List.length_cons]
   simp only [List.length_cons, List.length_nil]
   omega
 have h2 : ∀ l : List Nat, (∀ x ∈ l, x < 5) → (l.flatMap fun k => N k ++ [58, 10]).length ≤ 18 * l.length := by
  intro l
  induction l with
  | nil => simp
  | cons x l ih =>
   intro h
   have := nameOk_len (hN.ok x (h x (by simp)))
   have := ih (fun y hy => h y (List.mem_cons_of_mem _ hy))
   rw [List.flatMap_cons, List.length_append, List.length_append, List.length_cons]
   simp only [List.length_cons, List.length_nil]
   omega
 unfold renText
 rw [List.length_append]
 have := h1 ls hls
 have := h2 ks hks
 omega
theorem ren_state {N : Nat → List UInt8} (hN : NamesOk N) (ls : List Ln) (ks : List Nat) (hls : ∀ l ∈ ls, LnOk l) (hn : ls.length ≤ 60) (hks : ∀ k ∈ ks, k < 5) (hnd : ((rLabs ls 0).map (·.1) ++ ks).Nodup) (hall : ∀ t, t < 5 → t ∈ (rLabs ls 0).map (·.1) ++ ks) (hkl : ks.length ≤ 5) :
 ∃ S, Steps init (lines (renText N ls ks)) S ∧ S.toks = [] ∧ Bnd S ∧ S.origin = 0 ∧ S.labels = (allLabs ls ks).map (fun p => (N p.1, (p.2 : Int))) ∧ (∀ x ∈ S.pieces, PieceOk S x) ∧ wordsTo S S.pieces.length = (allWords ls ks).map word32 := by
 have h0 : RS N init [] 0 0 := ⟨rfl, rfl, rfl, rfl, rfl, Nat.le_refl _, rfl, Nat.le_refl _, Nat.le_refl _, ⟨[], rfl⟩, fun n _ => rfl, (by intro p hp; cases hp)⟩
 have hlt := rLabs_lt ls 0 hls
 have hnd1 := (List.nodup_append.1 hnd).1
 have hcnt := rCnt_le ls 0
 obtain ⟨S1, k1, k2, ps, k3, k4⟩ := ren_steps hN ls h0 hls (by simpa using hlt) (by simpa using hnd1) (by omega) (by omega)
 rw [List.nil_append] at k2
 obtain ⟨S2, i1, i2, i3⟩ := tail_steps hN ks k2 hlt hks hnd (by omega) (by omega)
 have hb := i2.bnd (by omega) (by omega)
 have hmk : marked { S2 with line := S2.line + 1, toks := [], fresh := S2.fresh } = { S2 with line := S2.line + 1, toks := [] } := by
  unfold marked
  rw [show ({ S2 with line := S2.line + 1, toks := [], fresh := S2.fresh } : PS).fresh = [] from i2.fresh]
 have hend : OneOk S2 [] { S2 with line := S2.line + 1, toks := [] } := fun B w hP => by
  have h := one_NBx [] (by decide) B S2 (by decide +kernel) hb (by rw [i2.line]; omega) (by rw [i2.fresh]; decide) (by unfold markOk; rw [show ({ S2 with line := S2.line + 1, toks := [], fresh := S2.fresh } : PS).fresh = [] from i2.fresh]) w hP
  rw [hmk] at h
  exact h
 have hln : lines (renText N ls ks) = ls.map (lnText N) ++ (ks.map (fun k => N k ++ [58]) ++ [[]]) := by
  rw [ren_flat, lines_flat _ _ (by
   intro l hl
   rcases List.mem_append.1 hl with hl | hl
   · obtain ⟨x, hx, rfl⟩ := List.mem_map.1 hl
     exact ln_nonl hN (hls x hx)
   · obtain ⟨x, hx, rfl⟩ := List.mem_map.1 hl
     intro c hc
     rcases List.mem_append.1 hc with hc | hc
     · exact hN.nonl x (hks x hx) c hc
     · simp at hc; subst hc; decide), List.append_assoc]
  rfl
 have hps : S2.pieces = ps := by rw [i3, k3]; rfl
 have hadr : ∀ t, t < 5 → ∃ p ∈ allLabs ls ks, p.1 = t ∧ adr (allLabs ls ks) t = p.2 := by
  intro t ht
  have hin := hall t ht
  have hex : ∃ p ∈ allLabs ls ks, p.1 = t := by
   rcases List.mem_append.1 hin with h | h
   · obtain ⟨p, hp, rfl⟩ := List.mem_map.1 h
     exact ⟨p, List.mem_append_left _ hp, rfl⟩
   · exact ⟨(t, 4 * rCnt ls 0), List.mem_append_right _ (List.mem_map.2 ⟨t, h, rfl⟩), rfl⟩
  obtain ⟨p, hp, hpt⟩ := hex
  cases hf : (allLabs ls ks).find? (fun p => p.1 == t) with
  | none =>
   have := List.find?_eq_none.1 hf p hp
   simp [hpt] at this
  | some q =>
   have h1 := List.find?_some hf
   exact ⟨q, List.mem_of_find?_eq_some hf, by simpa using h1, by unfold adr; rw [hf]; rfl⟩
 have hle : ∀ p ∈ allLabs ls ks, p.2 ≤ 20000 := by
  intro p hp
  rcases List.mem_append.1 hp with h | h
  · have := rLabs_le ls 0 p h; omega
  · obtain ⟨k, _, rfl⟩ := List.mem_map.1 h
    simp
    omega
 have hval : ∀ t, t < 5 → valOf { S2 with line := S2.line + 1, toks := [] } ⟨N t, 0⟩ = ((adr (allLabs ls ks) t : Nat) : Int) ∧ valOk { S2 with line := S2.line + 1, toks := [] } ⟨N t, 0⟩ = true ∧ adr (allLabs ls ks) t ≤ 20000 := by
  intro t ht
  obtain ⟨p, hp, rfl, e⟩ := hadr t ht
  rw [e]
  obtain ⟨v1, v2⟩ := i2.val p hp
  exact ⟨v1, v2, hle p hp⟩
 obtain ⟨w1, w2⟩ := Pcs.words hN hval k4 (fun q hq => by
  obtain ⟨a, b, d⟩ := rPcs_ok ls 0 hls q hq
  exact ⟨a, b, by omega⟩)
 refine ⟨{ S2 with line := S2.line + 1, toks := [] }, ?_, rfl, ⟨hb.o0, hb.o1, hb.c, hb.puts, hb.labels, hb.pieces, ?_, ?_⟩, i2.origin, i2.labels, ?_, ?_⟩
 · rw [hln]
   exact k1.append (i1.append (.cons hend (.nil _)))
 · show 0 ≤ S2.line + 1; rw [i2.line]; omega
 · show S2.line + 1 ≤ 1000000; rw [i2.line]; omega
 · intro x hx
   exact w1 x (by rw [← hps]; exact hx)
 · unfold wordsTo
   show (S2.pieces.take S2.pieces.length).flatMap _ = _
   rw [← hps] at w2
   rw [List.take_length, ← List.map_flatMap, w2]
   rfl
def renLabs (N : Nat → List UInt8) (ls : List Ln) (ks : List Nat) : List Lab := (allLabs ls ks).map fun p => (N p.1, p.2)
end Asm
theorem ren_assemble {N : Nat → List UInt8} (hN : Asm.NamesOk N) (ls : List Asm.Ln) (ks : List Nat) (hls : ∀ l ∈ ls, Asm.LnOk l) (hn : ls.length ≤ 60) (hks : ∀ k ∈ ks, k < 5) (hnd : ((Asm.rLabs ls 0).map (·.1) ++ ks).Nodup) (hall : ∀ t, t < 5 → t ∈ (Asm.rLabs ls 0).map (·.1) ++ ks) (hkl : ks.length ≤ 5) (w : World) (hL : Isa.Laid w) :
 Calls Tryz.prog 13 #[.string ⟨(Asm.renText N ls ks).toArray⟩] w fun e w' => (∃ vW vL, e = .returned (.tuple #[.agg #[.int .u32 0, vW, vL], .int .i64 0, .int .i64 0]) ∧ w'.ownsRow w.heap.size 23 1 vW (Asm.allWords ls ks).length ((Asm.allWords ls ks).map Asm.word32) ∧ w'.ownsRow w.heap.size 42 2 vL (Asm.renLabs N ls ks).length ((Asm.renLabs N ls ks).flatMap Asm.labCells)) ∧ Below w.heap.size w w' := by
 obtain ⟨S, h1, h2, h3, h4, h5, h6, h7⟩ := Asm.ren_state hN ls ks hls hn hks hnd hall hkl
 obtain ⟨st, s0, s1, s2⟩ := h1.states
 have hlen := Asm.ren_len hN ls ks hls hks
 refine (assemble_calls _ (by omega) st s0 s2 S s1 h2 h3 h6 w hL).mono ?_
 rintro e w' ⟨⟨vW, vL, rfl, k1, k2⟩, hb⟩
 have ho' : S.origin % 4294967296 = 0 := by rw [h4]; rfl
 rw [h7, List.length_map] at k1
 have hl1 : S.labels.length = (Asm.renLabs N ls ks).length := by rw [h5, List.length_map]; unfold Asm.renLabs; rw [List.length_map]
 have hl2 : S.labels.flatMap Asm.labelCells = (Asm.renLabs N ls ks).flatMap Asm.labCells := by
  rw [h5, List.flatMap_map]
  unfold Asm.renLabs
  rw [List.flatMap_map]
  rfl
 rw [hl1, hl2] at k2
 exact ⟨⟨vW, vL, by rw [ho'], k1, k2⟩, hb⟩
end Go.Proofs.YtabmlbnnhhpaoaaGreatDoor
set_option maxHeartbeats 4000000
set_option maxRecDepth 100000
namespace Go.Proofs.YtabmlbnnhhpaoaaGreatDoor
open Go.RowKit Go.Shelf
namespace Asm
abbrev Raw := Int × Int × Int
def rawCells (x : Raw) : List Value := [.int .i64 x.1, .int .i64 x.2.1, .int .i64 x.2.2]
def labK (x : Raw) : Nat := (x.2.1.tmod 5).natAbs
def kindK (x : Raw) : Nat := (x.1.tmod 6).natAbs
def sbNext (sb : List Bool) (x : Raw) : List Bool := sb.set (labK x) true
def lnOf (sb : List Bool) (i : Nat) (x : Raw) : Ln := ⟨if sb.getD (labK x) false then none else some (labK x), kindK x, (labK x + i) % 5⟩
def lnsOf : List Raw → Nat → List Bool → List Ln
 | [], _, _ => []
 | x :: r, i, sb => lnOf sb i x :: lnsOf r (i + 1) (sbNext sb x)
def sbEnd : List Raw → List Bool → List Bool
 | [], sb => sb
 | x :: r, sb => sbEnd r (sbNext sb x)
def ksOf (sb : List Bool) (j : Nat) : List Nat := ((List.range 5).drop j).filter fun k => !sb.getD k false
end Asm
namespace Asm
theorem labK_lt (x : Raw) : labK x < 5 := by
 unfold labK
 have h1 := Int.tmod_lt_of_pos x.2.1 (show (0 : Int) < 5 by decide)
 have h2 : -5 < x.2.1.tmod 5 := by
  rcases Int.le_total 0 x.2.1 with h | h
  · have := Int.tmod_nonneg 5 h; omega
  · have h3 : (-x.2.1).tmod 5 = -(x.2.1.tmod 5) := Int.neg_tmod _ _
    have h4 := Int.tmod_lt_of_pos (-x.2.1) (show (0 : Int) < 5 by decide)
    omega
 omega
theorem kindK_lt (x : Raw) : kindK x < 6 := by
 unfold kindK
 have h1 := Int.tmod_lt_of_pos x.1 (show (0 : Int) < 6 by decide)
 have h2 : -6 < x.1.tmod 6 := by
  rcases Int.le_total 0 x.1 with h | h
  · have := Int.tmod_nonneg 6 h; omega
  · have h3 : (-x.1).tmod 6 = -(x.1.tmod 6) := Int.neg_tmod _ _
    have h4 := Int.tmod_lt_of_pos (-x.1) (show (0 : Int) < 6 by decide)
    omega
 omega
theorem labK_is (x : Raw) : (x.2.1.tmod 5 = (labK x : Int)) ∨ (x.2.1.tmod 5 = -(labK x : Int) ∧ 0 < labK x) := by unfold labK; omega
theorem kindK_is (x : Raw) : (x.1.tmod 6 = (kindK x : Int)) ∨ (x.1.tmod 6 = -(kindK x : Int) ∧ 0 < kindK x) := by unfold kindK; omega
theorem kind_cases (kk : Nat) (T : Int) (h6 : kk < 6) (h : T = (kk : Int) ∨ (T = -(kk : Int) ∧ 0 < kk)) : (kk = 0 ∧ T = 0) ∨ (kk = 1 ∧ T = 1) ∨ (kk = 1 ∧ T = -1) ∨ (kk = 2 ∧ T = 2) ∨ (kk = 2 ∧ T = -2) ∨ (kk = 3 ∧ T = 3) ∨ (kk = 3 ∧ T = -3) ∨ (kk = 4 ∧ T = 4) ∨ (kk = 4 ∧ T = -4) ∨ (kk = 5 ∧ T = 5) ∨ (kk = 5 ∧ T = -5) := by
 match kk, h6 with
 | 0, _ => rcases h with h | ⟨h, h2⟩
           · exact .inl ⟨rfl, by simpa using h⟩
           · exact absurd h2 (by decide)
 | 1, _ => rcases h with h | ⟨h, _⟩
           · exact .inr (.inl ⟨rfl, by simpa using h⟩)
           · exact .inr (.inr (.inl ⟨rfl, by simpa using h⟩))
 | 2, _ => rcases h with h | ⟨h, _⟩
           · exact .inr (.inr (.inr (.inl ⟨rfl, by simpa using h⟩)))
           · exact .inr (.inr (.inr (.inr (.inl ⟨rfl, by simpa using h⟩))))
 | 3, _ => rcases h with h | ⟨h, _⟩
           · exact .inr (.inr (.inr (.inr (.inr (.inl ⟨rfl, by simpa using h⟩)))))
           · exact .inr (.inr (.inr (.inr (.inr (.inr (.inl ⟨rfl, by simpa using h⟩))))))
 | 4, _ => rcases h with h | ⟨h, _⟩
           · exact .inr (.inr (.inr (.inr (.inr (.inr (.inr (.inl ⟨rfl, by simpa using h⟩)))))))
           · exact .inr (.inr (.inr (.inr (.inr (.inr (.inr (.inr (.inl ⟨rfl, by simpa using h⟩))))))))
 | 5, _ => rcases h with h | ⟨h, _⟩
           · exact .inr (.inr (.inr (.inr (.inr (.inr (.inr (.inr (.inr (.inl ⟨rfl, by simpa using h⟩)))))))))
           · exact .inr (.inr (.inr (.inr (.inr (.inr (.inr (.inr (.inr (.inr (⟨rfl, by simpa using h⟩))))))))))
 | n + 6, h => exact absurd h (by omega)
def boolCells (sb : List Bool) : Array Value := (sb.map Value.bool).toArray
theorem boolCells_at {sb : List Bool} {k : Nat} (h : k < sb.length) : (boolCells sb)[k]? = some (.bool (sb.getD k false)) := by
 unfold boolCells
 rw [List.getElem?_toArray, List.getElem?_map, List.getElem?_eq_getElem h, List.getD_eq_getElem?_getD, List.getElem?_eq_getElem h]
 rfl
theorem boolCells_set (sb : List Bool) (k : Nat) : (boolCells sb).setIfInBounds k (.bool true) = boolCells (sb.set k true) := by
 unfold boolCells
 rw [List.setIfInBounds_toArray, List.map_set]
theorem raw_at : ∀ (zs : List Raw) (j : Nat) (x : Raw), zs[j]? = some x → (zs.flatMap rawCells)[j * 3]? = some (.int .i64 x.1) ∧ (zs.flatMap rawCells)[j * 3 + 1]? = some (.int .i64 x.2.1)
 | [], j, x, h => by cases h
 | y :: l, 0, x, h => by simp at h; subst h; simp [rawCells]
 | y :: l, j + 1, x, h => by
  have := raw_at l j x (by simpa using h)
  rw [show (j + 1) * 3 = j * 3 + 3 by omega, List.flatMap_cons, List.getElem?_append_right (by simp [rawCells]), List.getElem?_append_right (by simp [rawCells])]
  simp only [rawCells, List.length_cons, List.length_nil]
  rw [show j * 3 + 3 - (0 + 1 + 1 + 1) = j * 3 by omega, show j * 3 + 3 + 1 - (0 + 1 + 1 + 1) = j * 3 + 1 by omega]
  exact this
theorem ksOf_at (sb : List Bool) (k : Nat) (h : k < 5) : ksOf sb k = if sb.getD k false = true then ksOf sb (k + 1) else k :: ksOf sb (k + 1) := by
 unfold ksOf
 rw [List.drop_eq_getElem_cons (show k < (List.range 5).length by simpa using h), List.getElem_range, List.filter_cons]
 cases sb.getD k false <;> simp
theorem ksOf_end (sb : List Bool) : ksOf sb 5 = [] := rfl
def restT (N : Nat → List UInt8) (zs : List Raw) (j : Nat) (sb : List Bool) : List UInt8 := renText N (lnsOf (zs.drop j) j sb) (ksOf (sbEnd (zs.drop j) sb) 0)
theorem restT_step (N : Nat → List UInt8) (zs : List Raw) (j : Nat) (sb : List Bool) {x : Raw} (hx : zs[j]? = some x) : restT N zs j sb = (lnText N (lnOf sb j x) ++ [10]) ++ restT N zs (j + 1) (sbNext sb x) := by
 obtain ⟨h1, h2⟩ := List.getElem?_eq_some_iff.1 hx
 unfold restT
 rw [List.drop_eq_getElem_cons h1, h2, lnsOf, sbEnd]
 unfold renText
 rw [List.flatMap_cons]
 simp
end Asm
theorem asm_infoBool : (Tryz.prog.info? 4).map (fun i => (i.zero, i.size, i.bytes)) = some (some (.bool false), 1, 1) := by kernel_rfl
theorem written_calls {T : TypeId} (N : Nat → List UInt8) (hN : Asm.NamesOk N) (zs : List Asm.Raw) (lv : Value) (nb : Nat) (w : World) (hz : ∀ x ∈ zs, (-9223372036854775808 ≤ x.1 ∧ x.1 ≤ 9223372036854775807) ∧ (-9223372036854775808 ≤ x.2.1 ∧ x.2.1 ≤ 9223372036854775807)) (hl : Asm.RowView w T lv zs.length (zs.flatMap Asm.rawCells))
 (hnb : w.heap[nb]? = some (.cells #[.string ⟨(N 0).toArray⟩, .string ⟨(N 1).toArray⟩, .string ⟨(N 2).toArray⟩, .string ⟨(N 3).toArray⟩, .string ⟨(N 4).toArray⟩] 9 (0, 0))) :
 Calls Tryz.prog 22 #[lv, .slice (some ⟨nb, 0, none⟩) 5 5] w fun e w' => e = .returned (.string ⟨(Asm.renText N (Asm.lnsOf (zs.take 60) 0 (List.replicate 5 false)) (Asm.ksOf (Asm.sbEnd (zs.take 60) (List.replicate 5 false)) 0)).toArray⟩) ∧ Below w.heap.size w w' := by
 obtain ⟨pl, cl, rfl⟩ : ∃ p c, lv = .slice p zs.length c := by obtain ⟨p, c, e, _⟩ := hl; exact ⟨p, c, e⟩
 go_enter Tryz.func22, Tryz.ntmps22
 obtain ⟨i0, hinf, hz0, hz1, hz2⟩ := info_parts asm_infoBool
 have hmk := run_makeSlice (P := Tryz.prog) (w := w) 103 4 i0 (.bool false) Tryz.underlying103 hinf hz0 .i64 .i64 5 5 (by decide) (by decide) (by rw [hz1]; decide) (by rw [hz2]; decide) (by decide)
 rw [hz1, show madeCells (Value.bool false).cells ((5 : Int).toNat * 1) = #[.bool false, .bool false, .bool false, .bool false, .bool false] by first | rfl | decide | kernel_rfl | simp [madeCells, Value.cells]] at hmk
 have hNc : ∀ k, k < 5 → ∀ W, Below w.heap.size w W → W.cell? ⟨nb, k, none⟩ = some (.string ⟨(N k).toArray⟩) := fun k hk W hb => by
  have h := (blk_facts (blk_keep hb hnb)).1 k
  rw [h]
  match k, hk with
  | 0, _ => rfl
  | 1, _ => rfl
  | 2, _ => rfl
  | 3, _ => rfl
  | 4, _ => rfl
  | k + 5, h => exact absurd h (by omega)
 have hNl : ∀ k, k < 5 → (N k).length ≤ 16 := fun k hk => Asm.nameOk_len (hN.ok k hk)
 obtain ⟨ys, hys⟩ : ∃ ys, zs.take 60 = ys := ⟨_, rfl⟩
 have hyl : ys.length = min 60 zs.length := by rw [← hys]; simp
 have hya : ∀ j, j < ys.length → ys[j]? = zs[j]? := fun j hj => by rw [← hys, List.getElem?_take, if_pos (by omega)]
 obtain ⟨full, hfull⟩ : ∃ full, Asm.renText N (Asm.lnsOf ys 0 (List.replicate 5 false)) (Asm.ksOf (Asm.sbEnd ys (List.replicate 5 false)) 0) = full := ⟨_, rfl⟩
 rw [hys, hfull]
 have HF : Hid (full = [] ++ Asm.restT N ys 0 (List.replicate 5 false)) := Lib.hid (by rw [← hfull]; rfl)
 have HNC := Lib.hid hNc
 have HNL := Lib.hid hNl
 have HL := Lib.hid hl
 have HZ := Lib.hid hz
 have HYA := Lib.hid hya
 clear hNc hNl hl hfull hys hz hya
 have zn := blk_size hnb
 have bA : Below w.heap.size w (w.alloc (.cells #[.bool false, .bool false, .bool false, .bool false, .bool false] 4)) := below_alloc' (Below.refl _ _) _
 have kA := heap_alloc_new w (.cells #[.bool false, .bool false, .bool false, .bool false, .bool false] 4)
 go_wp2_with fail
 go_loopw [5, 7] (fun v5 v7 wr => ∃ (j : Nat) (sb : List Bool) (t : List UInt8), v5 = .string ⟨t.toArray⟩ ∧ v7 = .int .i64 (j : Int) ∧ j ≤ ys.length ∧ sb.length = 5 ∧ t.length ≤ 110 * j ∧ wr.heap[w.heap.size]? = some (.cells (Asm.boolCells sb) 4 (0, 0)) ∧ Hid (full = t ++ Asm.restT N ys j sb) ∧ Below w.heap.size w wr) (fun _ v _ => ys.length - (intOf v).toNat)
 case atStart => exact ⟨0, List.replicate 5 false, [], rfl, rfl, Nat.zero_le _, rfl, Nat.le_refl _, kA, HF, bA⟩
 case round =>
  clear HF bA kA hmk
  obtain ⟨j, sb, t, rfl, rfl, hj, hsb, ht, kS, HT, HB⟩ := hrel
  by_cases hlt : j < ys.length
  · obtain ⟨x, hx⟩ : ∃ x, ys[j]? = some x := ⟨_, List.getElem?_eq_getElem hlt⟩
    have hzx : zs[j]? = some x := by rw [← HYA.out j hlt]; exact hx
    have hjz : j < zs.length := by omega
    have hj60 : j < 60 := by omega
    obtain ⟨g, og, cap, ep, hc1, hc2, hg, hcell⟩ := HL.out.cells (by omega)
    injection ep with ep1 ep2 ep3
    subst ep1
    subst ep3
    obtain ⟨r0, r1⟩ := Asm.raw_at zs j x hzx
    have p0 : wr.cell? ⟨g, og + j * 3, none⟩ = some (.int .i64 x.1) := (HB.cell (p := ⟨g, og + j * 3, none⟩) hg).trans (hcell _ _ r0)
    have p1 : wr.cell? ⟨g, og + j * 3 + 1, none⟩ = some (.int .i64 x.2.1) := (HB.cell (p := ⟨g, og + j * 3 + 1, none⟩) hg).trans (by rw [Nat.add_assoc]; exact hcell _ _ r1)
    have hzb := HZ.out x (List.mem_of_getElem? hzx)
    have hk5 := Asm.labK_lt x
    have hk6 := Asm.kindK_lt x
    have hlk := Asm.labK_is x
    have hkk := Asm.kindK_is x
    have hstep := HT.out
    rw [Asm.restT_step N ys j sb hx] at hstep
    obtain ⟨k0, hk0⟩ : ∃ k0, Asm.labK x = k0 := ⟨_, rfl⟩
    obtain ⟨kk, hkk0⟩ : ∃ kk, Asm.kindK x = kk := ⟨_, rfl⟩
    rw [hk0] at hk5 hlk
    rw [hkk0] at hk6 hkk
    obtain ⟨tg, htg⟩ : ∃ tg, (k0 + j) % 5 = tg := ⟨_, rfl⟩
    have htg5 : tg < 5 := by omega
    have htm : ((k0 : Int) + (j : Int)).tmod 5 = (tg : Int) := by rw [Int.tmod_eq_emod_of_nonneg (by omega)]; omega
    have hns : Asm.sbNext sb x = sb.set k0 true := by unfold Asm.sbNext; rw [hk0]
    have hln : Asm.lnOf sb j x = ⟨if sb.getD k0 false then none else some k0, kk, tg⟩ := by unfold Asm.lnOf; rw [hk0, hkk0, htg]
    rw [hns, hln] at hstep
    obtain ⟨dS, fS⟩ := blk_facts kS
    have cS : wr.cell? ⟨w.heap.size, k0, none⟩ = some (.bool (sb.getD k0 false)) := (dS k0).trans (Asm.boolCells_at (by omega))
    have gS := fS k0
    have zS := blk_size kS
    have cN := HNC.out k0 hk5 wr HB
    have cT := HNC.out tg htg5 wr HB
    have lN := HNL.out k0 hk5
    have lT := HNL.out tg htg5
    have zn2 : nb < wr.heap.size := Nat.lt_of_lt_of_le zn HB.size
    have zg2 : g < wr.heap.size := Nat.lt_of_lt_of_le hg HB.size
    clear dS fS HT hcell r0 r1 hln hns
    obtain ⟨b, hb⟩ : ∃ b, sb.getD k0 false = b := ⟨_, rfl⟩
    rw [hb] at cS hstep
    have hset : b = true → sb.set k0 true = sb := fun h => by
     apply List.ext_getElem?
     intro i
     rw [List.getElem?_set]
     split
     · rename_i e
       subst e
       rw [if_pos (by omega)]
       rw [h, List.getD_eq_getElem?_getD, List.getElem?_eq_getElem (by omega)] at hb
       rw [List.getElem?_eq_getElem (by omega)]
       simpa using hb.symm
     · rfl
    have hll := Asm.ln_len hN (l := ⟨if b = true then none else some k0, kk, tg⟩) ⟨hk6, htg5, fun k h => by
     show k < 5
     cases b <;> simp at h <;> omega⟩
    have kS2 := setCell_row kS k0 (.bool true) (cs' := Asm.boolCells (sb.set k0 true)) (Asm.boolCells_set sb k0)
    have HB2 : Below w.heap.size w (wr.setCell ⟨w.heap.size, k0, none⟩ (.bool true)) := HB.setCell (p := ⟨w.heap.size, k0, none⟩) (Nat.le_refl _) _
    have cT2 := HNC.out tg htg5 _ HB2
    have p02 : (wr.setCell ⟨w.heap.size, k0, none⟩ (.bool true)).cell? ⟨g, og + j * 3, none⟩ = some (.int .i64 x.1) := (HB2.cell (p := ⟨g, og + j * 3, none⟩) hg).trans ((HB.cell (p := ⟨g, og + j * 3, none⟩) hg).symm.trans p0)
    obtain ⟨T, hT⟩ : ∃ T, x.1.tmod 6 = T := ⟨_, rfl⟩
    rw [hT] at hkk
    have hK := Asm.kind_cases kk T hk6 hkk
    obtain ⟨ln, hlne⟩ : ∃ ln : Asm.Ln, (⟨if b = true then none else some k0, kk, tg⟩ : Asm.Ln) = ln := ⟨_, rfl⟩
    rw [hlne] at hstep hll
    have HLN := Lib.hid hlne
    clear hlne
    have HST := Lib.hid hstep
    have HLL := Lib.hid hll
    have HSET := Lib.hid hset
    clear hstep hll hset hkk
    clear hk0 hkk0 htg hb hx hzx hk6
    cases b
    · rcases hlk with hlk | ⟨hlk, hlp⟩
      all_goals rcases hK with ⟨rfl, rfl⟩ | ⟨rfl, rfl⟩ | ⟨rfl, rfl⟩ | ⟨rfl, rfl⟩ | ⟨rfl, rfl⟩ | ⟨rfl, rfl⟩ | ⟨rfl, rfl⟩ | ⟨rfl, rfl⟩ | ⟨rfl, rfl⟩ | ⟨rfl, rfl⟩ | ⟨rfl, rfl⟩
      all_goals go_wp2_with fail
      all_goals go_roundw
      all_goals first | (exact ⟨j + 1, sb.set k0 true, t ++ (Asm.lnText N ln ++ [10]), (by rw [← HLN.out]; exact congrArg Value.string (ByteArray.ext (by simp [Asm.lnText, Asm.stText]))), congrArg (Value.int .i64) (by omega), (by omega), (by first | exact hsb | (rw [List.length_set]; exact hsb)), (by rw [List.length_append, List.length_append]; have := HLL.out; simp only [List.length_cons, List.length_nil]; omega), kS2, Lib.hid (by rw [HST.out]; simp only [List.append_assoc]), HB2⟩) | (simp [intOf]; omega)
    · rcases hlk with hlk | ⟨hlk, hlp⟩
      all_goals rcases hK with ⟨rfl, rfl⟩ | ⟨rfl, rfl⟩ | ⟨rfl, rfl⟩ | ⟨rfl, rfl⟩ | ⟨rfl, rfl⟩ | ⟨rfl, rfl⟩ | ⟨rfl, rfl⟩ | ⟨rfl, rfl⟩ | ⟨rfl, rfl⟩ | ⟨rfl, rfl⟩ | ⟨rfl, rfl⟩
      all_goals go_wp2_with fail
      all_goals go_roundw
      all_goals first | (exact ⟨j + 1, sb, t ++ (Asm.lnText N ln ++ [10]), (by rw [← HLN.out]; exact congrArg Value.string (ByteArray.ext (by simp [Asm.lnText, Asm.stText]))), congrArg (Value.int .i64) (by omega), (by omega), (by first | exact hsb | (rw [List.length_set]; exact hsb)), (by rw [List.length_append, List.length_append]; have := HLL.out; simp only [List.length_cons, List.length_nil]; omega), kS, Lib.hid (by rw [HST.out, HSET.out rfl]; simp only [List.append_assoc]), HB⟩) | (simp [intOf]; omega)
  · have hd : ys.drop j = [] := List.drop_eq_nil_of_le (by omega)
    have hrest : Asm.restT N ys j sb = (Asm.ksOf sb 0).flatMap fun k => N k ++ [58, 10] := by
     unfold Asm.restT
     rw [hd]
     simp [Asm.lnsOf, Asm.sbEnd, Asm.renText]
    have hfin := HT.out
    rw [hrest] at hfin
    have HFN := Lib.hid hfin
    clear hrest hfin HT hd
    have htl : t.length ≤ 6600 := by omega
    have hcase : (¬ j < zs.length) ∨ (j < zs.length ∧ ¬ j < 60) := by omega
    rcases hcase with hq | ⟨hq, hq2⟩
    all_goals (
     go_wp2_with fail
     go_loopw [5, 11] (fun v5 v11 wi => ∃ (k : Nat) (u : List UInt8), v5 = .string ⟨u.toArray⟩ ∧ v11 = .int .i64 (k : Int) ∧ k ≤ 5 ∧ u.length ≤ 6600 + 18 * k ∧ Hid (full = u ++ (Asm.ksOf sb k).flatMap fun k => N k ++ [58, 10]) ∧ wi = wr) (fun _ v _ => 5 - (intOf v).toNat)
     case atStart => exact ⟨0, t, rfl, rfl, by omega, by omega, HFN, rfl⟩
     case round =>
      obtain ⟨k, u, rfl, rfl, hk, hu, HU, rfl⟩ := hrel
      by_cases hk5 : k < 5
      · have cN := HNC.out k hk5 wr HB
        have lN := HNL.out k hk5
        have cS : wr.cell? ⟨w.heap.size, k, none⟩ = some (.bool (sb.getD k false)) := ((blk_facts kS).1 k).trans (Asm.boolCells_at (by omega))
        have zS := blk_size kS
        have zn2 : nb < wr.heap.size := Nat.lt_of_lt_of_le zn HB.size
        have hstep := HU.out
        rw [Asm.ksOf_at sb k hk5] at hstep
        cases hb : sb.getD k false
        · rw [hb] at cS hstep
          rw [if_neg (by decide), List.flatMap_cons] at hstep
          have HST := Lib.hid hstep
          clear hstep HU hb
          go_wp2_with fail
          go_roundw
          all_goals first | (exact ⟨k + 1, u ++ (N k ++ [58, 10]), congrArg Value.string (ByteArray.ext (by simp)), congrArg (Value.int .i64) (by omega), by omega, (by rw [List.length_append, List.length_append]; simp only [List.length_cons, List.length_nil]; omega), Lib.hid (by rw [HST.out]; simp only [List.append_assoc]), trivial⟩) | (simp [intOf]; omega)
        · rw [hb] at cS hstep
          rw [if_pos rfl] at hstep
          have HST := Lib.hid hstep
          clear hstep HU hb
          go_wp2_with fail
          go_roundw
          all_goals first | (exact ⟨k + 1, u, rfl, congrArg (Value.int .i64) (by omega), by omega, by omega, HST, trivial⟩) | (simp [intOf]; omega)
      · obtain rfl : k = 5 := by omega
        have hfu : full = u := by rw [HU.out, Asm.ksOf_end]; simp
        go_wp2_with fail
        go_ret
        exact ⟨by rw [hfu]; rfl, HB⟩)
end Go.Proofs.YtabmlbnnhhpaoaaGreatDoor
namespace Go.Proofs.YtabmlbnnhhpaoaaGreatDoor
open Go.RowKit Go.Shelf
namespace Asm
theorem lnOf_ok (sb : List Bool) (i : Nat) (x : Raw) : LnOk (lnOf sb i x) :=
 ⟨kindK_lt x, by show (labK x + i) % 5 < 5; omega, fun k h => by
  have h' : (if sb.getD (labK x) false = true then none else some (labK x)) = some k := h
  split at h'
  · cases h'
  · cases h'; exact labK_lt x⟩
theorem lnsOf_ok : ∀ (r : List Raw) (i : Nat) (sb : List Bool), ∀ l ∈ lnsOf r i sb, LnOk l
 | [], _, _ => by intro l hl; cases hl
 | x :: r, i, sb => by
  intro l hl
  rw [lnsOf] at hl
  rcases List.mem_cons.1 hl with rfl | hl
  · exact lnOf_ok sb i x
  · exact lnsOf_ok r (i + 1) (sbNext sb x) l hl
theorem lnsOf_len : ∀ (r : List Raw) (i : Nat) (sb : List Bool), (lnsOf r i sb).length = r.length
 | [], _, _ => rfl
 | x :: r, i, sb => by rw [lnsOf, List.length_cons, List.length_cons, lnsOf_len r]
theorem getD_set (sb : List Bool) (k t : Nat) (hk : k < sb.length) : (sb.set k true).getD t false = (if t = k then true else sb.getD t false) := by
 rw [List.getD_eq_getElem?_getD, List.getD_eq_getElem?_getD, List.getElem?_set]
 by_cases h : k = t
 · subst h; rw [if_pos rfl, if_pos hk, if_pos rfl]; rfl
 · rw [if_neg h, if_neg (fun e => h e.symm)]
theorem news : ∀ (r : List Raw) (i : Nat) (sb : List Bool) (c : Nat), sb.length = 5 →
 ((rLabs (lnsOf r i sb) c).map (·.1)).Nodup ∧ (∀ k ∈ (rLabs (lnsOf r i sb) c).map (·.1), k < 5 ∧ sb.getD k false = false) ∧ (∀ k, k < 5 → ((sbEnd r sb).getD k false = true ↔ sb.getD k false = true ∨ k ∈ (rLabs (lnsOf r i sb) c).map (·.1)))
 | [], i, sb, c, h => ⟨List.nodup_nil, (by intro k hk; cases hk), fun k hk => by simp [sbEnd, lnsOf, rLabs]⟩
 | x :: r, i, sb, c, h => by
  have hk5 := labK_lt x
  have hs : (sbNext sb x).length = 5 := by unfold sbNext; rw [List.length_set]; exact h
  obtain ⟨h1, h2, h3⟩ := news r (i + 1) (sbNext sb x) (c + stCnt (lnOf sb i x).kind) hs
  have hget : ∀ t, (sbNext sb x).getD t false = (if t = labK x then true else sb.getD t false) := fun t => by unfold sbNext; exact getD_set sb (labK x) t (by omega)
  rw [lnsOf, rLabs, sbEnd, List.map_append]
  have hlab : (labOf (lnOf sb i x) c).map (·.1) = if sb.getD (labK x) false = true then [] else [labK x] := by
   unfold labOf lnOf
   simp only
   split <;> rename_i hq
   · split at hq
     · rename_i hb; rw [if_pos hb]; rfl
     · cases hq
   · split at hq
     · cases hq
     · rename_i hb; cases hq; rw [if_neg hb]; rfl
  rw [hlab]
  have hnin : labK x ∉ (rLabs (lnsOf r (i + 1) (sbNext sb x)) (c + stCnt (lnOf sb i x).kind)).map (·.1) := fun hin => by
   have := (h2 _ hin).2
   rw [hget, if_pos rfl] at this
   cases this
  by_cases hb : sb.getD (labK x) false = true
  · rw [if_pos hb, List.nil_append]
    refine ⟨h1, fun k hk => ⟨(h2 k hk).1, ?_⟩, fun k hk => ?_⟩
    · have := (h2 k hk).2
      rw [hget] at this
      split at this
      · cases this
      · exact this
    · rw [h3 k hk, hget]
      by_cases e : k = labK x
      · subst e; exact ⟨fun _ => .inl hb, fun _ => .inl (if_pos rfl)⟩
      · rw [if_neg e]
  · rw [if_neg hb]
    refine ⟨?_, fun k hk => ?_, fun k hk => ?_⟩
    · rw [List.singleton_append]
      exact List.nodup_cons.2 ⟨hnin, h1⟩
    · rcases List.mem_append.1 hk with hk | hk
      · simp at hk; subst hk; exact ⟨hk5, by simpa using hb⟩
      · refine ⟨(h2 k hk).1, ?_⟩
        have := (h2 k hk).2
        rw [hget] at this
        split at this
        · cases this
        · exact this
    · rw [h3 k hk, hget, List.mem_append]
      by_cases e : k = labK x
      · subst e; simp
      · rw [if_neg e]; simp [e]
theorem news_all (r : List Raw) : ((rLabs (lnsOf r 0 (List.replicate 5 false)) 0).map (·.1) ++ ksOf (sbEnd r (List.replicate 5 false)) 0).Nodup ∧ (∀ k ∈ ksOf (sbEnd r (List.replicate 5 false)) 0, k < 5) ∧ (∀ t, t < 5 → t ∈ (rLabs (lnsOf r 0 (List.replicate 5 false)) 0).map (·.1) ++ ksOf (sbEnd r (List.replicate 5 false)) 0) ∧
 ((rLabs (lnsOf r 0 (List.replicate 5 false)) 0).map (·.1) ++ ksOf (sbEnd r (List.replicate 5 false)) 0).length = 5 := by
 obtain ⟨h1, h2, h3⟩ := news r 0 (List.replicate 5 false) 0 (by simp)
 have hf : ∀ k, k < 5 → (List.replicate 5 false).getD k false = false := by
  intro k hk
  match k, hk with
  | 0, _ => rfl
  | 1, _ => rfl
  | 2, _ => rfl
  | 3, _ => rfl
  | 4, _ => rfl
  | k + 5, h => exact absurd h (by omega)
 have hks : ∀ k, k ∈ ksOf (sbEnd r (List.replicate 5 false)) 0 ↔ k < 5 ∧ (sbEnd r (List.replicate 5 false)).getD k false = false := fun k => by
  unfold ksOf
  rw [List.drop_zero, List.mem_filter, List.mem_range]
  simp
 have hnd : ((rLabs (lnsOf r 0 (List.replicate 5 false)) 0).map (·.1) ++ ksOf (sbEnd r (List.replicate 5 false)) 0).Nodup := by
  refine List.nodup_append.2 ⟨h1, ?_, fun a ha b hb e => ?_⟩
  · unfold ksOf
    rw [List.drop_zero]
    exact List.nodup_range.filter _
  · subst e
    have := (hks a).1 hb
    have h4 := (h3 a this.1).2 (.inr ha)
    rw [this.2] at h4
    cases h4
 have hall : ∀ t, t < 5 → t ∈ (rLabs (lnsOf r 0 (List.replicate 5 false)) 0).map (·.1) ++ ksOf (sbEnd r (List.replicate 5 false)) 0 := fun t ht => by
  cases hb : (sbEnd r (List.replicate 5 false)).getD t false with
  | true =>
   rcases (h3 t ht).1 hb with h | h
   · rw [hf t ht] at h; cases h
   · exact List.mem_append_left _ h
  | false => exact List.mem_append_right _ ((hks t).2 ⟨ht, hb⟩)
 refine ⟨hnd, fun k hk => ((hks k).1 hk).1, hall, ?_⟩
 have hp : ((rLabs (lnsOf r 0 (List.replicate 5 false)) 0).map (·.1) ++ ksOf (sbEnd r (List.replicate 5 false)) 0).Perm (List.range 5) := (List.perm_ext_iff_of_nodup hnd List.nodup_range).2 fun a => by
  rw [List.mem_range]
  refine ⟨fun h => ?_, fun h => hall a h⟩
  rcases List.mem_append.1 h with h | h
  · exact (h2 a h).1
  · exact ((hks a).1 h).1
 rw [hp.length_eq]
 simp
end Asm
end Go.Proofs.YtabmlbnnhhpaoaaGreatDoor
