/- IsaNames: the plain law: the reference's Form, Name, Named answer as the table does. -/
import Derived.Test.YtedjkbekhhffeaaDoorIsaReg
import Derived.Test.YtedjkbekhhffeaaDoorPIsaNamesx2
namespace Go.Proofs.YtedjkbekhhffeaaDoor
open Go.RowKit Go.Proofs.YtedjkbekhhffeaaDoorW.PrintWords PIsaNames
set_option linter.unusedSimpArgs false
set_option linter.unusedVariables false
namespace RefN
theorem of_in : ∀ n : Fin 49, (cloisterref10_Of.f 2 (n.1 : Int)).map (fun r => (r.1, r.2.1)) = some (Isa.nameOf n.1, (Isa.formOf n.1 : Int)) := by decide +kernel
theorem of_out (k : Nat) (op : Int) (h : op < 1 ∨ 48 < op) : cloisterref10_Of.f (k + 1) op = some (⟨#[]⟩, 0, 0, 0, false) := by
  unfold cloisterref10_Of.f
  simp only [Option.bind_some]
  by_cases h1 : op < 1
  · rw [if_pos h1, cloisterref10_Of.j0, if_pos rfl]
  · rw [if_neg h1, cloisterref10_Of.j0, if_pos (by simp; omega)]
theorem of_ix (k : Nat) (hk : 2 ≤ k) (op : Int) : ∃ a b c, cloisterref10_Of.f k op = some (Isa.nameOf (Isa.ix op), (Isa.formOf (Isa.ix op) : Int), a, b, c) := by
  by_cases h : 1 ≤ op ∧ op < 49
  · obtain ⟨n, rfl⟩ : ∃ n : Nat, op = (n : Int) := ⟨op.toNat, by omega⟩
    have e : Isa.ix (n : Int) = n := by unfold Isa.ix; rw [if_pos h]; rfl
    rw [e]
    have hn : n < 49 := by omega
    have q := of_in ⟨n, hn⟩
    simp only [Option.map_eq_some_iff] at q
    obtain ⟨⟨r1, r2, r3, r4, r5⟩, q1, q2⟩ := q
    simp only [Prod.mk.injEq] at q2
    obtain ⟨rfl, rfl⟩ := q2
    exact ⟨r3, r4, r5, at_rounds (cloisterref10_Of.mono _) hk q1⟩
  · have e : Isa.ix op = 0 := by unfold Isa.ix; rw [if_neg h]
    rw [e]
    obtain ⟨k, rfl⟩ : ∃ m, k = m + 1 := ⟨k - 1, by omega⟩
    exact ⟨0, 0, false, of_out k op (by omega)⟩
theorem form_eq (k : Nat) (hk : 2 ≤ k) (op : Int) : cloisterref10_Form.f k op = some (Isa.formOf (Isa.ix op) : Int) := by
  obtain ⟨a, b, c, h⟩ := of_ix k hk op
  unfold cloisterref10_Form.f
  rw [h, Option.bind_some]
theorem name_eq (k : Nat) (hk : 2 ≤ k) (op : Int) : cloisterref10_Name.f k op = some (Isa.nameOf (Isa.ix op)) := by
  obtain ⟨a, b, c, h⟩ := of_ix k hk op
  unfold cloisterref10_Name.f
  rw [h, Option.bind_some]
theorem name_full : ∀ n : Fin 49, 1 ≤ n.1 → (Isa.nameOf n.1).size ≠ 0 := by decide
theorem loop_eq (s : ByteArray) : ∀ (d k i : Nat), d < k → 2 ≤ k - d → 1 ≤ i → 49 - i = d → i ≤ 49 → cloisterref10_Named.l0 k s (i : Int) = some (Isa.findFrom s d i) := by
  intro d
  induction d with
  | zero =>
    intro k i hk _ h1 hd hi
    obtain ⟨k, rfl⟩ : ∃ m, k = m + 1 := ⟨k - 1, by omega⟩
    rw [cloisterref10_Named.l0, if_neg (by omega)]
    rfl
  | succ d ih =>
    intro k i hk hk2 h1 hd hi
    obtain ⟨k, rfl⟩ : ∃ m, k = m + 1 := ⟨k - 1, by omega⟩
    obtain ⟨a, b, c, h⟩ := of_ix k (by omega) (i : Int)
    have e : Isa.ix (i : Int) = i := by unfold Isa.ix; rw [if_pos (by omega)]; rfl
    rw [e] at h
    rw [cloisterref10_Named.l0, if_pos (by omega), h, Option.bind_some]
    have hne : s = Isa.nameOf i → s ≠ ⟨#[]⟩ := by
      intro hs hs2
      have := name_full ⟨i, by omega⟩ h1
      simp only at this
      rw [← hs, hs2] at this
      exact this rfl
    unfold Isa.findFrom
    by_cases hm : Isa.nameOf i = s
    · rw [if_pos (show (Isa.nameOf i).toList = s.toList by rw [hm]), if_pos ⟨hm, hne hm.symm⟩]
    · rw [if_neg (show ¬ (Isa.nameOf i).toList = s.toList from fun hh => hm (bytes_eq hh)), if_neg (fun hh => hm hh.1)]
      have ew : wrap64 ((i : Int) + 1) = ((i + 1 : Nat) : Int) := by unfold wrap64; omega
      rw [ew]
      exact ih k (i + 1) (by omega) (by omega) (by omega) (by omega) (by omega)
theorem named_eq (s : ByteArray) : cloisterref10_Named.f 60 s = some (Isa.named s) := by
  unfold cloisterref10_Named.f Isa.named
  have h := loop_eq s 48 60 1 (by decide) (by decide) (by decide) (by decide) (by decide)
  rw [show ((1 : Nat) : Int) = 1 from rfl] at h
  rw [h]
  show _ = some (if Isa.nameOf 0 = s ∧ s ≠ ⟨#[]⟩ then _ else Isa.findFrom s 48 (0 + 1))
  rw [if_neg (fun hh => hh.2 hh.1.symm)]
end RefN
end Go.Proofs.YtedjkbekhhffeaaDoor
