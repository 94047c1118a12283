/- What this claim needs of MRefOfG. -/
import Derived.Test.YtabmlbnnhhpaoaaGreatDoorTQAsmLinesx99
import Derived.Test.YtabmlbnnhhpaoaaGreatDoorTMRefOf1
import Derived.Test.YtabmlbnnhhpaoaaGreatDoorTMRefOf2
import Derived.Test.YtabmlbnnhhpaoaaGreatDoorTMRefOf3
set_option linter.unusedSimpArgs false
set_option linter.unusedVariables false
namespace Go.Proofs.YtabmlbnnhhpaoaaGreatDoor.PAsmLines
open Go.RowKit Go.Proofs.YtabmlbnnhhpaoaaGreatDoorW.PrintWords
theorem ofc_20 : ∀ n : Fin 64, q_Of.f 20 (n.1 : Int) = some (if 1 ≤ n.1 ∧ n.1 < 49 then (Isa.nameOf n.1, (Isa.formOf n.1 : Int), Rf.immC (Isa.numOf n.1), Rf.shC (Isa.formOf n.1) (Isa.shapeOf n.1), true) else (⟨#[]⟩, 0, 0, 0, false)) := by
 decide +kernel
theorem ofc_out (k : Nat) (op : Int) (h : op < 1 ∨ 48 < op) : q_Of.f (k + 1) op = some (⟨#[]⟩, 0, 0, 0, false) := by
 unfold q_Of.f
 simp only [Option.bind_some]
 by_cases h1 : op < 1
 · rw [if_pos h1, q_Of.j0, if_pos rfl]
 · rw [if_neg h1, q_Of.j0, if_pos (by simp; omega)]
theorem q_Of.calls (k : Nat) (a0 : Int) (r1 : ByteArray) (r2 : Int) (r3 : Int) (r4 : Int) (r5 : Bool) (w : World) (h : q_Of.f k a0 = some (r1, r2, r3, r4, r5)) :
 Calls Tryz.prog 75 #[.int .i64 a0] w fun e w' => e = .returned (.tuple #[.agg #[.string r1, .int .i64 r2, .int .u8 r3, .int .u8 r4], .bool r5]) ∧ Below w.heap.size w w' := by
 have h2 := at_rounds (q_Of.mono a0) (show k ≤ k + 20 by omega) h
 by_cases hr : a0 < 1 ∨ 48 < a0
 · rw [ofc_out (k + 19) a0 hr] at h2
   simp only [Option.some.injEq, Prod.mk.injEq] at h2
   obtain ⟨rfl, rfl, rfl, rfl, rfl⟩ := h2
   exact rof_none a0 hr w
 · obtain ⟨n, rfl⟩ : ∃ n : Nat, a0 = (n : Int) := ⟨a0.toNat, by omega⟩
   have h3 := at_rounds (q_Of.mono (n : Int)) (show 20 ≤ k + 20 by omega) (ofc_20 ⟨n, by omega⟩)
   rw [h3, if_pos (by simp only; omega)] at h2
   simp only [Option.some.injEq, Prod.mk.injEq] at h2
   obtain ⟨rfl, rfl, rfl, rfl, rfl⟩ := h2
   have hp : Calls Tryz.prog 75 #[.int .i64 (n : Int)] w (Rf.OfPost n w) := by
    by_cases a1 : n ≤ 13
    · exact rof_a n (by omega) a1 w
    by_cases a2 : n ≤ 22
    · exact rof_b n (by omega) a2 w
    by_cases a3 : n ≤ 31
    · exact rof_c n (by omega) a3 w
    · exact rof_d n (by omega) (by omega) w
   exact hp
end Go.Proofs.YtabmlbnnhhpaoaaGreatDoor.PAsmLines
