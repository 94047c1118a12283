/- What this claim needs of MRefOf1. -/
import Derived.Test.YtabmlbnnhhpaoaaGreatDoorTMRefA
set_option linter.unusedSimpArgs false
set_option linter.unusedVariables false
set_option maxHeartbeats 20000000
set_option maxRecDepth 100000
namespace Go.Proofs.YtabmlbnnhhpaoaaGreatDoor
open Go.RowKit
theorem rof_a (n : Nat) (h1 : 1 ≤ n) (h2 : n ≤ 13) (w : World) : Calls Tryz.prog 75 #[.int .i64 (n : Int)] w (Rf.OfPost n w) := by
 rcases (show n = 1 ∨ n = 2 ∨ n = 3 ∨ n = 4 ∨ n = 5 ∨ n = 6 ∨ n = 7 ∨ n = 8 ∨ n = 9 ∨ n = 10 ∨ n = 11 ∨ n = 12 ∨ n = 13 from by omega) with rfl | rfl | rfl | rfl | rfl | rfl | rfl | rfl | rfl | rfl | rfl | rfl | rfl
 all_goals
  unfold Rf.OfPost
  go_enter Tryz.func75, Tryz.ntmps75
  go_wp2_with fail
  refine bodyPost_ret (v := .tuple #[.agg #[.string (Isa.nameOf _), .int .i64 (Isa.formOf _ : Int), .int .u8 (Rf.immC (Isa.numOf _)), .int .u8 (Rf.shC (Isa.formOf _) (Isa.shapeOf _))], .bool true]) (by simp [results, Tryz.results75, go_sem]; decide +kernel) rfl ⟨rfl, ?_⟩
  repeat (first | exact Below.refl _ _ | refine below_alloc' ?_ _ | refine Below.drew ?_)
end Go.Proofs.YtabmlbnnhhpaoaaGreatDoor
