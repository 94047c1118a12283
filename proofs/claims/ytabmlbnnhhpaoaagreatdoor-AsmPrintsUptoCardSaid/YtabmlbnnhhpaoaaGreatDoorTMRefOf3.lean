/- What this claim needs of MRefOf3. -/
import Derived.Test.YtabmlbnnhhpaoaaGreatDoorTMRefA
set_option linter.unusedSimpArgs false
set_option linter.unusedVariables false
set_option maxHeartbeats 20000000
set_option maxRecDepth 100000
namespace Go.Proofs.YtabmlbnnhhpaoaaGreatDoor
open Go.RowKit
theorem rof_d (n : Nat) (h1 : 32 ≤ n) (h2 : n ≤ 48) (w : World) : Calls Tryz.prog 75 #[.int .i64 (n : Int)] w (Rf.OfPost n w) := by
 rcases (show n = 32 ∨ n = 33 ∨ n = 34 ∨ n = 35 ∨ n = 36 ∨ n = 37 ∨ n = 38 ∨ n = 39 ∨ n = 40 ∨ n = 41 ∨ n = 42 ∨ n = 43 ∨ n = 44 ∨ n = 45 ∨ n = 46 ∨ n = 47 ∨ n = 48 from by omega) with rfl | rfl | rfl | rfl | rfl | rfl | rfl | rfl | rfl | rfl | rfl | rfl | rfl | rfl | rfl | rfl | rfl
 all_goals
  unfold Rf.OfPost
  go_enter Tryz.func75, Tryz.ntmps75
  go_wp2_with fail
  refine bodyPost_ret (v := .tuple #[.agg #[.string (Isa.nameOf _), .int .i64 (Isa.formOf _ : Int), .int .u8 (Rf.immC (Isa.numOf _)), .int .u8 (Rf.shC (Isa.formOf _) (Isa.shapeOf _))], .bool true]) (by simp [results, Tryz.results75, go_sem]; decide +kernel) rfl ⟨rfl, ?_⟩
  repeat (first | exact Below.refl _ _ | refine below_alloc' ?_ _ | refine Below.drew ?_)
end Go.Proofs.YtabmlbnnhhpaoaaGreatDoor
