/- What this claim needs of MRefOf2. -/
import Derived.Test.YtabmlbnnhhpaoaaGreatDoorTMRefA
set_option linter.unusedSimpArgs false
set_option linter.unusedVariables false
set_option maxHeartbeats 20000000
set_option maxRecDepth 100000
namespace Go.Proofs.YtabmlbnnhhpaoaaGreatDoor
open Go.RowKit
theorem rof_b (n : Nat) (h1 : 14 ≤ n) (h2 : n ≤ 22) (w : World) : Calls Tryz.prog 75 #[.int .i64 (n : Int)] w (Rf.OfPost n w) := by
 rcases (show n = 14 ∨ n = 15 ∨ n = 16 ∨ n = 17 ∨ n = 18 ∨ n = 19 ∨ n = 20 ∨ n = 21 ∨ n = 22 from by omega) with rfl | rfl | rfl | rfl | rfl | rfl | rfl | rfl | rfl
 all_goals
  unfold Rf.OfPost
  go_enter Tryz.func75, Tryz.ntmps75
  go_wp2_with fail
  go_region
  all_goals go_wp2_with fail
  refine bodyPost_ret (v := .tuple #[.agg #[.string (Isa.nameOf _), .int .i64 (Isa.formOf _ : Int), .int .u8 (Rf.immC (Isa.numOf _)), .int .u8 (Rf.shC (Isa.formOf _) (Isa.shapeOf _))], .bool true]) (by simp [results, Tryz.results75, go_sem]; decide +kernel) rfl ⟨rfl, ?_⟩
  repeat (first | exact Below.refl _ _ | refine below_alloc' ?_ _ | refine Below.drew ?_)
theorem rof_c (n : Nat) (h1 : 23 ≤ n) (h2 : n ≤ 31) (w : World) : Calls Tryz.prog 75 #[.int .i64 (n : Int)] w (Rf.OfPost n w) := by
 rcases (show n = 23 ∨ n = 24 ∨ n = 25 ∨ n = 26 ∨ n = 27 ∨ n = 28 ∨ n = 29 ∨ n = 30 ∨ n = 31 from by omega) with rfl | rfl | rfl | rfl | rfl | rfl | rfl | rfl | rfl
 all_goals
  unfold Rf.OfPost
  go_enter Tryz.func75, Tryz.ntmps75
  go_wp2_with fail
  refine bodyPost_ret (v := .tuple #[.agg #[.string (Isa.nameOf _), .int .i64 (Isa.formOf _ : Int), .int .u8 (Rf.immC (Isa.numOf _)), .int .u8 (Rf.shC (Isa.formOf _) (Isa.shapeOf _))], .bool true]) (by simp [results, Tryz.results75, go_sem]; decide +kernel) rfl ⟨rfl, ?_⟩
  repeat (first | exact Below.refl _ _ | refine below_alloc' ?_ _ | refine Below.drew ?_)
end Go.Proofs.YtabmlbnnhhpaoaaGreatDoor
