/- What this claim needs of MRefA. -/
import Derived.Test.YtabmlbnnhhpaoaaGreatDoorTMIsaBase
import Derived.Deep.QuietTactic
import Derived.BigQuiet
set_option linter.unusedSimpArgs false
set_option linter.unusedVariables false
set_option maxHeartbeats 1000000
namespace Go.Proofs.YtabmlbnnhhpaoaaGreatDoor
open Go.RowKit
namespace Rf
def immC (nu : Nat) : Int := if nu = 1 then 115 else if nu = 2 then 117 else if nu = 3 then 110 else 45
def shC (f s : Nat) : Int := if s = 1 then 109 else if f = 1 then 51 else if f = 5 ∨ f = 6 then 49 else if f = 7 then 106 else if f = 8 then 45 else 105
end Rf
def Rf.OfPost (n : Nat) (w : World) (e : Ending) (w' : World) : Prop :=
 e = .returned (.tuple #[.agg #[.string (Isa.nameOf n), .int .i64 (Isa.formOf n : Int), .int .u8 (Rf.immC (Isa.numOf n)), .int .u8 (Rf.shC (Isa.formOf n) (Isa.shapeOf n))], .bool true]) ∧ Below w.heap.size w w'
theorem rof_none (n : Int) (h : n < 1 ∨ 48 < n) (w : World) : Calls Tryz.prog 75 #[.int .i64 n] w fun e w' => e = .returned (.tuple #[.agg #[.string ⟨#[]⟩, .int .i64 0, .int .u8 0, .int .u8 0], .bool false]) ∧ Below w.heap.size w w' := by
 rcases h with h | h
 all_goals
  try have h' : ¬ n < 1 := by omega
  go_enter Tryz.func75, Tryz.ntmps75
  go_wp2_with fail
  refine bodyPost_ret (v := .tuple #[.agg #[.string ⟨#[]⟩, .int .i64 0, .int .u8 0, .int .u8 0], .bool false]) (by simp [results, Tryz.results75, go_sem]) rfl ⟨rfl, ?_⟩
  repeat (first | exact Below.refl _ _ | refine below_alloc' ?_ _ | refine Below.drew ?_)
end Go.Proofs.YtabmlbnnhhpaoaaGreatDoor
