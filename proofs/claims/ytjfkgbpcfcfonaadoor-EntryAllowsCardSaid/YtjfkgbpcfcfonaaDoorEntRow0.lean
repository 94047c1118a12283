/- EntryAllows: from the listed variables to what the walks ask of them; a world that meets the condition. -/
import Derived.Test.YtjfkgbpcfcfonaaDoorRows
import Derived.Test.YtjfkgbpcfcfonaaDoorEnt6
import Derived.Lib.LaidU8
import Derived.Carry
import Derived.ChangeOld
import Derived.ShutString
import Derived.SizedLaws
import Derived.ProofKit
import Derived.LaidMore
import Derived.OpenShut
import Derived.Stop.Joined
namespace Go.Proofs.YtjfkgbpcfcfonaaDoor
open Go.ChangeShapes Go.WideShapes Go.ChangeAt Go.RowKit
theorem own : ownKnob Tryd.prog.godebug = none := by kernel_rfl
def laid4 : List (String × DataW Unit) := (Rows.entryAllowsRow).laid
theorem laid4_plain (W : World) : laidMetH Tryd.prog laid4 W = laidMet Tryd.prog laid4 W := MakeChecks.laidMetH_plain _ _ _ (by kernel_rfl)
theorem row_of_var {W : World} {nm : String} {g : Nat} {cs : Array Value} (hg : Tryd.prog.globalNamed nm = some g) (hv : W.var? Tryd.prog nm = some cs) : ∃ t fr, W.heap[g]? = some (.cells cs t fr) := by
  unfold World.var? at hv
  rw [hg, Option.bind_some] at hv
  split at hv
  · rename_i cs' t fr hh
    obtain rfl := Option.some.inj hv
    exact ⟨t, fr, hh⟩
  · cases hv
set_option maxRecDepth 100000 in
theorem of_laid {W : World} (h : laidMetH Tryd.prog laid4 W) : Ent.Laid W := by
  rw [laid4_plain] at h
  constructor
  obtain ⟨g, t, cs, fuel, p, hg, ht, hv, hd⟩ := Lib.laidMet.reads h (n := _) (d := Rows.laid_math_bits_deBruijn64tab) (.tail _ (.head _))
  obtain rfl : 5 = g := Option.some.inj ((show Tryd.prog.globalNamed _ = some 5 by kernel_rfl).symm.trans hg)
  obtain rfl : 103 = t := Option.some.inj ((show (Tryd.prog.globals[5]?).map (·.type) = some 103 by kernel_rfl).symm.trans ht)
  obtain ⟨ty, fr, hh⟩ := row_of_var hg hv
  refine ⟨ty, fr, cs, hh, ?_⟩
  have e := Lib.cells_of_tab (k := .u8) (zs := [0, 1, 56, 2, 57, 49, 28, 3, 61, 58, 42, 50, 38, 29, 17, 4, 62, 47, 59, 36, 45, 43, 51, 22, 53, 39, 33, 30, 24, 18, 12, 5, 63, 55, 48, 27, 60, 41, 37, 16, 46, 35, 44, 21, 52, 32, 23, 11, 54, 26, 40, 15, 34, 20, 31, 10, 25, 14, 19, 9, 13, 8, 7, 6]) Tryd.underlying103 Tryd.underlying5 (by kernel_rfl) (by kernel_rfl) hd
  rw [← Array.getElem?_toList, e]
  rfl
theorem law_walk_int (p : Int) (h0 : 0 ≤ p) (h1 : p ≤ 255) (a : Int) (w : World) (hL : Ent.Laid w) : Calls Tryd.prog 3 #[.int .u8 p, .int .i64 a] w fun e w' => e = .returned (.bool true) ∧ Below w.heap.size w w' := by
  obtain ⟨n, rfl⟩ := Int.eq_ofNat_of_zero_le h0
  exact law_walk n (by omega) a w hL
theorem laidOut : laidOutB Tryd.prog = true := by kernel_rfl
theorem trod_back {H : Type} {enc : TypeId × Value → H} {t : TypeId} (hr : Tryd.prog.readableRec t = true) (ht : decide (t < Tryd.prog.types.size) = true) {W W' : World} {v : Value} {d : DataW H} {ps : List MemPlace}
    (h : DataW.Trod enc Tryd.prog W 0 (fun _ => true) true t v d ps) (hb : Below W.heap.size W W') : DataW.Trod enc Tryd.prog W' 0 (fun b => decide (b < W.heap.size)) true t v d ps :=
  Below.trod laidOut hr (of_decide_eq_true ht) h hb (by obtain ⟨m, hm⟩ := h; exact DataW.trod_lt m _ _ _ hm)
/-- The door's own heap meets the condition. -/
theorem door_met (os : Os) (args : Array Value) : laidMetH Tryd.prog laid4 ((World.doorLaid Tryd.prog 400 os).forCall (fun _ _ => 0) ⟨#[], args, []⟩).memory :=
  laidMetH_of_parts3 (fuel := 8) (laidMet_of_run' 8 (by kernel_rfl) (by kernel_rfl)) (by kernel_rfl) (by kernel_rfl)
end Go.Proofs.YtjfkgbpcfcfonaaDoor
