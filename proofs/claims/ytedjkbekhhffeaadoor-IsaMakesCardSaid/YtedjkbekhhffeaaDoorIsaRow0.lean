/- What the rows of package isa's laws share: from the listed variables to what the walks ask of them; a world that meets the condition. -/
import Derived.Test.YtedjkbekhhffeaaDoorRows
import Derived.Test.YtedjkbekhhffeaaDoorIsaBase
import Derived.Lib.LaidU8
import Derived.ProofKit
import Derived.LaidMore
import Derived.OpenShut
import Derived.Stop.Joined
namespace Go.Proofs.YtedjkbekhhffeaaDoor
open Go.ChangeShapes Go.WideShapes Go.ChangeAt Go.RowKit
theorem own : ownKnob Tryd.prog.godebug = none := by kernel_rfl
def laid4 : List (String × DataW Unit) := (Rows.isaWordsRow).laid
theorem laid4_plain (W : World) : laidMetH Tryd.prog laid4 W = laidMet Tryd.prog laid4 W := MakeChecks.laidMetH_plain _ _ _ (by kernel_rfl)
theorem row_of_var {W : World} {nm : String} {g : Nat} {cs : Array Value} (hg : Tryd.prog.globalNamed nm = some g) (hv : W.var? Tryd.prog nm = some cs) : ∃ t fr, W.heap[g]? = some (.cells cs t fr) := by
  unfold World.var? at hv
  rw [hg, Option.bind_some] at hv
  split at hv
  · rename_i cs' t fr hh
    obtain rfl := Option.some.inj hv
    exact ⟨t, fr, hh⟩
  · cases hv
theorem quads {α : Type} : ∀ (n : Nat) (l : List α) (L : Nat → List α), l.length = n * 4 → (∀ i, i < n → (l.drop (i * 4)).take 4 = L i) → l = (List.range n).flatMap L
  | 0, l, L, hl, _ => by
    have : l = [] := List.length_eq_zero_iff.1 (by simpa using hl)
    simp [this]
  | n + 1, l, L, hl, h => by
    have h0 := h 0 (by omega)
    simp only [Nat.zero_mul, List.drop_zero] at h0
    have ih := quads n (l.drop 4) (fun i => L (i + 1)) (by simp; omega) (fun i hi => by
      have := h (i + 1) (by omega)
      rw [← this, List.drop_drop]
      congr 2
      omega)
    rw [List.range_succ_eq_map, List.flatMap_cons, ← h0, List.flatMap_map]
    exact (List.take_append_drop 4 l).symm.trans (congrArg (l.take 4 ++ ·) ih)
set_option maxRecDepth 100000 in
theorem of_laid {W : World} (h : laidMetH Tryd.prog laid4 W) : Isa.Laid W := by
  rw [laid4_plain] at h
  constructor
  · obtain ⟨g, t, cs, fuel, p, hg, ht, hv, hd⟩ := Lib.laidMet.reads h (n := _) (d := Rows.laid_cloister_isa_layouts) (.tail _ (.tail _ (.tail _ (.head _))))
    obtain rfl : 0 = g := Option.some.inj ((show Tryd.prog.globalNamed _ = some 0 by kernel_rfl).symm.trans hg)
    obtain rfl : 58 = t := Option.some.inj ((show (Tryd.prog.globals[0]?).map (·.type) = some 58 by kernel_rfl).symm.trans ht)
    obtain ⟨ty, fr, hh⟩ := row_of_var hg hv
    refine ⟨ty, fr, ?_⟩
    obtain ⟨xs, m, rfl, hx, hl, hn, hel⟩ := DataW.trod_array Tryd.underlying58 hd
    have hl' : cs.toList.length = 9 * 4 := hl.trans (by kernel_rfl)
    have hxs : xs.map (·.1) = (List.range 9).map fun f => (DataW.agg ([Isa.atD f, Isa.atA f, Isa.atB f, (Isa.bits f : Int)].map fun z => .lit (.int .i64 z)) : DataW Unit) := by
      have := congrArg Prod.fst hx
      simp only [Rows.laid_cloister_isa_layouts, DataW.agg.injEq] at this
      rw [← this]
      rfl
    have key : ∀ i, i < 9 → (cs.toList.drop (i * 4)).take 4 = [Isa.atD i, Isa.atA i, Isa.atB i, (Isa.bits i : Int)].map fun z => Value.int .i64 z := by
      intro i hi
      have h1 := hel i hi
      have h2 : (xs.map (·.1))[i]? = some (DataW.agg ([Isa.atD i, Isa.atA i, Isa.atB i, (Isa.bits i : Int)].map fun z => .lit (.int .i64 z)) : DataW Unit) := by
        rw [hxs, List.getElem?_map, List.getElem?_range hi]
        rfl
      rw [List.getElem?_map, Option.map_eq_some_iff] at h2
      obtain ⟨⟨d, pp⟩, h3, h4⟩ := h2
      have h5 : d = _ := h4
      subst h5
      rw [h3] at h1
      have e4 : Tryd.prog.cellsOf 57 = 4 := by kernel_rfl
      rw [e4] at h1
      exact Lib.ints_of_struct Tryd.underlying57 (fun j f hf => by
        match j, hf with
        | 0, hf => obtain rfl := Option.some.inj hf; exact ⟨Tryd.underlying3, rfl, by kernel_rfl⟩
        | 1, hf => obtain rfl := Option.some.inj hf; exact ⟨Tryd.underlying3, rfl, by kernel_rfl⟩
        | 2, hf => obtain rfl := Option.some.inj hf; exact ⟨Tryd.underlying3, rfl, by kernel_rfl⟩
        | 3, hf => obtain rfl := Option.some.inj hf; exact ⟨Tryd.underlying3, rfl, by kernel_rfl⟩
        | n + 4, hf => cases hf) (by kernel_rfl) h1
    have hc : cs.toList = (List.range 9).flatMap fun i => [Isa.atD i, Isa.atA i, Isa.atB i, (Isa.bits i : Int)].map fun z => Value.int .i64 z := quads 9 _ _ hl' key
    have hcs : cs = Isa.layCells := by
      apply Array.toList_inj.1
      rw [hc]
      rfl
    rw [hh, hcs]
  · obtain ⟨g, t, cs, fuel, p, hg, ht, hv, hd⟩ := Lib.laidMet.reads h (n := _) (d := Rows.laid_internal_strconv_uint64pow10) (.tail _ (.tail _ (.head _)))
    obtain rfl : 1 = g := Option.some.inj ((show Tryd.prog.globalNamed _ = some 1 by kernel_rfl).symm.trans hg)
    obtain rfl : 104 = t := Option.some.inj ((show (Tryd.prog.globals[1]?).map (·.type) = some 104 by kernel_rfl).symm.trans ht)
    obtain ⟨ty, fr, hh⟩ := row_of_var hg hv
    refine ⟨ty, fr, ?_⟩
    have e := Lib.cells_of_tab (zs := Lib.pow10Tab) Tryd.underlying104 Tryd.underlying94 (by kernel_rfl) (by kernel_rfl) hd
    rw [hh, ← e]
/-- The door's own heap meets the condition. -/
theorem door_met (os : Os) (args : Array Value) : laidMetH Tryd.prog laid4 ((World.doorLaid Tryd.prog 400 os).forCall (fun _ _ => 0) ⟨#[], args, []⟩).memory :=
  laidMetH_of_parts3 (fuel := 8) (laidMet_of_run' 8 (by kernel_rfl) (by kernel_rfl)) (by kernel_rfl) (by kernel_rfl)
end Go.Proofs.YtedjkbekhhffeaaDoor
