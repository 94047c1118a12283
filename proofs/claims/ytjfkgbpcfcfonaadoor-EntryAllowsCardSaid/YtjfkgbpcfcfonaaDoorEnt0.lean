/- EntryAllows: numbers as texts of base 16, closed calls. What the walks share. -/
import Derived.Test.YtjfkgbpcfcfonaaDoorShelf
import Derived.Test.YtjfkgbpcfcfonaaDoorPEntryAllowsx3
import Derived.Test.YtjfkgbpcfcfonaaDoorPEntryAllowsx60
import Derived.Deep.QuietTactic
import Derived.BigQuiet
import Derived.Lib.Hide
import Derived.WalkKit
namespace Go.Proofs.YtjfkgbpcfcfonaaDoor
open Go.RowKit
set_option linter.unusedSimpArgs false
set_option linter.unusedVariables false
theorem blk_facts {w : World} {g : Nat} {t : TypeId} {cs : Array Value} (h : w.heap[g]? = some (.cells cs t (0, 0))) : (∀ i, w.cell? ⟨g, i, none⟩ = cs[i]?) ∧ (∀ i, w.frozen? ⟨g, i, none⟩ = false) :=
  ⟨fun i => cell_of_row w g i cs t (0, 0) h, fun i => frozen_of_row w g i cs t h⟩
theorem blk_size {w : World} {g : Nat} {o : Obj} (h : w.heap[g]? = some o) : g < w.heap.size := (Array.getElem?_eq_some_iff.1 h).1
theorem blk_keep {w w1 : World} {g : Nat} {o : Obj} (hb : Below w.heap.size w w1) (h : w.heap[g]? = some o) : w1.heap[g]? = some o := (hb.block g (blk_size h)).trans h
theorem blk_alloc {w : World} {g : Nat} {o : Obj} (x : Obj) (h : w.heap[g]? = some o) : (w.alloc x).heap[g]? = some o := (Below.heap_alloc w x g (blk_size h)).trans h
theorem below_next {w0 w w1 : World} (h : Below w0.heap.size w0 w) (k : Below w.heap.size w w1) : Below w0.heap.size w0 w1 := h.trans (k.mono h.size)
theorem below_alloc' {w0 w : World} (h : Below w0.heap.size w0 w) (o : Obj) : Below w0.heap.size w0 (w.alloc o) := h.alloc h.size o
theorem below_drewN' {B : Nat} {a w : World} (h : Below B a w) (n : Nat) : Below B a (w.drewN n) := h.trans ⟨rfl, rfl, rfl, Nat.le_refl _, fun _ _ => rfl⟩
/-- The one place of the listed variables that the closed calls read. -/
structure Ent.Laid (w : World) : Prop where
  tz : ∃ t fr cs, w.heap[5]? = some (.cells cs t fr) ∧ cs[15]? = some (.int .u8 4)
theorem Ent.Laid.below {w w1 : World} (h : Ent.Laid w) (hb : Below w.heap.size w w1) : Ent.Laid w1 := by
  obtain ⟨t, fr, cs, h1, h2⟩ := h
  exact ⟨t, fr, cs, blk_keep hb h1, h2⟩
theorem Ent.Laid.cell {w : World} (h : Ent.Laid w) : w.cell? ⟨5, 15, none⟩ = some (.int .u8 4) := by
  obtain ⟨t, fr, cs, h1, h2⟩ := h
  rw [cell_of_row w _ 15 cs t fr h1, h2]
theorem Ent.Laid.lt {w : World} (h : Ent.Laid w) : 5 < w.heap.size := by
  obtain ⟨t, fr, cs, h1, h2⟩ := h
  exact blk_size h1
set_option maxHeartbeats 1000000 in
set_option maxRecDepth 100000 in
theorem tz64_calls (w : World) (hL : Ent.Laid w) : Calls Tryd.prog 62 #[.int .u64 16] w fun e w' => e = .returned (.int .i64 4) ∧ Below w.heap.size w w' := by
  have hc := hL.cell
  have hz := hL.lt
  have hx : IntKind.u64.wrap (bits BinOp.and IntKind.u64 16 (IntKind.u64.wrap (-16)) * 285870213051353865) / 288230376151711744 = 15 := by kernel_rfl
  go_enter Tryd.func62, Tryd.ntmps62
  go_wp2_with fail
  go_ret
  exact ⟨rfl, Below.refl _ _⟩
set_option maxHeartbeats 1000000 in
set_option maxRecDepth 100000 in
theorem tz_calls (w : World) (hL : Ent.Laid w) : Calls Tryd.prog 55 #[.int .u64 16] w fun e w' => e = .returned (.int .i64 4) ∧ Below w.heap.size w w' := by
  go_enter Tryd.func55, Tryd.ntmps55
  go_wp2_with fail
  refine (tz64_calls _ hL).mono ?_
  rintro e w1 ⟨rfl, hb1⟩
  go_wp2_with fail
  go_ret
  exact ⟨rfl, hb1⟩
theorem pow_calls (w : World) : Calls Tryd.prog 54 #[.int .i64 16] w fun e w' => e = .returned (.bool true) ∧ w' = w := by
  go_enter Tryd.func54, Tryd.ntmps54
  go_wp2_with fail
  go_ret
  exact ⟨rfl, rfl⟩
end Go.Proofs.YtjfkgbpcfcfonaaDoor
