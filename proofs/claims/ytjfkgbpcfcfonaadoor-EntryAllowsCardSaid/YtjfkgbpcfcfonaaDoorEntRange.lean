/- A range over a string, wherever its place lies. -/
import Derived.Test.YtjfkgbpcfcfonaaDoorEnt1
import Derived.Lib.SlBytesConst
import Derived.Lib.SmallJoins
import Derived.Laws.RangeString
namespace Go.Proofs.YtjfkgbpcfcfonaaDoor
open Go.RowKit
set_option linter.unusedSimpArgs false
set_option linter.unusedVariables false
def _root_.Go.World.setObj (w : World) (g : Nat) (o : Obj) : World := { w with heap := w.heap.setIfInBounds g o }
theorem next_ascii {P : Program} (w : World) (g : Nat) (s : ByteArray) (pos : Nat) (ty : TypeId) (hk : w.heap[g]? = some (.stringIter s pos)) (h : pos < s.size) (ha : (s[pos]'h).toNat < 128) :
    (Instr.next (.pointer (some ⟨g, 0, none⟩)) true ty).run P w =
      .ok (.tuple #[.bool true, .int .i64 pos, .int .i32 (s[pos]'h).toNat]) (w.setObj g (.stringIter s (pos + 1))) := by
  simp only [Instr.next, getObj, setObj, Sem.run_bind, Sem.run, hk, Result.andThen, h, if_true, decode_ascii s pos h ha]
  simp [goInt, Sem.run, hk, World.setObj]
theorem next_end {P : Program} (w : World) (g : Nat) (s : ByteArray) (pos : Nat) (ty : TypeId) (hk : w.heap[g]? = some (.stringIter s pos)) (h : ¬ pos < s.size) :
    (Instr.next (.pointer (some ⟨g, 0, none⟩)) true ty).run P w = .ok (.tuple #[.bool false]) w := by
  simp [Instr.next, getObj, Sem.run, hk, h]
theorem setObj_at {w : World} {g : Nat} {o p : Obj} (h : w.heap[g]? = some o) : (w.setObj g p).heap[g]? = some p := by
  have := blk_size h
  simp [World.setObj, this]
theorem setObj_other {w : World} {g k : Nat} {o p : Obj} (h : w.heap[k]? = some o) (hne : g ≠ k) : (w.setObj g p).heap[k]? = some o := by
  simp [World.setObj, hne, h]
theorem setObj_below {B : Nat} {a w : World} (h : Below B a w) {g : Nat} (hg : B ≤ g) (p : Obj) : Below B a (w.setObj g p) :=
  h.trans ⟨rfl, rfl, rfl, by simp [World.setObj], fun k hk => by
    show (w.heap.setIfInBounds g p)[k]? = _
    rw [Array.getElem?_setIfInBounds_ne (by omega)]⟩
theorem setCell_other {w : World} {g k : Nat} {o : Obj} (h : w.heap[k]? = some o) (i : Nat) (v : Value) (hne : g ≠ k) : (w.setCell ⟨g, i, none⟩ v).heap[k]? = some o :=
  (Below.heap_setCell w ⟨g, i, none⟩ v k (fun e => hne e.symm)).trans h
end Go.Proofs.YtjfkgbpcfcfonaaDoor
