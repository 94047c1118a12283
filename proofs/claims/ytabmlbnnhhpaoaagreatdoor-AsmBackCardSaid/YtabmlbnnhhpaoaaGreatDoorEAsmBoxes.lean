/- What this claim needs of AsmBoxes. -/
import Derived.Test.YtabmlbnnhhpaoaaGreatDoorEMAsmIns
set_option linter.unusedSimpArgs false
set_option linter.unusedVariables false
namespace Go.Proofs.YtabmlbnnhhpaoaaGreatDoor
open Go.RowKit Go.Shelf
theorem instr_boxes (op : Int) (w : World) : ∃ W W1 W2 W3 W4 W5 W6 : World, ((w.alloc (.cells #[.int .i64 op, .int .u8 0, .int .u8 0, .int .u8 0, .int .i32 0] 96)).alloc (.cells #[.string ⟨#[]⟩, .int .i64 0] 195)).alloc (.map #[] 0) = W ∧ W.heap.size = w.heap.size + 2 + 1 ∧
 Asm.FieldsMap W (w.heap.size + 2) w.heap.size W1 W2 W3 W4 W5 W6 ∧ Below w.heap.size w W6 ∧ W6.heap[w.heap.size]? = some (.cells #[.int .i64 op, .int .u8 0, .int .u8 0, .int .u8 0, .int .i32 0] 96 (0, 0)) ∧ W6.heap[w.heap.size + 1]? = some (.cells #[.string ⟨#[]⟩, .int .i64 0] 195 (0, 0)) := by
 obtain ⟨W, hW⟩ : ∃ W, ((w.alloc (.cells #[.int .i64 op, .int .u8 0, .int .u8 0, .int .u8 0, .int .i32 0] 96)).alloc (.cells #[.string ⟨#[]⟩, .int .i64 0] 195)).alloc (.map #[] 0) = W := ⟨_, rfl⟩
 have hb0 : Below w.heap.size w W := hW ▸ below_alloc' (below_alloc' (below_alloc' (Below.refl _ _) _) _) _
 have hown : W.ownsMap Tryz.prog 147 Asm.RV (w.heap.size + 2) 0 (.map []) := by
  have h := World.ownsMap_made ((w.alloc (.cells #[.int .i64 op, .int .u8 0, .int .u8 0, .int .u8 0, .int .i32 0] 96)).alloc (.cells #[.string ⟨#[]⟩, .int .i64 0] 195)) Tryz.prog 147 Asm.RV
  rw [hW, alloc_size, alloc_size] at h
  exact h
 have Kib0 : W.heap[w.heap.size]? = some (.cells #[.int .i64 op, .int .u8 0, .int .u8 0, .int .u8 0, .int .i32 0] 96 (0, 0)) := hW ▸ blk_alloc _ (blk_alloc _ (heap_alloc_new _ _))
 have Kvb0 : W.heap[w.heap.size + 1]? = some (.cells #[.string ⟨#[]⟩, .int .i64 0] 195 (0, 0)) := by
  have h := heap_alloc_new (w.alloc (.cells #[.int .i64 op, .int .u8 0, .int .u8 0, .int .u8 0, .int .i32 0] 96)) (.cells #[.string ⟨#[]⟩, .int .i64 0] 195)
  rw [alloc_size] at h
  exact hW ▸ blk_alloc _ h
 have hWs : W.heap.size = w.heap.size + 2 + 1 := by rw [← hW, alloc_size, alloc_size, alloc_size]
 obtain ⟨W1, W2, W3, W4, W5, W6, hF⟩ := fields_map W (w.heap.size + 2) w.heap.size hown
 have off6 := hF.2.2.2.2.2.2.2.1
 exact ⟨W, W1, W2, W3, W4, W5, W6, hW, hWs, hF, below_off hb0 off6 (fun g e => by omega) hb0.size, (off6.block _ (blk_size Kib0) (by omega)).trans Kib0, (off6.block _ (blk_size Kvb0) (by omega)).trans Kvb0⟩
theorem fields_look {W W1 W2 W3 W4 W5 W6 w7 : World} {mb : Nat} (o6 : W6.ownsMap Tryz.prog 147 Asm.RV mb 6 (Asm.fieldsD W.heap.size W1.heap.size W2.heap.size W3.heap.size W4.heap.size W5.heap.size)) (hb7 : Below W6.heap.size W6 w7) (k : Int) (hk : (Lit.int .i64 k).wf = true) (v : Value)
 (hat : (Asm.fieldsD W.heap.size W1.heap.size W2.heap.size W3.heap.size W4.heap.size W5.heap.size).atKey (.int .i64 k) (.held (.slice none 0 0)) = .held v) :
 (Instr.lookup 197 (.map (some mb)) (.int .i64 k) false).run Tryz.prog w7 = .ok v w7 := by
 have o7 := o6.kept (row := none) ⟨hb7.os, hb7.tape, hb7.output, hb7.size, fun j hj _ => hb7.block j hj⟩ (by simp)
 obtain ⟨v7, ps7, hlk, hv7⟩ := o7.lookup (Maps.int_keyed Tryz.underlying147) Tryz.underlying197 (z := .slice none 0 0) (Tryz.zeroValue196 w7) (show Asm.RV (.slice none 0 0) = _ from rfl) (Maps.keyOf_int_mk Tryz.underlying147 hk)
 rw [hat] at hv7
 have hv7' : v7 = v := by injection (congrArg Prod.fst (Option.some.inj hv7))
 rw [← hv7']
 exact hlk
end Go.Proofs.YtabmlbnnhhpaoaaGreatDoor
