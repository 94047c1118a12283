/- What this claim needs of Asm10, Asm11, Asm12. -/
import Derived.Test.YtabmlbnnhhpaoaaGreatDoorEMAsmMark
import Derived.Test.YtabmlbnnhhpaoaaGreatDoorEMIsaReg
import Derived.Test.YtabmlbnnhhpaoaaGreatDoorEMAsmPut
set_option linter.unusedSimpArgs false
set_option linter.unusedVariables false
set_option maxHeartbeats 1000000
set_option maxRecDepth 100000
namespace Go.Proofs.YtabmlbnnhhpaoaaGreatDoor
open Go.RowKit Go.Shelf
namespace Asm
def RV (v : Value) : Option (DataW Value × List MemPlace) := some (.held v, [])
def fieldsD (s1 s2 s3 s4 s5 s6 : Nat) : DataW Value :=
 ((((((DataW.map []).put (.int .i64 1) (.held (.slice (some ⟨s1, 0, none⟩) 3 3))).put (.int .i64 2) (.held (.slice (some ⟨s2, 0, none⟩) 2 2))).put (.int .i64 3) (.held (.slice (some ⟨s3, 0, none⟩) 2 2))).put (.int .i64 4) (.held (.slice (some ⟨s4, 0, none⟩) 1 1))).put (.int .i64 5) (.held (.slice (some ⟨s5, 0, none⟩) 1 1))).put (.int .i64 6) (.held (.slice (some ⟨s6, 0, none⟩) 1 1))
end Asm
theorem Asm.Off.comp {N : Nat → Prop} {w w1 w2 : World} (h : Asm.Off N w w1) (k : Asm.Off N w1 w2) : Asm.Off N w w2 :=
 ⟨k.os.trans h.os, k.tape.trans h.tape, k.output.trans h.output, Nat.le_trans h.size k.size, fun g hg hn => (k.block g (Nat.lt_of_lt_of_le hg h.size) hn).trans (h.block g hg hn)⟩
def Asm.FieldsMap (W : World) (mb ip : Nat) (W1 W2 W3 W4 W5 W6 : World) : Prop :=
 (Instr.mapUpdate 197 (.map (some mb)) (.int .i64 1) (.slice (some ⟨W.heap.size, 0, none⟩) 3 3)).run Tryz.prog (W.alloc (.cells #[.pointer (some ⟨ip, 1, none⟩), .pointer (some ⟨ip, 2, none⟩), .pointer (some ⟨ip, 3, none⟩)] 143)) = .ok () W1 ∧ (Instr.mapUpdate 197 (.map (some mb)) (.int .i64 2) (.slice (some ⟨W1.heap.size, 0, none⟩) 2 2)).run Tryz.prog (W1.alloc (.cells #[.pointer (some ⟨ip, 1, none⟩), .pointer (some ⟨ip, 2, none⟩)] 143)) = .ok () W2 ∧ (Instr.mapUpdate 197 (.map (some mb)) (.int .i64 3) (.slice (some ⟨W2.heap.size, 0, none⟩) 2 2)).run Tryz.prog (W2.alloc (.cells #[.pointer (some ⟨ip, 2, none⟩), .pointer (some ⟨ip, 3, none⟩)] 143)) = .ok () W3 ∧ (Instr.mapUpdate 197 (.map (some mb)) (.int .i64 4) (.slice (some ⟨W3.heap.size, 0, none⟩) 1 1)).run Tryz.prog (W3.alloc (.cells #[.pointer (some ⟨ip, 1, none⟩)] 143)) = .ok () W4 ∧ (Instr.mapUpdate 197 (.map (some mb)) (.int .i64 5) (.slice (some ⟨W4.heap.size, 0, none⟩) 1 1)).run Tryz.prog (W4.alloc (.cells #[.pointer (some ⟨ip, 1, none⟩)] 143)) = .ok () W5 ∧ (Instr.mapUpdate 197 (.map (some mb)) (.int .i64 6) (.slice (some ⟨W5.heap.size, 0, none⟩) 1 1)).run Tryz.prog (W5.alloc (.cells #[.pointer (some ⟨ip, 2, none⟩)] 143)) = .ok () W6 ∧ W6.ownsMap Tryz.prog 147 Asm.RV mb 6 (Asm.fieldsD W.heap.size W1.heap.size W2.heap.size W3.heap.size W4.heap.size W5.heap.size) ∧ Asm.Off (· = mb) W W6 ∧ W6.heap[W.heap.size]? = some (.cells #[.pointer (some ⟨ip, 1, none⟩), .pointer (some ⟨ip, 2, none⟩), .pointer (some ⟨ip, 3, none⟩)] 143 (0, 0)) ∧ W6.heap[W1.heap.size]? = some (.cells #[.pointer (some ⟨ip, 1, none⟩), .pointer (some ⟨ip, 2, none⟩)] 143 (0, 0)) ∧ W6.heap[W2.heap.size]? = some (.cells #[.pointer (some ⟨ip, 2, none⟩), .pointer (some ⟨ip, 3, none⟩)] 143 (0, 0)) ∧ W6.heap[W3.heap.size]? = some (.cells #[.pointer (some ⟨ip, 1, none⟩)] 143 (0, 0)) ∧ W6.heap[W4.heap.size]? = some (.cells #[.pointer (some ⟨ip, 1, none⟩)] 143 (0, 0)) ∧ W6.heap[W5.heap.size]? = some (.cells #[.pointer (some ⟨ip, 2, none⟩)] 143 (0, 0)) ∧ W.heap.size ≤ W1.heap.size ∧ W1.heap.size ≤ W2.heap.size ∧ W2.heap.size ≤ W3.heap.size ∧ W3.heap.size ≤ W4.heap.size ∧ W4.heap.size ≤ W5.heap.size
theorem fields_map (W : World) (mb ip : Nat) (hown : W.ownsMap Tryz.prog 147 Asm.RV mb 0 (.map [])) :
 ∃ W1 W2 W3 W4 W5 W6 : World, Asm.FieldsMap W mb ip W1 W2 W3 W4 W5 W6 := by
 obtain ⟨W1, e1, o1, g1⟩ := (hown.alloc (.cells #[.pointer (some ⟨ip, 1, none⟩), .pointer (some ⟨ip, 2, none⟩), .pointer (some ⟨ip, 3, none⟩)] 143)).update (Maps.int_keyed Tryz.underlying147) Tryz.underlying197 (by decide) (Maps.keyOf_int_mk Tryz.underlying147 (by decide : (Lit.int .i64 1).wf = true)) (show Asm.RV (.slice (some ⟨W.heap.size, 0, none⟩) 3 3) = _ from rfl)
 have n1 := heap_alloc_new W (.cells #[.pointer (some ⟨ip, 1, none⟩), .pointer (some ⟨ip, 2, none⟩), .pointer (some ⟨ip, 3, none⟩)] 143)
 have l1 : mb < W.heap.size := hown.lt
 have s1 : W.heap.size < W1.heap.size := Nat.lt_of_lt_of_le (by rw [alloc_size]; omega) g1.size
 have a1 : W1.heap[W.heap.size]? = some (.cells #[.pointer (some ⟨ip, 1, none⟩), .pointer (some ⟨ip, 2, none⟩), .pointer (some ⟨ip, 3, none⟩)] 143 (0, 0)) := (g1.block _ (blk_size n1) (fun e => by have := Option.some.inj e; omega)).trans n1
 have k1 : ∀ {g : Nat} {o : Obj}, g ≠ mb → W.heap[g]? = some o → W1.heap[g]? = some o := fun {g o} hne hg => (g1.block g (blk_size (blk_alloc (.cells #[.pointer (some ⟨ip, 1, none⟩), .pointer (some ⟨ip, 2, none⟩), .pointer (some ⟨ip, 3, none⟩)] 143) hg)) (fun e => hne (Option.some.inj e))).trans (blk_alloc (.cells #[.pointer (some ⟨ip, 1, none⟩), .pointer (some ⟨ip, 2, none⟩), .pointer (some ⟨ip, 3, none⟩)] 143) hg)
 have f1 : Asm.Off (· = mb) W W1 := ⟨g1.os, g1.tape, g1.output, Nat.le_of_lt s1, fun g hg hne => (g1.block g (by rw [alloc_size]; omega) (fun e => hne (Option.some.inj e))).trans (Below.heap_alloc W (.cells #[.pointer (some ⟨ip, 1, none⟩), .pointer (some ⟨ip, 2, none⟩), .pointer (some ⟨ip, 3, none⟩)] 143) g hg)⟩
 obtain ⟨W2, e2, o2, g2⟩ := (o1.alloc (.cells #[.pointer (some ⟨ip, 1, none⟩), .pointer (some ⟨ip, 2, none⟩)] 143)).update (Maps.int_keyed Tryz.underlying147) Tryz.underlying197 (by decide) (Maps.keyOf_int_mk Tryz.underlying147 (by decide : (Lit.int .i64 2).wf = true)) (show Asm.RV (.slice (some ⟨W1.heap.size, 0, none⟩) 2 2) = _ from rfl)
 have n2 := heap_alloc_new W1 (.cells #[.pointer (some ⟨ip, 1, none⟩), .pointer (some ⟨ip, 2, none⟩)] 143)
 have l2 : mb < W1.heap.size := o1.lt
 have s2 : W1.heap.size < W2.heap.size := Nat.lt_of_lt_of_le (by rw [alloc_size]; omega) g2.size
 have a2 : W2.heap[W1.heap.size]? = some (.cells #[.pointer (some ⟨ip, 1, none⟩), .pointer (some ⟨ip, 2, none⟩)] 143 (0, 0)) := (g2.block _ (blk_size n2) (fun e => by have := Option.some.inj e; omega)).trans n2
 have k2 : ∀ {g : Nat} {o : Obj}, g ≠ mb → W1.heap[g]? = some o → W2.heap[g]? = some o := fun {g o} hne hg => (g2.block g (blk_size (blk_alloc (.cells #[.pointer (some ⟨ip, 1, none⟩), .pointer (some ⟨ip, 2, none⟩)] 143) hg)) (fun e => hne (Option.some.inj e))).trans (blk_alloc (.cells #[.pointer (some ⟨ip, 1, none⟩), .pointer (some ⟨ip, 2, none⟩)] 143) hg)
 have f2 : Asm.Off (· = mb) W1 W2 := ⟨g2.os, g2.tape, g2.output, Nat.le_of_lt s2, fun g hg hne => (g2.block g (by rw [alloc_size]; omega) (fun e => hne (Option.some.inj e))).trans (Below.heap_alloc W1 (.cells #[.pointer (some ⟨ip, 1, none⟩), .pointer (some ⟨ip, 2, none⟩)] 143) g hg)⟩
 obtain ⟨W3, e3, o3, g3⟩ := (o2.alloc (.cells #[.pointer (some ⟨ip, 2, none⟩), .pointer (some ⟨ip, 3, none⟩)] 143)).update (Maps.int_keyed Tryz.underlying147) Tryz.underlying197 (by decide) (Maps.keyOf_int_mk Tryz.underlying147 (by decide : (Lit.int .i64 3).wf = true)) (show Asm.RV (.slice (some ⟨W2.heap.size, 0, none⟩) 2 2) = _ from rfl)
 have n3 := heap_alloc_new W2 (.cells #[.pointer (some ⟨ip, 2, none⟩), .pointer (some ⟨ip, 3, none⟩)] 143)
 have l3 : mb < W2.heap.size := o2.lt
 have s3 : W2.heap.size < W3.heap.size := Nat.lt_of_lt_of_le (by rw [alloc_size]; omega) g3.size
 have a3 : W3.heap[W2.heap.size]? = some (.cells #[.pointer (some ⟨ip, 2, none⟩), .pointer (some ⟨ip, 3, none⟩)] 143 (0, 0)) := (g3.block _ (blk_size n3) (fun e => by have := Option.some.inj e; omega)).trans n3
 have k3 : ∀ {g : Nat} {o : Obj}, g ≠ mb → W2.heap[g]? = some o → W3.heap[g]? = some o := fun {g o} hne hg => (g3.block g (blk_size (blk_alloc (.cells #[.pointer (some ⟨ip, 2, none⟩), .pointer (some ⟨ip, 3, none⟩)] 143) hg)) (fun e => hne (Option.some.inj e))).trans (blk_alloc (.cells #[.pointer (some ⟨ip, 2, none⟩), .pointer (some ⟨ip, 3, none⟩)] 143) hg)
 have f3 : Asm.Off (· = mb) W2 W3 := ⟨g3.os, g3.tape, g3.output, Nat.le_of_lt s3, fun g hg hne => (g3.block g (by rw [alloc_size]; omega) (fun e => hne (Option.some.inj e))).trans (Below.heap_alloc W2 (.cells #[.pointer (some ⟨ip, 2, none⟩), .pointer (some ⟨ip, 3, none⟩)] 143) g hg)⟩
 obtain ⟨W4, e4, o4, g4⟩ := (o3.alloc (.cells #[.pointer (some ⟨ip, 1, none⟩)] 143)).update (Maps.int_keyed Tryz.underlying147) Tryz.underlying197 (by decide) (Maps.keyOf_int_mk Tryz.underlying147 (by decide : (Lit.int .i64 4).wf = true)) (show Asm.RV (.slice (some ⟨W3.heap.size, 0, none⟩) 1 1) = _ from rfl)
 have n4 := heap_alloc_new W3 (.cells #[.pointer (some ⟨ip, 1, none⟩)] 143)
 have l4 : mb < W3.heap.size := o3.lt
 have s4 : W3.heap.size < W4.heap.size := Nat.lt_of_lt_of_le (by rw [alloc_size]; omega) g4.size
 have a4 : W4.heap[W3.heap.size]? = some (.cells #[.pointer (some ⟨ip, 1, none⟩)] 143 (0, 0)) := (g4.block _ (blk_size n4) (fun e => by have := Option.some.inj e; omega)).trans n4
 have k4 : ∀ {g : Nat} {o : Obj}, g ≠ mb → W3.heap[g]? = some o → W4.heap[g]? = some o := fun {g o} hne hg => (g4.block g (blk_size (blk_alloc (.cells #[.pointer (some ⟨ip, 1, none⟩)] 143) hg)) (fun e => hne (Option.some.inj e))).trans (blk_alloc (.cells #[.pointer (some ⟨ip, 1, none⟩)] 143) hg)
 have f4 : Asm.Off (· = mb) W3 W4 := ⟨g4.os, g4.tape, g4.output, Nat.le_of_lt s4, fun g hg hne => (g4.block g (by rw [alloc_size]; omega) (fun e => hne (Option.some.inj e))).trans (Below.heap_alloc W3 (.cells #[.pointer (some ⟨ip, 1, none⟩)] 143) g hg)⟩
 obtain ⟨W5, e5, o5, g5⟩ := (o4.alloc (.cells #[.pointer (some ⟨ip, 1, none⟩)] 143)).update (Maps.int_keyed Tryz.underlying147) Tryz.underlying197 (by decide) (Maps.keyOf_int_mk Tryz.underlying147 (by decide : (Lit.int .i64 5).wf = true)) (show Asm.RV (.slice (some ⟨W4.heap.size, 0, none⟩) 1 1) = _ from rfl)
 have n5 := heap_alloc_new W4 (.cells #[.pointer (some ⟨ip, 1, none⟩)] 143)
 have l5 : mb < W4.heap.size := o4.lt
 have s5 : W4.heap.size < W5.heap.size := Nat.lt_of_lt_of_le (by rw [alloc_size]; omega) g5.size
 have a5 : W5.heap[W4.heap.size]? = some (.cells #[.pointer (some ⟨ip, 1, none⟩)] 143 (0, 0)) := (g5.block _ (blk_size n5) (fun e => by have := Option.some.inj e; omega)).trans n5
 have k5 : ∀ {g : Nat} {o : Obj}, g ≠ mb → W4.heap[g]? = some o → W5.heap[g]? = some o := fun {g o} hne hg => (g5.block g (blk_size (blk_alloc (.cells #[.pointer (some ⟨ip, 1, none⟩)] 143) hg)) (fun e => hne (Option.some.inj e))).trans (blk_alloc (.cells #[.pointer (some ⟨ip, 1, none⟩)] 143) hg)
 have f5 : Asm.Off (· = mb) W4 W5 := ⟨g5.os, g5.tape, g5.output, Nat.le_of_lt s5, fun g hg hne => (g5.block g (by rw [alloc_size]; omega) (fun e => hne (Option.some.inj e))).trans (Below.heap_alloc W4 (.cells #[.pointer (some ⟨ip, 1, none⟩)] 143) g hg)⟩
 obtain ⟨W6, e6, o6, g6⟩ := (o5.alloc (.cells #[.pointer (some ⟨ip, 2, none⟩)] 143)).update (Maps.int_keyed Tryz.underlying147) Tryz.underlying197 (by decide) (Maps.keyOf_int_mk Tryz.underlying147 (by decide : (Lit.int .i64 6).wf = true)) (show Asm.RV (.slice (some ⟨W5.heap.size, 0, none⟩) 1 1) = _ from rfl)
 have n6 := heap_alloc_new W5 (.cells #[.pointer (some ⟨ip, 2, none⟩)] 143)
 have l6 : mb < W5.heap.size := o5.lt
 have s6 : W5.heap.size < W6.heap.size := Nat.lt_of_lt_of_le (by rw [alloc_size]; omega) g6.size
 have a6 : W6.heap[W5.heap.size]? = some (.cells #[.pointer (some ⟨ip, 2, none⟩)] 143 (0, 0)) := (g6.block _ (blk_size n6) (fun e => by have := Option.some.inj e; omega)).trans n6
 have k6 : ∀ {g : Nat} {o : Obj}, g ≠ mb → W5.heap[g]? = some o → W6.heap[g]? = some o := fun {g o} hne hg => (g6.block g (blk_size (blk_alloc (.cells #[.pointer (some ⟨ip, 2, none⟩)] 143) hg)) (fun e => hne (Option.some.inj e))).trans (blk_alloc (.cells #[.pointer (some ⟨ip, 2, none⟩)] 143) hg)
 have f6 : Asm.Off (· = mb) W5 W6 := ⟨g6.os, g6.tape, g6.output, Nat.le_of_lt s6, fun g hg hne => (g6.block g (by rw [alloc_size]; omega) (fun e => hne (Option.some.inj e))).trans (Below.heap_alloc W5 (.cells #[.pointer (some ⟨ip, 2, none⟩)] 143) g hg)⟩
 refine ⟨W1, W2, W3, W4, W5, W6, ?_⟩
 unfold Asm.FieldsMap
 exact ⟨e1, e2, e3, e4, e5, e6, o6, (Asm.Off.comp (Asm.Off.comp (Asm.Off.comp (Asm.Off.comp (Asm.Off.comp f1 f2) f3) f4) f5) f6), (k6 (by omega) (k5 (by omega) (k4 (by omega) (k3 (by omega) (k2 (by omega) a1))))), (k6 (by omega) (k5 (by omega) (k4 (by omega) (k3 (by omega) a2)))), (k6 (by omega) (k5 (by omega) (k4 (by omega) a3))), (k6 (by omega) (k5 (by omega) a4)), (k6 (by omega) a5), a6, Nat.le_of_lt s1, Nat.le_of_lt s2, Nat.le_of_lt s3, Nat.le_of_lt s4, Nat.le_of_lt s5⟩
theorem contains_calls (g : Nat) (f : Nat) (hf : f < 9) (w : World) (hg : w.heap[g]? = some (.cells #[.int .i64 2, .int .i64 3, .int .i64 4, .int .i64 7] 147 (0, 0))) :
 Calls Tryz.prog 101 #[.slice (some ⟨g, 0, none⟩) 4 4, .int .i64 (f : Int)] w fun e w' => e = .returned (.bool (f == 2 || f == 3 || f == 4 || f == 7)) ∧ w' = w := by
 obtain ⟨d, _⟩ := blk_facts hg
 have d0 : w.cell? ⟨g, 0, none⟩ = some (.int .i64 2) := d 0
 have d1 : w.cell? ⟨g, 1, none⟩ = some (.int .i64 3) := d 1
 have d2 : w.cell? ⟨g, 2, none⟩ = some (.int .i64 4) := d 2
 have d3 : w.cell? ⟨g, 3, none⟩ = some (.int .i64 7) := d 3
 have hz := blk_size hg
 clear d
 have hidx : Calls Tryz.prog 133 #[.slice (some ⟨g, 0, none⟩) 4 4, .int .i64 (f : Int)] w fun e w' => e = .returned (.int .i64 (if f = 2 then 0 else if f = 3 then 1 else if f = 4 then 2 else if f = 7 then 3 else -1)) ∧ w' = w := by
  rcases (show f = 0 ∨ f = 1 ∨ f = 2 ∨ f = 3 ∨ f = 4 ∨ f = 5 ∨ f = 6 ∨ f = 7 ∨ f = 8 from by omega) with rfl | rfl | rfl | rfl | rfl | rfl | rfl | rfl | rfl <;>
  (go_enter Tryz.func133, Tryz.ntmps133
   go_wp2_with fail
   refine wp_loop_rounds 5 ?_
   iterate 5 (try (rw [rounds_succ]; go_wp2_with fail))
   go_ret
   exact ⟨rfl, rfl⟩)
 go_enter Tryz.func101, Tryz.ntmps101
 go_wp2_with fail
 refine hidx.mono ?_
 rintro e w' ⟨rfl, rfl⟩
 rcases (show f = 0 ∨ f = 1 ∨ f = 2 ∨ f = 3 ∨ f = 4 ∨ f = 5 ∨ f = 6 ∨ f = 7 ∨ f = 8 from by omega) with rfl | rfl | rfl | rfl | rfl | rfl | rfl | rfl | rfl <;>
 (go_wp2_with fail
  go_ret
  exact ⟨rfl, rfl⟩)
theorem encoded_calls (i : Asm.Ins) (v : Asm.Val) (w : World) :
 Calls Tryz.prog 105 #[.agg #[.int .i64 i.op, .int .u8 i.d, .int .u8 i.a, .int .u8 i.b, .int .i32 i.imm], .agg #[.string ⟨v.name.toArray⟩, .int .i64 v.n]] w fun e w' =>
  e = .returned (.func (.func 135) #[] #[.pointer (some ⟨w.heap.size + 1, 0, none⟩), .pointer (some ⟨w.heap.size, 0, none⟩)]) ∧
  w' = (w.alloc (.cells (Asm.insCells i) 96)).alloc (.cells (Asm.valCells v) 195) := by
 have hmf : ∀ (fn : Fn) (first cap : Array Value) (w : World), (Instr.makeFunc fn first cap).run Tryz.prog w = .ok (.func fn first cap) w := fun _ _ _ _ => rfl
 go_enter Tryz.func105, Tryz.ntmps105
 go_wp2_with fail
 go_ret
 exact ⟨rfl, rfl⟩
end Go.Proofs.YtabmlbnnhhpaoaaGreatDoor
namespace Go.Proofs.YtabmlbnnhhpaoaaGreatDoor
open Go.RowKit Go.Shelf
namespace Asm
structure IsReg (t : Tok) (n : Nat) : Prop where
 sort : t.sort = 0
 reg : regOf t.bytes = some n
structure IsSign (t : Tok) (c : UInt8) : Prop where
 sort : t.sort = 2
 bytes : t.bytes = [c]
def TokVal (t : Tok) (v : Val) : Prop := (t.sort = 1 ∧ v = ⟨[], t.n⟩) ∨ (t.sort = 0 ∧ t.bytes.length ≤ 1000000 ∧ nameOk t.bytes = true ∧ v = ⟨t.bytes, 0⟩)
end Asm
theorem below_off {N : Nat → Prop} {n : Nat} {a w w' : World} (h : Below n a w) (ho : Asm.Off N w w') (hN : ∀ g, N g → n ≤ g) (hn : n ≤ w.heap.size) : Below n a w' :=
 h.trans ⟨ho.os, ho.tape, ho.output, ho.size, fun g hg => ho.block g (by omega) (fun e => by have := hN g e; omega)⟩
theorem setCell_far {w : World} {g k : Nat} {o : Obj} (h : w.heap[k]? = some o) (hne : k ≠ g) (i : Nat) (v : Value) : (w.setCell ⟨g, i, none⟩ v).heap[k]? = some o :=
 ((Asm.setCell_grown w g i v).block k (blk_size h) (fun e => hne (Option.some.inj e))).trans h
theorem value_calls (B : Asm.PB) (S : Asm.PS) (t : Asm.Tok) (ts : List Asm.Tok) (v : Asm.Val) (hS : S.toks = t :: ts) (hv : Asm.TokVal t v) (w : World) (hP : Asm.Par B S w) :
 Calls Tryz.prog 103 #[.pointer (some ⟨B.b, 0, none⟩)] w fun e w' => e = .returned (.agg #[.string ⟨v.name.toArray⟩, .int .i64 v.n]) ∧
  ∃ B', Asm.Par B' { S with toks := ts } w' ∧ Asm.Step B w B' w' := by
 rcases hv with ⟨hs, rfl⟩ | ⟨hs, hl, hok, rfl⟩
 · exact value_num B S t ts hS hs w hP
 · exact value_name B S t ts hS hs hl hok w hP
theorem comma_calls (B : Asm.PB) (S : Asm.PS) (t : Asm.Tok) (ts : List Asm.Tok) (c : UInt8) (hS : S.toks = t :: ts) (hc : Asm.IsSign t c) (w : World) (hP : Asm.Par B S w) :
 Calls Tryz.prog 54 #[.pointer (some ⟨B.b, 0, none⟩), .string ⟨#[c]⟩] w fun e w' => e = .returned (.tuple #[]) ∧
  ∃ B', Asm.Par B' { S with toks := ts } w' ∧ Asm.Step B w B' w' := by
 have h := must_calls B S t ts hS hc.sort w hP
 rw [hc.bytes] at h
 exact h
end Go.Proofs.YtabmlbnnhhpaoaaGreatDoor
set_option maxHeartbeats 4000000
set_option maxRecDepth 100000
namespace Go.Proofs.YtabmlbnnhhpaoaaGreatDoor
open Go.RowKit Go.Shelf
namespace Asm
theorem tokView_row {w : World} {base : Nat} {v : Value} {l : List Tok} (h : w.ownsRow base 129 3 v l.length (l.flatMap tokCells)) : TokView w v l := by
 rcases h.2 with ⟨rfl, hn⟩ | ⟨g, cap, cur, rfl, hb, hg, h1, h2, h3, h4⟩
 · exact ⟨none, 0, by rw [hn], by omega, by decide, fun hne => absurd (List.eq_nil_of_length_eq_zero hn) hne⟩
 · refine ⟨some ⟨g, 0, none⟩, cap, rfl, h1, h2, fun _ => ⟨g, 0, cur, rfl, hg, fun j u hj => ?_⟩⟩
   have hj' : j < l.length * 3 := by
    have := (List.getElem?_eq_some_iff.1 hj).1
    rw [h.1] at this
    exact this
   rw [← h4] at hj
   rw [Nat.zero_add, ← Array.getElem?_toList]
   rw [List.getElem?_take] at hj
   rw [if_pos hj'] at hj
   exact hj
theorem row_slice {w : World} {base : Nat} {e : TypeId} {size : Nat} {v : Value} {n : Nat} {xs : List Value} (h : w.ownsRow base e size v n xs) : ∃ p cap, v = .slice p n cap := by
 rcases h.2 with ⟨rfl, hn⟩ | ⟨g, cap, cur, rfl, _⟩
 · exact ⟨none, 0, by rw [hn]⟩
 · exact ⟨_, _, rfl⟩
theorem Par.view {B : PB} {S : PS} {w : World} (h : Par B S w) {t : Tok} {ts : List Tok} (hS : S.toks = t :: ts) :
 ∃ g o cap, ts.length + 1 ≤ cap ∧ cap ≤ maxLen ∧ w.cell? ⟨B.b, 1, none⟩ = some (.slice (some ⟨g, o, none⟩) (ts.length + 1) cap) ∧ w.cell? ⟨g, o, none⟩ = some (.int .i64 (t.sort : Int)) ∧ w.cell? ⟨g, o + 1, none⟩ = some (.string ⟨t.bytes.toArray⟩) ∧
  (∀ u us, ts = u :: us → w.cell? ⟨g, o + 3, none⟩ = some (.int .i64 (u.sort : Int)) ∧ w.cell? ⟨g, o + 4, none⟩ = some (.string ⟨u.bytes.toArray⟩)) ∧ B.b < w.heap.size ∧ g < w.heap.size := by
 obtain ⟨p, cap, ev, hlc, hcm, hcell⟩ := h.toks
 obtain ⟨g, o, cur, rfl, hg, hu⟩ := hcell (by rw [hS]; simp)
 have hlen : S.toks.length = ts.length + 1 := by rw [hS]; rfl
 rw [hlen] at ev hlc
 obtain ⟨dp, _⟩ := blk_facts h.own
 obtain ⟨dg, _⟩ := blk_facts hg
 refine ⟨g, o, cap, hlc, hcm, (dp 1).trans (by rw [← ev]; rfl), (dg o).trans (hu 0 _ (by rw [hS]; rfl)), (dg (o + 1)).trans (hu 1 _ (by rw [hS]; rfl)), fun u us e => ?_, blk_size h.own, blk_size hg⟩
 subst e
 exact ⟨(dg (o + 3)).trans (hu 3 _ (by rw [hS]; rfl)), (dg (o + 4)).trans (hu 4 _ (by rw [hS]; rfl))⟩
theorem Par.viewNil {B : PB} {S : PS} {w : World} (h : Par B S w) (hS : S.toks = []) : ∃ p cap, w.cell? ⟨B.b, 1, none⟩ = some (.slice p 0 cap) ∧ B.b < w.heap.size := by
 obtain ⟨p, cap, ev, hlc, hcm, hcell⟩ := h.toks
 rw [hS] at ev
 exact ⟨p, cap, ((blk_facts h.own).1 1).trans (by rw [← show B.vt = .slice p 0 cap from ev]; rfl), blk_size h.own⟩
def otherKeys : List (List UInt8 × Nat) := [([108, 105], 106), ([109, 118], 107), ([106], 108), ([99, 97, 108, 108], 109), ([114, 101, 116], 110), ([46, 111, 114, 103], 111), ([46, 119, 111, 114, 100], 112), ([46, 122, 101, 114, 111], 113)]
def othersD (l : List (List UInt8 × Nat)) (D : DataW Value) : DataW Value := l.foldl (fun D p => D.put (.string p.1) (.held (.func (.func p.2) #[] #[]))) D
end Asm
theorem asm_info9 : (Tryz.prog.info? 9).map (fun i => (i.zero, i.size, i.bytes)) = some (some (.string ⟨#[]⟩), 1, 16) := by kernel_rfl
theorem others_calls (w : World) : Calls Tryz.prog 58 #[] w fun e w' => ∃ g, e = .returned (.map (some g)) ∧ w.heap.size ≤ g ∧ w'.ownsMap Tryz.prog 9 Asm.RV g 8 (Asm.othersD Asm.otherKeys (.map [])) ∧ Below w.heap.size w w' := by
 have hmm := @run_makeMap Tryz.prog
 have o0 := World.ownsMap_made w Tryz.prog 9 Asm.RV
 obtain ⟨W1, e1, o1, g1⟩ := o0.update (Maps.string_keyed Tryz.underlying9) Tryz.underlying134 (by decide) (Go.WideMaps.keyOf_string_mk Tryz.underlying9 (s := ⟨#[108, 105]⟩) (by decide)) (show Asm.RV (.func (.func 106) #[] #[]) = _ from rfl)
 obtain ⟨W2, e2, o2, g2⟩ := o1.update (Maps.string_keyed Tryz.underlying9) Tryz.underlying134 (by decide) (Go.WideMaps.keyOf_string_mk Tryz.underlying9 (s := ⟨#[109, 118]⟩) (by decide)) (show Asm.RV (.func (.func 107) #[] #[]) = _ from rfl)
 obtain ⟨W3, e3, o3, g3⟩ := o2.update (Maps.string_keyed Tryz.underlying9) Tryz.underlying134 (by decide) (Go.WideMaps.keyOf_string_mk Tryz.underlying9 (s := ⟨#[106]⟩) (by decide)) (show Asm.RV (.func (.func 108) #[] #[]) = _ from rfl)
 obtain ⟨W4, e4, o4, g4⟩ := o3.update (Maps.string_keyed Tryz.underlying9) Tryz.underlying134 (by decide) (Go.WideMaps.keyOf_string_mk Tryz.underlying9 (s := ⟨#[99, 97, 108, 108]⟩) (by decide)) (show Asm.RV (.func (.func 109) #[] #[]) = _ from rfl)
 obtain ⟨W5, e5, o5, g5⟩ := o4.update (Maps.string_keyed Tryz.underlying9) Tryz.underlying134 (by decide) (Go.WideMaps.keyOf_string_mk Tryz.underlying9 (s := ⟨#[114, 101, 116]⟩) (by decide)) (show Asm.RV (.func (.func 110) #[] #[]) = _ from rfl)
 obtain ⟨W6, e6, o6, g6⟩ := o5.update (Maps.string_keyed Tryz.underlying9) Tryz.underlying134 (by decide) (Go.WideMaps.keyOf_string_mk Tryz.underlying9 (s := ⟨#[46, 111, 114, 103]⟩) (by decide)) (show Asm.RV (.func (.func 111) #[] #[]) = _ from rfl)
 obtain ⟨W7, e7, o7, g7⟩ := o6.update (Maps.string_keyed Tryz.underlying9) Tryz.underlying134 (by decide) (Go.WideMaps.keyOf_string_mk Tryz.underlying9 (s := ⟨#[46, 119, 111, 114, 100]⟩) (by decide)) (show Asm.RV (.func (.func 112) #[] #[]) = _ from rfl)
 obtain ⟨W8, e8, o8, g8⟩ := o7.update (Maps.string_keyed Tryz.underlying9) Tryz.underlying134 (by decide) (Go.WideMaps.keyOf_string_mk Tryz.underlying9 (s := ⟨#[46, 122, 101, 114, 111]⟩) (by decide)) (show Asm.RV (.func (.func 113) #[] #[]) = _ from rfl)
 have hb0 : Below w.heap.size w (w.alloc (.map #[] 0)) := below_alloc' (Below.refl _ _) _
 have hb1 := hb0.grown g1 hb0.size (fun k e => by cases e; exact Nat.le_refl _)
 have hb2 := hb1.grown g2 hb1.size (fun k e => by cases e; exact Nat.le_refl _)
 have hb3 := hb2.grown g3 hb2.size (fun k e => by cases e; exact Nat.le_refl _)
 have hb4 := hb3.grown g4 hb3.size (fun k e => by cases e; exact Nat.le_refl _)
 have hb5 := hb4.grown g5 hb4.size (fun k e => by cases e; exact Nat.le_refl _)
 have hb6 := hb5.grown g6 hb5.size (fun k e => by cases e; exact Nat.le_refl _)
 have hb7 := hb6.grown g7 hb6.size (fun k e => by cases e; exact Nat.le_refl _)
 have hb8 := hb7.grown g8 hb7.size (fun k e => by cases e; exact Nat.le_refl _)
 go_enter Tryz.func58, Tryz.ntmps58
 go_wp2_with fail
 go_ret
 exact ⟨w.heap.size, rfl, Nat.le_refl _, o8, hb8⟩
theorem org_calls (B : Asm.PB) (S : Asm.PS) (t : Asm.Tok) (hS : S.toks = [t]) (hs : t.sort = 1) (hpl : S.placed = false) (hfr : S.fresh = []) (h0 : 0 ≤ t.n) (h1 : t.n < 4294967296) (h4 : t.n % 4 = 0) (w : World) (hP : Asm.Par B S w) :
 Calls Tryz.prog 111 #[.pointer (some ⟨B.b, 0, none⟩)] w fun e w' => e = .returned (.tuple #[]) ∧ ∃ B', Asm.Par B' { S with toks := [], origin := t.n, placed := true } w' ∧ Asm.Step B w B' w' := by
 have hsi : (t.sort : Int) = 1 := by omega
 have hn := next_calls B S t [] hS w hP
 rw [hsi] at hn
 have hf := field2
 go_enter Tryz.func111, Tryz.ntmps111
 go_wp2_with fail
 refine hn.mono ?_
 rintro e w1 ⟨rfl, B1, hP1, st1⟩
 have eb : B1.b = B.b := st1.b
 have he := end_calls B1 { S with toks := [] } rfl w1 hP1
 rw [eb] at he
 go_wp2_with fail
 refine he.mono ?_
 rintro e w2 ⟨rfl, h2⟩
 rw [h2]
 clear h2 he hn
 obtain ⟨a, c, ev⟩ : ∃ a c, B1.vf = .slice a 0 c := by
  have hr := hP1.fresh
  rw [show ({ S with toks := [] } : Asm.PS).fresh = [] from hfr] at hr
  obtain ⟨p, cap, e⟩ := Asm.row_slice hr
  exact ⟨p, cap, e⟩
 obtain ⟨d, f⟩ := blk_facts hP1.own
 rw [eb] at d f
 have c2 : w1.cell? ⟨B.b, 2, none⟩ = some (.int .i64 S.origin) := d 2
 have c3 : w1.cell? ⟨B.b, 3, none⟩ = some (.bool false) := (d 3).trans (by rw [← hpl]; rfl)
 have c8 : w1.cell? ⟨B.b, 8, none⟩ = some (.slice a 0 c) := (d 8).trans (by rw [← ev]; rfl)
 have f2 : w1.frozen? ⟨B.b, 2, none⟩ = false := f 2
 have f3 : w1.frozen? ⟨B.b, 3, none⟩ = false := f 3
 have z1 : B.b < w1.heap.size := eb ▸ blk_size hP1.own
 clear d f
 obtain ⟨hP2, st2⟩ := hP1.set 2 (.int .i64 t.n) B1.vt S.line [] t.n S.placed S.count rfl hP1.toks
 obtain ⟨hP3, st3⟩ := hP2.set 3 (.bool true) B1.vt S.line [] t.n true S.count rfl hP2.toks
 have st4 := (st1.trans st2).trans st3
 dsimp only at hP3 st4
 rw [eb] at hP3 st4
 have htm : t.n.tmod 4 = 0 := by rw [Int.tmod_eq_emod_of_nonneg h0]; exact h4
 go_wp2_with fail
 go_end0
 exact ⟨rfl, _, hP3, st4⟩
end Go.Proofs.YtabmlbnnhhpaoaaGreatDoor
