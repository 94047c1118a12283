/- What this claim needs of IsaDec1, IsaDec2. -/
import Derived.Test.YtabmlbnnhhpaoaaGreatDoorEMIsaBase
set_option linter.unusedSimpArgs false
set_option linter.unusedVariables false
set_option maxHeartbeats 8000000
set_option maxRecDepth 100000
namespace Go.Proofs.YtabmlbnnhhpaoaaGreatDoor
open Go.RowKit
theorem dec_1_0 (n : Nat) (h1 : 1 ≤ n) (h2 : n < 49) (hf : (Isa.formOf n : Int) = 1) (hn : (Isa.numOf n : Int) = 0) (x : Int) (hx0 : 0 ≤ x) (hx1 : x ≤ 4294967295) (hx : x / 67108864 = (n : Int)) (y0 : Int) (hy : bits BinOp.and IntKind.u32 x 67108863 = y0) (hy00 : 0 ≤ y0) (hy01 : y0 ≤ 67108863)
 (D : Int) (hD : y0 / 4194304 = D) (hD0 : 0 ≤ D) (hD1 : D ≤ 15) (hDa : bits BinOp.and IntKind.u32 D 15 = D) (y1 : Int) (hy1 : bits BinOp.andNot IntKind.u32 y0 62914560 = y1) (hy10 : 0 ≤ y1) (hy11 : y1 ≤ 4194303)
 (A : Int) (hA : y1 / 262144 = A) (hA0 : 0 ≤ A) (hA1 : A ≤ 15) (hAa : bits BinOp.and IntKind.u32 A 15 = A) (y2 : Int) (hy2 : bits BinOp.andNot IntKind.u32 y1 3932160 = y2) (hy20 : 0 ≤ y2) (hy21 : y2 ≤ 262143)
 (B : Int) (hB : y2 / 16384 = B) (hB0 : 0 ≤ B) (hB1 : B ≤ 15) (hBa : bits BinOp.and IntKind.u32 B 15 = B) (y3 : Int) (hy3 : bits BinOp.andNot IntKind.u32 y2 245760 = y3) (hy30 : 0 ≤ y3) (hy31 : y3 ≤ 16383)
 (w : World) (hL : Isa.Laid w) : Calls Tryz.prog 36 #[.int .u32 x] w (Isa.DecPost (Isa.decOut (n : Int) 1 0 D A B y3) w) := by
 have i0 := fun W => (index_threeP (.pointer (some ⟨w.heap.size + 1, 1, none⟩)) (.pointer (some ⟨w.heap.size + 1, 2, none⟩)) (.pointer (some ⟨w.heap.size + 1, 3, none⟩)) 22 18 14 W).1
 have i1 := fun W => (index_threeP (.pointer (some ⟨w.heap.size + 1, 1, none⟩)) (.pointer (some ⟨w.heap.size + 1, 2, none⟩)) (.pointer (some ⟨w.heap.size + 1, 3, none⟩)) 22 18 14 W).2.1
 have i2 := fun W => (index_threeP (.pointer (some ⟨w.heap.size + 1, 1, none⟩)) (.pointer (some ⟨w.heap.size + 1, 2, none⟩)) (.pointer (some ⟨w.heap.size + 1, 3, none⟩)) 22 18 14 W).2.2
 have hxn : IntKind.i64.wrap (x / 67108864) = (n : Int) := by rw [hx]; exact IntWalk.i64_in _ (by omega)
 have hsh := (Isa.table_facts ⟨n, h2⟩).2.2.2.2
 go_enter Tryz.func36, Tryz.ntmps36
 go_wp2_with fail
 refine (of_at2 n h1 h2 1 0 hf hn _).mono ?_
 rintro e w1 ⟨rfl, hb1⟩
 have hL1 := ((hL.alloc _).alloc _).below hb1
 have k0 := blk_keep hb1 (blk_alloc _ (heap_alloc_new _ _))
 have k1 := blk_keep hb1 (heap_alloc2_new _ _ _)
 obtain ⟨d0, f0⟩ := blk_facts k0
 obtain ⟨d1, f1⟩ := blk_facts k1
 have z1 := blk_size k1
 have z1k : ∀ k, w.heap.size + 1 < w1.heap.size + k := fun k => by omega
 obtain ⟨l1, l2, l3, l4⟩ := hL1.cells 1 (by omega)
 simp only [Isa.atD, Isa.atA, Isa.atB, Isa.bits, Isa.layD, Isa.layA, Isa.layB, Isa.layN, List.getD_cons_succ, List.getD_cons_zero, Nat.reduceMul, Nat.reduceAdd, Int.cast_ofNat_Int] at l1 l2 l3 l4
 have z0 := hL1.lt
 have HB1 := Lib.hid (below_next (below_alloc' (below_alloc' (Below.refl _ _) _) _) hb1)
 go_wp2_with fail
 refine wp_loop_rounds 4 ?_
 refine rounds_world (Isa.DecW w w1 (n : Int) (Isa.nameOf n) 1 0 (Isa.shapeOf n : Int) 22 18 14 0 0 0 0 0) ⟨blk_alloc _ (blk_alloc _ k0), blk_alloc _ (blk_alloc _ k1), blk_alloc _ (heap_alloc_new _ _), heap_alloc2_new _ _ _, (hL1.alloc _).alloc _, below_alloc' (below_alloc' HB1.out _) _, z1⟩ ?_
 clear l1 l2 l3 l4 d0 f0 d1 f1 k0 k1 HB1 hb1 z1k z0 hL1
 intro v0 H0
 rw [rounds_succ]
 have dW : ∀ (Z : Obj) (i : Nat), (v0.alloc Z).cell? ⟨w.heap.size + 1, i, none⟩ = _ := fun Z => (blk_facts (blk_alloc Z H0.own)).1
 have fW : ∀ (Z : Obj) (i : Nat), (v0.alloc Z).frozen? ⟨w.heap.size + 1, i, none⟩ = false := fun Z => (blk_facts (blk_alloc Z H0.own)).2
 have n1 : w.heap.size + 1 ≠ v0.heap.size := Nat.ne_of_lt (blk_size H0.own)
 have n2 : v0.heap.size ≠ w.heap.size + 1 := Ne.symm n1
 go_wp2_with fail
 go_region
 all_goals (go_wp2_with fail)
 clear dW fW n1 n2
 refine rounds_world (Isa.DecW w w1 (n : Int) (Isa.nameOf n) 1 0 (Isa.shapeOf n : Int) 22 18 14 0 D 0 0 0) (((H0.alloc _).setD hL _).drew) ?_
 clear H0
 intro v1 H1
 rw [rounds_succ]
 have dW : ∀ (Z : Obj) (i : Nat), (v1.alloc Z).cell? ⟨w.heap.size + 1, i, none⟩ = _ := fun Z => (blk_facts (blk_alloc Z H1.own)).1
 have fW : ∀ (Z : Obj) (i : Nat), (v1.alloc Z).frozen? ⟨w.heap.size + 1, i, none⟩ = false := fun Z => (blk_facts (blk_alloc Z H1.own)).2
 have n1 : w.heap.size + 1 ≠ v1.heap.size := Nat.ne_of_lt (blk_size H1.own)
 have n2 : v1.heap.size ≠ w.heap.size + 1 := Ne.symm n1
 go_wp2_with fail
 go_region
 all_goals (go_wp2_with fail)
 clear dW fW n1 n2
 refine rounds_world (Isa.DecW w w1 (n : Int) (Isa.nameOf n) 1 0 (Isa.shapeOf n : Int) 22 18 14 0 D A 0 0) (((H1.alloc _).setA hL _).drew) ?_
 clear H1
 intro v2 H2
 rw [rounds_succ]
 have dW : ∀ (Z : Obj) (i : Nat), (v2.alloc Z).cell? ⟨w.heap.size + 1, i, none⟩ = _ := fun Z => (blk_facts (blk_alloc Z H2.own)).1
 have fW : ∀ (Z : Obj) (i : Nat), (v2.alloc Z).frozen? ⟨w.heap.size + 1, i, none⟩ = false := fun Z => (blk_facts (blk_alloc Z H2.own)).2
 have n1 : w.heap.size + 1 ≠ v2.heap.size := Nat.ne_of_lt (blk_size H2.own)
 have n2 : v2.heap.size ≠ w.heap.size + 1 := Ne.symm n1
 go_wp2_with fail
 go_region
 all_goals (go_wp2_with fail)
 clear dW fW n1 n2
 refine rounds_world (Isa.DecW w w1 (n : Int) (Isa.nameOf n) 1 0 (Isa.shapeOf n : Int) 22 18 14 0 D A B 0) (((H2.alloc _).setB hL _).drew) ?_
 clear H2
 intro v3 H3
 rw [rounds_succ]
 clear i0 i1 i2
 obtain ⟨rc, rf⟩ := blk_facts H3.res
 obtain ⟨oc, of⟩ := blk_facts H3.own
 have ic := (blk_facts H3.info).1
 have lc := (blk_facts H3.lay).1
 have HB := Lib.hid H3.bel
 by_cases hbit : 1 ≤ y3
 · have c0 : decide (1 ≤ y3) = true := by simpa using hbit
   have HO : Hid (Isa.decOut (n : Int) 1 0 D A B y3 = (0, 0, 0, 0, 0, 103)) := by show _ = _; unfold Isa.decOut; rw [if_pos (by simpa [Isa.bits, Isa.layN] using hbit)]
   clear hbit
   go_wp2_with fail
   refine bodyPost_ret (v := .tuple #[.agg #[.int .i64 0, .int .u8 0, .int .u8 0, .int .u8 0, .int .i32 0], .int .i64 103]) (by simp [results, Tryz.results36, go_sem, rc]) rfl ⟨by rw [HO.out], ?_⟩
   repeat (first | (with_reducible exact HB.out) | refine Below.setCell ?_ (by first | exact Nat.le_refl _ | exact Nat.le_succ _) _ | refine Below.drew ?_ | refine below_drewN' ?_ _ | refine below_alloc' ?_ _)
 · have c0 : decide (1 ≤ y3) = false := by simpa using hbit
   have hbit1 : y3 ≤ 0 := by omega
   by_cases hF : Isa.fits 1 0 (y3) = true
   · have hF : Isa.fits 1 0 (y3) = true := by simpa using hF
     have HO : Hid (Isa.decOut (n : Int) 1 0 D A B y3 = ((n : Int), D, A, B, y3, 0)) := by show _ = _; unfold Isa.decOut; rw [if_neg (by simpa [Isa.bits, Isa.layN] using hbit)]; rw [if_neg (fun hh => absurd hh.1 (by decide))]; rw [if_pos (by simpa [Isa.bits, Isa.layN] using hF)] <;> rfl
     have HF := Lib.hid hF
     clear hF hbit
     go_wp2_with fail
     refine (fits_at _ 1 1 rfl 0 _ _ _ ?hl (by decide) (by decide)).mono ?_
     case hl => exact H3.laid
     rintro e v4 ⟨rfl, hb4⟩
     have hF := HF.out
     have H4 := H3.below hb4
     clear rc rf oc of ic lc
     obtain ⟨rc, rf⟩ := blk_facts H4.res
     obtain ⟨oc, of⟩ := blk_facts H4.own
     have HB4 := Lib.hid H4.bel
     go_wp2_with fail
     refine bodyPost_ret (v := .tuple #[.agg #[.int .i64 (n : Int), .int .u8 D, .int .u8 A, .int .u8 B, .int .i32 (y3)], .int .i64 0]) (by simp [results, Tryz.results36, go_sem, rc, oc]) rfl ⟨by rw [HO.out], ?_⟩
     repeat (first | (with_reducible exact HB4.out) | refine Below.setCell ?_ (by first | exact Nat.le_refl _ | exact Nat.le_succ _) _ | refine Below.drew ?_ | refine below_drewN' ?_ _ | refine below_alloc' ?_ _)
   · have hF : Isa.fits 1 0 (y3) = false := by simpa using hF
     have HO : Hid (Isa.decOut (n : Int) 1 0 D A B y3 = (0, 0, 0, 0, 0, 102)) := by show _ = _; unfold Isa.decOut; rw [if_neg (by simpa [Isa.bits, Isa.layN] using hbit)]; rw [if_neg (fun hh => absurd hh.1 (by decide))]; rw [if_neg (by simpa [Isa.bits, Isa.layN] using hF)] <;> rfl
     have HF := Lib.hid hF
     clear hF hbit
     go_wp2_with fail
     refine (fits_at _ 1 1 rfl 0 _ _ _ ?hl (by decide) (by decide)).mono ?_
     case hl => exact H3.laid
     rintro e v4 ⟨rfl, hb4⟩
     have hF := HF.out
     have H4 := H3.below hb4
     clear rc rf oc of ic lc
     obtain ⟨rc, rf⟩ := blk_facts H4.res
     obtain ⟨oc, of⟩ := blk_facts H4.own
     have HB4 := Lib.hid H4.bel
     go_wp2_with fail
     refine bodyPost_ret (v := .tuple #[.agg #[.int .i64 0, .int .u8 0, .int .u8 0, .int .u8 0, .int .i32 0], .int .i64 102]) (by simp [results, Tryz.results36, go_sem, rc]) rfl ⟨by rw [HO.out], ?_⟩
     repeat (first | (with_reducible exact HB4.out) | refine Below.setCell ?_ (by first | exact Nat.le_refl _ | exact Nat.le_succ _) _ | refine Below.drew ?_ | refine below_drewN' ?_ _ | refine below_alloc' ?_ _)
theorem dec_2_1 (n : Nat) (h1 : 1 ≤ n) (h2 : n < 49) (hf : (Isa.formOf n : Int) = 2) (hn : (Isa.numOf n : Int) = 1) (x : Int) (hx0 : 0 ≤ x) (hx1 : x ≤ 4294967295) (hx : x / 67108864 = (n : Int)) (y0 : Int) (hy : bits BinOp.and IntKind.u32 x 67108863 = y0) (hy00 : 0 ≤ y0) (hy01 : y0 ≤ 67108863)
 (D : Int) (hD : y0 / 4194304 = D) (hD0 : 0 ≤ D) (hD1 : D ≤ 15) (hDa : bits BinOp.and IntKind.u32 D 15 = D) (y1 : Int) (hy1 : bits BinOp.andNot IntKind.u32 y0 62914560 = y1) (hy10 : 0 ≤ y1) (hy11 : y1 ≤ 4194303)
 (A : Int) (hA : y1 / 262144 = A) (hA0 : 0 ≤ A) (hA1 : A ≤ 15) (hAa : bits BinOp.and IntKind.u32 A 15 = A) (y2 : Int) (hy2 : bits BinOp.andNot IntKind.u32 y1 3932160 = y2) (hy20 : 0 ≤ y2) (hy21 : y2 ≤ 262143)
 (w : World) (hL : Isa.Laid w) : Calls Tryz.prog 36 #[.int .u32 x] w (Isa.DecPost (Isa.decOut (n : Int) 2 1 D A 0 y2) w) := by
 have i0 := fun W => (index_threeP (.pointer (some ⟨w.heap.size + 1, 1, none⟩)) (.pointer (some ⟨w.heap.size + 1, 2, none⟩)) (.pointer (some ⟨w.heap.size + 1, 3, none⟩)) 22 18 (-1) W).1
 have i1 := fun W => (index_threeP (.pointer (some ⟨w.heap.size + 1, 1, none⟩)) (.pointer (some ⟨w.heap.size + 1, 2, none⟩)) (.pointer (some ⟨w.heap.size + 1, 3, none⟩)) 22 18 (-1) W).2.1
 have i2 := fun W => (index_threeP (.pointer (some ⟨w.heap.size + 1, 1, none⟩)) (.pointer (some ⟨w.heap.size + 1, 2, none⟩)) (.pointer (some ⟨w.heap.size + 1, 3, none⟩)) 22 18 (-1) W).2.2
 have hxn : IntKind.i64.wrap (x / 67108864) = (n : Int) := by rw [hx]; exact IntWalk.i64_in _ (by omega)
 have hsh := (Isa.table_facts ⟨n, h2⟩).2.2.2.2
 go_enter Tryz.func36, Tryz.ntmps36
 go_wp2_with fail
 refine (of_at2 n h1 h2 2 1 hf hn _).mono ?_
 rintro e w1 ⟨rfl, hb1⟩
 have hL1 := ((hL.alloc _).alloc _).below hb1
 have k0 := blk_keep hb1 (blk_alloc _ (heap_alloc_new _ _))
 have k1 := blk_keep hb1 (heap_alloc2_new _ _ _)
 obtain ⟨d0, f0⟩ := blk_facts k0
 obtain ⟨d1, f1⟩ := blk_facts k1
 have z1 := blk_size k1
 have z1k : ∀ k, w.heap.size + 1 < w1.heap.size + k := fun k => by omega
 obtain ⟨l1, l2, l3, l4⟩ := hL1.cells 2 (by omega)
 simp only [Isa.atD, Isa.atA, Isa.atB, Isa.bits, Isa.layD, Isa.layA, Isa.layB, Isa.layN, List.getD_cons_succ, List.getD_cons_zero, Nat.reduceMul, Nat.reduceAdd, Int.cast_ofNat_Int] at l1 l2 l3 l4
 have z0 := hL1.lt
 have HB1 := Lib.hid (below_next (below_alloc' (below_alloc' (Below.refl _ _) _) _) hb1)
 go_wp2_with fail
 refine wp_loop_rounds 4 ?_
 refine rounds_world (Isa.DecW w w1 (n : Int) (Isa.nameOf n) 2 1 (Isa.shapeOf n : Int) 22 18 (-1) 18 0 0 0 0) ⟨blk_alloc _ (blk_alloc _ k0), blk_alloc _ (blk_alloc _ k1), blk_alloc _ (heap_alloc_new _ _), heap_alloc2_new _ _ _, (hL1.alloc _).alloc _, below_alloc' (below_alloc' HB1.out _) _, z1⟩ ?_
 clear l1 l2 l3 l4 d0 f0 d1 f1 k0 k1 HB1 hb1 z1k z0 hL1
 intro v0 H0
 rw [rounds_succ]
 have dW : ∀ (Z : Obj) (i : Nat), (v0.alloc Z).cell? ⟨w.heap.size + 1, i, none⟩ = _ := fun Z => (blk_facts (blk_alloc Z H0.own)).1
 have fW : ∀ (Z : Obj) (i : Nat), (v0.alloc Z).frozen? ⟨w.heap.size + 1, i, none⟩ = false := fun Z => (blk_facts (blk_alloc Z H0.own)).2
 have n1 : w.heap.size + 1 ≠ v0.heap.size := Nat.ne_of_lt (blk_size H0.own)
 have n2 : v0.heap.size ≠ w.heap.size + 1 := Ne.symm n1
 go_wp2_with fail
 go_region
 all_goals (go_wp2_with fail)
 clear dW fW n1 n2
 refine rounds_world (Isa.DecW w w1 (n : Int) (Isa.nameOf n) 2 1 (Isa.shapeOf n : Int) 22 18 (-1) 18 D 0 0 0) (((H0.alloc _).setD hL _).drew) ?_
 clear H0
 intro v1 H1
 rw [rounds_succ]
 have dW : ∀ (Z : Obj) (i : Nat), (v1.alloc Z).cell? ⟨w.heap.size + 1, i, none⟩ = _ := fun Z => (blk_facts (blk_alloc Z H1.own)).1
 have fW : ∀ (Z : Obj) (i : Nat), (v1.alloc Z).frozen? ⟨w.heap.size + 1, i, none⟩ = false := fun Z => (blk_facts (blk_alloc Z H1.own)).2
 have n1 : w.heap.size + 1 ≠ v1.heap.size := Nat.ne_of_lt (blk_size H1.own)
 have n2 : v1.heap.size ≠ w.heap.size + 1 := Ne.symm n1
 go_wp2_with fail
 go_region
 all_goals (go_wp2_with fail)
 clear dW fW n1 n2
 refine rounds_world (Isa.DecW w w1 (n : Int) (Isa.nameOf n) 2 1 (Isa.shapeOf n : Int) 22 18 (-1) 18 D A 0 0) (((H1.alloc _).setA hL _).drew) ?_
 clear H1
 intro v2 H2
 rw [rounds_succ]
 go_wp2_with fail
 refine rounds_world (Isa.DecW w w1 (n : Int) (Isa.nameOf n) 2 1 (Isa.shapeOf n : Int) 22 18 (-1) 18 D A 0 0) (H2.alloc _) ?_
 clear H2
 intro v3 H3
 rw [rounds_succ]
 clear i0 i1 i2
 obtain ⟨rc, rf⟩ := blk_facts H3.res
 obtain ⟨oc, of⟩ := blk_facts H3.own
 have ic := (blk_facts H3.info).1
 have lc := (blk_facts H3.lay).1
 have HB := Lib.hid H3.bel
 by_cases hbit : 262144 ≤ y2
 · have c0 : decide (262144 ≤ y2) = true := by simpa using hbit
   have HO : Hid (Isa.decOut (n : Int) 2 1 D A 0 y2 = (0, 0, 0, 0, 0, 103)) := by show _ = _; unfold Isa.decOut; rw [if_pos (by simpa [Isa.bits, Isa.layN] using hbit)]
   clear hbit
   go_wp2_with fail
   refine bodyPost_ret (v := .tuple #[.agg #[.int .i64 0, .int .u8 0, .int .u8 0, .int .u8 0, .int .i32 0], .int .i64 103]) (by simp [results, Tryz.results36, go_sem, rc]) rfl ⟨by rw [HO.out], ?_⟩
   repeat (first | (with_reducible exact HB.out) | refine Below.setCell ?_ (by first | exact Nat.le_refl _ | exact Nat.le_succ _) _ | refine Below.drew ?_ | refine below_drewN' ?_ _ | refine below_alloc' ?_ _)
 · have c0 : decide (262144 ≤ y2) = false := by simpa using hbit
   have hbit1 : y2 ≤ 262143 := by omega
   by_cases hneg : 131072 ≤ y2
   · have c1 : decide (131072 ≤ y2) = true := by simpa using hneg
     by_cases hF : Isa.fits 2 1 (y2 - 262144) = true
     · have hF : Isa.fits 2 1 (y2 - 262144) = true := by simpa using hF
       have HO : Hid (Isa.decOut (n : Int) 2 1 D A 0 y2 = ((n : Int), D, A, 0, y2 - 262144, 0)) := by show _ = _; unfold Isa.decOut; rw [if_neg (by simpa [Isa.bits, Isa.layN] using hbit)]; rw [if_pos ⟨rfl, by simpa [Isa.bits, Isa.layN] using hneg⟩]; rw [if_pos (by simpa [Isa.bits, Isa.layN] using hF)] <;> rfl
       have HF := Lib.hid hF
       clear hF hbit hneg
       go_wp2_with fail
       refine (fits_at _ 2 2 rfl 1 _ _ _ ?hl (by decide) (by decide)).mono ?_
       case hl => exact H3.laid
       rintro e v4 ⟨rfl, hb4⟩
       have hF := HF.out
       have H4 := H3.below hb4
       clear rc rf oc of ic lc
       obtain ⟨rc, rf⟩ := blk_facts H4.res
       obtain ⟨oc, of⟩ := blk_facts H4.own
       have HB4 := Lib.hid H4.bel
       go_wp2_with fail
       refine bodyPost_ret (v := .tuple #[.agg #[.int .i64 (n : Int), .int .u8 D, .int .u8 A, .int .u8 0, .int .i32 (y2 - 262144)], .int .i64 0]) (by simp [results, Tryz.results36, go_sem, rc, oc]) rfl ⟨by rw [HO.out], ?_⟩
       repeat (first | (with_reducible exact HB4.out) | refine Below.setCell ?_ (by first | exact Nat.le_refl _ | exact Nat.le_succ _) _ | refine Below.drew ?_ | refine below_drewN' ?_ _ | refine below_alloc' ?_ _)
     · have hF : Isa.fits 2 1 (y2 - 262144) = false := by simpa using hF
       have HO : Hid (Isa.decOut (n : Int) 2 1 D A 0 y2 = (0, 0, 0, 0, 0, 102)) := by show _ = _; unfold Isa.decOut; rw [if_neg (by simpa [Isa.bits, Isa.layN] using hbit)]; rw [if_pos ⟨rfl, by simpa [Isa.bits, Isa.layN] using hneg⟩]; rw [if_neg (by simpa [Isa.bits, Isa.layN] using hF)] <;> rfl
       have HF := Lib.hid hF
       clear hF hbit hneg
       go_wp2_with fail
       refine (fits_at _ 2 2 rfl 1 _ _ _ ?hl (by decide) (by decide)).mono ?_
       case hl => exact H3.laid
       rintro e v4 ⟨rfl, hb4⟩
       have hF := HF.out
       have H4 := H3.below hb4
       clear rc rf oc of ic lc
       obtain ⟨rc, rf⟩ := blk_facts H4.res
       obtain ⟨oc, of⟩ := blk_facts H4.own
       have HB4 := Lib.hid H4.bel
       go_wp2_with fail
       refine bodyPost_ret (v := .tuple #[.agg #[.int .i64 0, .int .u8 0, .int .u8 0, .int .u8 0, .int .i32 0], .int .i64 102]) (by simp [results, Tryz.results36, go_sem, rc]) rfl ⟨by rw [HO.out], ?_⟩
       repeat (first | (with_reducible exact HB4.out) | refine Below.setCell ?_ (by first | exact Nat.le_refl _ | exact Nat.le_succ _) _ | refine Below.drew ?_ | refine below_drewN' ?_ _ | refine below_alloc' ?_ _)
   · have c1 : decide (131072 ≤ y2) = false := by simpa using hneg
     have hneg1 : y2 ≤ 131071 := by omega
     by_cases hF : Isa.fits 2 1 (y2) = true
     · have hF : Isa.fits 2 1 (y2) = true := by simpa using hF
       have HO : Hid (Isa.decOut (n : Int) 2 1 D A 0 y2 = ((n : Int), D, A, 0, y2, 0)) := by show _ = _; unfold Isa.decOut; rw [if_neg (by simpa [Isa.bits, Isa.layN] using hbit)]; rw [if_neg (fun hh => hneg (by simpa [Isa.bits, Isa.layN] using hh.2))]; rw [if_pos (by simpa [Isa.bits, Isa.layN] using hF)] <;> rfl
       have HF := Lib.hid hF
       clear hF hbit hneg
       go_wp2_with fail
       refine (fits_at _ 2 2 rfl 1 _ _ _ ?hl (by decide) (by decide)).mono ?_
       case hl => exact H3.laid
       rintro e v4 ⟨rfl, hb4⟩
       have hF := HF.out
       have H4 := H3.below hb4
       clear rc rf oc of ic lc
       obtain ⟨rc, rf⟩ := blk_facts H4.res
       obtain ⟨oc, of⟩ := blk_facts H4.own
       have HB4 := Lib.hid H4.bel
       go_wp2_with fail
       refine bodyPost_ret (v := .tuple #[.agg #[.int .i64 (n : Int), .int .u8 D, .int .u8 A, .int .u8 0, .int .i32 (y2)], .int .i64 0]) (by simp [results, Tryz.results36, go_sem, rc, oc]) rfl ⟨by rw [HO.out], ?_⟩
       repeat (first | (with_reducible exact HB4.out) | refine Below.setCell ?_ (by first | exact Nat.le_refl _ | exact Nat.le_succ _) _ | refine Below.drew ?_ | refine below_drewN' ?_ _ | refine below_alloc' ?_ _)
     · have hF : Isa.fits 2 1 (y2) = false := by simpa using hF
       have HO : Hid (Isa.decOut (n : Int) 2 1 D A 0 y2 = (0, 0, 0, 0, 0, 102)) := by show _ = _; unfold Isa.decOut; rw [if_neg (by simpa [Isa.bits, Isa.layN] using hbit)]; rw [if_neg (fun hh => hneg (by simpa [Isa.bits, Isa.layN] using hh.2))]; rw [if_neg (by simpa [Isa.bits, Isa.layN] using hF)] <;> rfl
       have HF := Lib.hid hF
       clear hF hbit hneg
       go_wp2_with fail
       refine (fits_at _ 2 2 rfl 1 _ _ _ ?hl (by decide) (by decide)).mono ?_
       case hl => exact H3.laid
       rintro e v4 ⟨rfl, hb4⟩
       have hF := HF.out
       have H4 := H3.below hb4
       clear rc rf oc of ic lc
       obtain ⟨rc, rf⟩ := blk_facts H4.res
       obtain ⟨oc, of⟩ := blk_facts H4.own
       have HB4 := Lib.hid H4.bel
       go_wp2_with fail
       refine bodyPost_ret (v := .tuple #[.agg #[.int .i64 0, .int .u8 0, .int .u8 0, .int .u8 0, .int .i32 0], .int .i64 102]) (by simp [results, Tryz.results36, go_sem, rc]) rfl ⟨by rw [HO.out], ?_⟩
       repeat (first | (with_reducible exact HB4.out) | refine Below.setCell ?_ (by first | exact Nat.le_refl _ | exact Nat.le_succ _) _ | refine Below.drew ?_ | refine below_drewN' ?_ _ | refine below_alloc' ?_ _)
theorem dec_2_2 (n : Nat) (h1 : 1 ≤ n) (h2 : n < 49) (hf : (Isa.formOf n : Int) = 2) (hn : (Isa.numOf n : Int) = 2) (x : Int) (hx0 : 0 ≤ x) (hx1 : x ≤ 4294967295) (hx : x / 67108864 = (n : Int)) (y0 : Int) (hy : bits BinOp.and IntKind.u32 x 67108863 = y0) (hy00 : 0 ≤ y0) (hy01 : y0 ≤ 67108863)
 (D : Int) (hD : y0 / 4194304 = D) (hD0 : 0 ≤ D) (hD1 : D ≤ 15) (hDa : bits BinOp.and IntKind.u32 D 15 = D) (y1 : Int) (hy1 : bits BinOp.andNot IntKind.u32 y0 62914560 = y1) (hy10 : 0 ≤ y1) (hy11 : y1 ≤ 4194303)
 (A : Int) (hA : y1 / 262144 = A) (hA0 : 0 ≤ A) (hA1 : A ≤ 15) (hAa : bits BinOp.and IntKind.u32 A 15 = A) (y2 : Int) (hy2 : bits BinOp.andNot IntKind.u32 y1 3932160 = y2) (hy20 : 0 ≤ y2) (hy21 : y2 ≤ 262143)
 (w : World) (hL : Isa.Laid w) : Calls Tryz.prog 36 #[.int .u32 x] w (Isa.DecPost (Isa.decOut (n : Int) 2 2 D A 0 y2) w) := by
 have i0 := fun W => (index_threeP (.pointer (some ⟨w.heap.size + 1, 1, none⟩)) (.pointer (some ⟨w.heap.size + 1, 2, none⟩)) (.pointer (some ⟨w.heap.size + 1, 3, none⟩)) 22 18 (-1) W).1
 have i1 := fun W => (index_threeP (.pointer (some ⟨w.heap.size + 1, 1, none⟩)) (.pointer (some ⟨w.heap.size + 1, 2, none⟩)) (.pointer (some ⟨w.heap.size + 1, 3, none⟩)) 22 18 (-1) W).2.1
 have i2 := fun W => (index_threeP (.pointer (some ⟨w.heap.size + 1, 1, none⟩)) (.pointer (some ⟨w.heap.size + 1, 2, none⟩)) (.pointer (some ⟨w.heap.size + 1, 3, none⟩)) 22 18 (-1) W).2.2
 have hxn : IntKind.i64.wrap (x / 67108864) = (n : Int) := by rw [hx]; exact IntWalk.i64_in _ (by omega)
 have hsh := (Isa.table_facts ⟨n, h2⟩).2.2.2.2
 go_enter Tryz.func36, Tryz.ntmps36
 go_wp2_with fail
 refine (of_at2 n h1 h2 2 2 hf hn _).mono ?_
 rintro e w1 ⟨rfl, hb1⟩
 have hL1 := ((hL.alloc _).alloc _).below hb1
 have k0 := blk_keep hb1 (blk_alloc _ (heap_alloc_new _ _))
 have k1 := blk_keep hb1 (heap_alloc2_new _ _ _)
 obtain ⟨d0, f0⟩ := blk_facts k0
 obtain ⟨d1, f1⟩ := blk_facts k1
 have z1 := blk_size k1
 have z1k : ∀ k, w.heap.size + 1 < w1.heap.size + k := fun k => by omega
 obtain ⟨l1, l2, l3, l4⟩ := hL1.cells 2 (by omega)
 simp only [Isa.atD, Isa.atA, Isa.atB, Isa.bits, Isa.layD, Isa.layA, Isa.layB, Isa.layN, List.getD_cons_succ, List.getD_cons_zero, Nat.reduceMul, Nat.reduceAdd, Int.cast_ofNat_Int] at l1 l2 l3 l4
 have z0 := hL1.lt
 have HB1 := Lib.hid (below_next (below_alloc' (below_alloc' (Below.refl _ _) _) _) hb1)
 go_wp2_with fail
 refine wp_loop_rounds 4 ?_
 refine rounds_world (Isa.DecW w w1 (n : Int) (Isa.nameOf n) 2 2 (Isa.shapeOf n : Int) 22 18 (-1) 18 0 0 0 0) ⟨blk_alloc _ (blk_alloc _ k0), blk_alloc _ (blk_alloc _ k1), blk_alloc _ (heap_alloc_new _ _), heap_alloc2_new _ _ _, (hL1.alloc _).alloc _, below_alloc' (below_alloc' HB1.out _) _, z1⟩ ?_
 clear l1 l2 l3 l4 d0 f0 d1 f1 k0 k1 HB1 hb1 z1k z0 hL1
 intro v0 H0
 rw [rounds_succ]
 have dW : ∀ (Z : Obj) (i : Nat), (v0.alloc Z).cell? ⟨w.heap.size + 1, i, none⟩ = _ := fun Z => (blk_facts (blk_alloc Z H0.own)).1
 have fW : ∀ (Z : Obj) (i : Nat), (v0.alloc Z).frozen? ⟨w.heap.size + 1, i, none⟩ = false := fun Z => (blk_facts (blk_alloc Z H0.own)).2
 have n1 : w.heap.size + 1 ≠ v0.heap.size := Nat.ne_of_lt (blk_size H0.own)
 have n2 : v0.heap.size ≠ w.heap.size + 1 := Ne.symm n1
 go_wp2_with fail
 go_region
 all_goals (go_wp2_with fail)
 clear dW fW n1 n2
 refine rounds_world (Isa.DecW w w1 (n : Int) (Isa.nameOf n) 2 2 (Isa.shapeOf n : Int) 22 18 (-1) 18 D 0 0 0) (((H0.alloc _).setD hL _).drew) ?_
 clear H0
 intro v1 H1
 rw [rounds_succ]
 have dW : ∀ (Z : Obj) (i : Nat), (v1.alloc Z).cell? ⟨w.heap.size + 1, i, none⟩ = _ := fun Z => (blk_facts (blk_alloc Z H1.own)).1
 have fW : ∀ (Z : Obj) (i : Nat), (v1.alloc Z).frozen? ⟨w.heap.size + 1, i, none⟩ = false := fun Z => (blk_facts (blk_alloc Z H1.own)).2
 have n1 : w.heap.size + 1 ≠ v1.heap.size := Nat.ne_of_lt (blk_size H1.own)
 have n2 : v1.heap.size ≠ w.heap.size + 1 := Ne.symm n1
 go_wp2_with fail
 go_region
 all_goals (go_wp2_with fail)
 clear dW fW n1 n2
 refine rounds_world (Isa.DecW w w1 (n : Int) (Isa.nameOf n) 2 2 (Isa.shapeOf n : Int) 22 18 (-1) 18 D A 0 0) (((H1.alloc _).setA hL _).drew) ?_
 clear H1
 intro v2 H2
 rw [rounds_succ]
 go_wp2_with fail
 refine rounds_world (Isa.DecW w w1 (n : Int) (Isa.nameOf n) 2 2 (Isa.shapeOf n : Int) 22 18 (-1) 18 D A 0 0) (H2.alloc _) ?_
 clear H2
 intro v3 H3
 rw [rounds_succ]
 clear i0 i1 i2
 obtain ⟨rc, rf⟩ := blk_facts H3.res
 obtain ⟨oc, of⟩ := blk_facts H3.own
 have ic := (blk_facts H3.info).1
 have lc := (blk_facts H3.lay).1
 have HB := Lib.hid H3.bel
 by_cases hbit : 262144 ≤ y2
 · have c0 : decide (262144 ≤ y2) = true := by simpa using hbit
   have HO : Hid (Isa.decOut (n : Int) 2 2 D A 0 y2 = (0, 0, 0, 0, 0, 103)) := by show _ = _; unfold Isa.decOut; rw [if_pos (by simpa [Isa.bits, Isa.layN] using hbit)]
   clear hbit
   go_wp2_with fail
   refine bodyPost_ret (v := .tuple #[.agg #[.int .i64 0, .int .u8 0, .int .u8 0, .int .u8 0, .int .i32 0], .int .i64 103]) (by simp [results, Tryz.results36, go_sem, rc]) rfl ⟨by rw [HO.out], ?_⟩
   repeat (first | (with_reducible exact HB.out) | refine Below.setCell ?_ (by first | exact Nat.le_refl _ | exact Nat.le_succ _) _ | refine Below.drew ?_ | refine below_drewN' ?_ _ | refine below_alloc' ?_ _)
 · have c0 : decide (262144 ≤ y2) = false := by simpa using hbit
   have hbit1 : y2 ≤ 262143 := by omega
   by_cases hF : Isa.fits 2 2 (y2) = true
   · have hF : Isa.fits 2 2 (y2) = true := by simpa using hF
     have HO : Hid (Isa.decOut (n : Int) 2 2 D A 0 y2 = ((n : Int), D, A, 0, y2, 0)) := by show _ = _; unfold Isa.decOut; rw [if_neg (by simpa [Isa.bits, Isa.layN] using hbit)]; rw [if_neg (fun hh => absurd hh.1 (by decide))]; rw [if_pos (by simpa [Isa.bits, Isa.layN] using hF)] <;> rfl
     have HF := Lib.hid hF
     clear hF hbit
     go_wp2_with fail
     refine (fits_at _ 2 2 rfl 2 _ _ _ ?hl (by decide) (by decide)).mono ?_
     case hl => exact H3.laid
     rintro e v4 ⟨rfl, hb4⟩
     have hF := HF.out
     have H4 := H3.below hb4
     clear rc rf oc of ic lc
     obtain ⟨rc, rf⟩ := blk_facts H4.res
     obtain ⟨oc, of⟩ := blk_facts H4.own
     have HB4 := Lib.hid H4.bel
     go_wp2_with fail
     refine bodyPost_ret (v := .tuple #[.agg #[.int .i64 (n : Int), .int .u8 D, .int .u8 A, .int .u8 0, .int .i32 (y2)], .int .i64 0]) (by simp [results, Tryz.results36, go_sem, rc, oc]) rfl ⟨by rw [HO.out], ?_⟩
     repeat (first | (with_reducible exact HB4.out) | refine Below.setCell ?_ (by first | exact Nat.le_refl _ | exact Nat.le_succ _) _ | refine Below.drew ?_ | refine below_drewN' ?_ _ | refine below_alloc' ?_ _)
   · have hF : Isa.fits 2 2 (y2) = false := by simpa using hF
     have HO : Hid (Isa.decOut (n : Int) 2 2 D A 0 y2 = (0, 0, 0, 0, 0, 102)) := by show _ = _; unfold Isa.decOut; rw [if_neg (by simpa [Isa.bits, Isa.layN] using hbit)]; rw [if_neg (fun hh => absurd hh.1 (by decide))]; rw [if_neg (by simpa [Isa.bits, Isa.layN] using hF)] <;> rfl
     have HF := Lib.hid hF
     clear hF hbit
     go_wp2_with fail
     refine (fits_at _ 2 2 rfl 2 _ _ _ ?hl (by decide) (by decide)).mono ?_
     case hl => exact H3.laid
     rintro e v4 ⟨rfl, hb4⟩
     have hF := HF.out
     have H4 := H3.below hb4
     clear rc rf oc of ic lc
     obtain ⟨rc, rf⟩ := blk_facts H4.res
     obtain ⟨oc, of⟩ := blk_facts H4.own
     have HB4 := Lib.hid H4.bel
     go_wp2_with fail
     refine bodyPost_ret (v := .tuple #[.agg #[.int .i64 0, .int .u8 0, .int .u8 0, .int .u8 0, .int .i32 0], .int .i64 102]) (by simp [results, Tryz.results36, go_sem, rc]) rfl ⟨by rw [HO.out], ?_⟩
     repeat (first | (with_reducible exact HB4.out) | refine Below.setCell ?_ (by first | exact Nat.le_refl _ | exact Nat.le_succ _) _ | refine Below.drew ?_ | refine below_drewN' ?_ _ | refine below_alloc' ?_ _)
end Go.Proofs.YtabmlbnnhhpaoaaGreatDoor
set_option maxHeartbeats 8000000
set_option maxRecDepth 100000
namespace Go.Proofs.YtabmlbnnhhpaoaaGreatDoor
open Go.RowKit
theorem dec_2_3 (n : Nat) (h1 : 1 ≤ n) (h2 : n < 49) (hf : (Isa.formOf n : Int) = 2) (hn : (Isa.numOf n : Int) = 3) (x : Int) (hx0 : 0 ≤ x) (hx1 : x ≤ 4294967295) (hx : x / 67108864 = (n : Int)) (y0 : Int) (hy : bits BinOp.and IntKind.u32 x 67108863 = y0) (hy00 : 0 ≤ y0) (hy01 : y0 ≤ 67108863)
 (D : Int) (hD : y0 / 4194304 = D) (hD0 : 0 ≤ D) (hD1 : D ≤ 15) (hDa : bits BinOp.and IntKind.u32 D 15 = D) (y1 : Int) (hy1 : bits BinOp.andNot IntKind.u32 y0 62914560 = y1) (hy10 : 0 ≤ y1) (hy11 : y1 ≤ 4194303)
 (A : Int) (hA : y1 / 262144 = A) (hA0 : 0 ≤ A) (hA1 : A ≤ 15) (hAa : bits BinOp.and IntKind.u32 A 15 = A) (y2 : Int) (hy2 : bits BinOp.andNot IntKind.u32 y1 3932160 = y2) (hy20 : 0 ≤ y2) (hy21 : y2 ≤ 262143)
 (w : World) (hL : Isa.Laid w) : Calls Tryz.prog 36 #[.int .u32 x] w (Isa.DecPost (Isa.decOut (n : Int) 2 3 D A 0 y2) w) := by
 have i0 := fun W => (index_threeP (.pointer (some ⟨w.heap.size + 1, 1, none⟩)) (.pointer (some ⟨w.heap.size + 1, 2, none⟩)) (.pointer (some ⟨w.heap.size + 1, 3, none⟩)) 22 18 (-1) W).1
 have i1 := fun W => (index_threeP (.pointer (some ⟨w.heap.size + 1, 1, none⟩)) (.pointer (some ⟨w.heap.size + 1, 2, none⟩)) (.pointer (some ⟨w.heap.size + 1, 3, none⟩)) 22 18 (-1) W).2.1
 have i2 := fun W => (index_threeP (.pointer (some ⟨w.heap.size + 1, 1, none⟩)) (.pointer (some ⟨w.heap.size + 1, 2, none⟩)) (.pointer (some ⟨w.heap.size + 1, 3, none⟩)) 22 18 (-1) W).2.2
 have hxn : IntKind.i64.wrap (x / 67108864) = (n : Int) := by rw [hx]; exact IntWalk.i64_in _ (by omega)
 have hsh := (Isa.table_facts ⟨n, h2⟩).2.2.2.2
 go_enter Tryz.func36, Tryz.ntmps36
 go_wp2_with fail
 refine (of_at2 n h1 h2 2 3 hf hn _).mono ?_
 rintro e w1 ⟨rfl, hb1⟩
 have hL1 := ((hL.alloc _).alloc _).below hb1
 have k0 := blk_keep hb1 (blk_alloc _ (heap_alloc_new _ _))
 have k1 := blk_keep hb1 (heap_alloc2_new _ _ _)
 obtain ⟨d0, f0⟩ := blk_facts k0
 obtain ⟨d1, f1⟩ := blk_facts k1
 have z1 := blk_size k1
 have z1k : ∀ k, w.heap.size + 1 < w1.heap.size + k := fun k => by omega
 obtain ⟨l1, l2, l3, l4⟩ := hL1.cells 2 (by omega)
 simp only [Isa.atD, Isa.atA, Isa.atB, Isa.bits, Isa.layD, Isa.layA, Isa.layB, Isa.layN, List.getD_cons_succ, List.getD_cons_zero, Nat.reduceMul, Nat.reduceAdd, Int.cast_ofNat_Int] at l1 l2 l3 l4
 have z0 := hL1.lt
 have HB1 := Lib.hid (below_next (below_alloc' (below_alloc' (Below.refl _ _) _) _) hb1)
 go_wp2_with fail
 refine wp_loop_rounds 4 ?_
 refine rounds_world (Isa.DecW w w1 (n : Int) (Isa.nameOf n) 2 3 (Isa.shapeOf n : Int) 22 18 (-1) 18 0 0 0 0) ⟨blk_alloc _ (blk_alloc _ k0), blk_alloc _ (blk_alloc _ k1), blk_alloc _ (heap_alloc_new _ _), heap_alloc2_new _ _ _, (hL1.alloc _).alloc _, below_alloc' (below_alloc' HB1.out _) _, z1⟩ ?_
 clear l1 l2 l3 l4 d0 f0 d1 f1 k0 k1 HB1 hb1 z1k z0 hL1
 intro v0 H0
 rw [rounds_succ]
 have dW : ∀ (Z : Obj) (i : Nat), (v0.alloc Z).cell? ⟨w.heap.size + 1, i, none⟩ = _ := fun Z => (blk_facts (blk_alloc Z H0.own)).1
 have fW : ∀ (Z : Obj) (i : Nat), (v0.alloc Z).frozen? ⟨w.heap.size + 1, i, none⟩ = false := fun Z => (blk_facts (blk_alloc Z H0.own)).2
 have n1 : w.heap.size + 1 ≠ v0.heap.size := Nat.ne_of_lt (blk_size H0.own)
 have n2 : v0.heap.size ≠ w.heap.size + 1 := Ne.symm n1
 go_wp2_with fail
 go_region
 all_goals (go_wp2_with fail)
 clear dW fW n1 n2
 refine rounds_world (Isa.DecW w w1 (n : Int) (Isa.nameOf n) 2 3 (Isa.shapeOf n : Int) 22 18 (-1) 18 D 0 0 0) (((H0.alloc _).setD hL _).drew) ?_
 clear H0
 intro v1 H1
 rw [rounds_succ]
 have dW : ∀ (Z : Obj) (i : Nat), (v1.alloc Z).cell? ⟨w.heap.size + 1, i, none⟩ = _ := fun Z => (blk_facts (blk_alloc Z H1.own)).1
 have fW : ∀ (Z : Obj) (i : Nat), (v1.alloc Z).frozen? ⟨w.heap.size + 1, i, none⟩ = false := fun Z => (blk_facts (blk_alloc Z H1.own)).2
 have n1 : w.heap.size + 1 ≠ v1.heap.size := Nat.ne_of_lt (blk_size H1.own)
 have n2 : v1.heap.size ≠ w.heap.size + 1 := Ne.symm n1
 go_wp2_with fail
 go_region
 all_goals (go_wp2_with fail)
 clear dW fW n1 n2
 refine rounds_world (Isa.DecW w w1 (n : Int) (Isa.nameOf n) 2 3 (Isa.shapeOf n : Int) 22 18 (-1) 18 D A 0 0) (((H1.alloc _).setA hL _).drew) ?_
 clear H1
 intro v2 H2
 rw [rounds_succ]
 go_wp2_with fail
 refine rounds_world (Isa.DecW w w1 (n : Int) (Isa.nameOf n) 2 3 (Isa.shapeOf n : Int) 22 18 (-1) 18 D A 0 0) (H2.alloc _) ?_
 clear H2
 intro v3 H3
 rw [rounds_succ]
 clear i0 i1 i2
 obtain ⟨rc, rf⟩ := blk_facts H3.res
 obtain ⟨oc, of⟩ := blk_facts H3.own
 have ic := (blk_facts H3.info).1
 have lc := (blk_facts H3.lay).1
 have HB := Lib.hid H3.bel
 by_cases hbit : 262144 ≤ y2
 · have c0 : decide (262144 ≤ y2) = true := by simpa using hbit
   have HO : Hid (Isa.decOut (n : Int) 2 3 D A 0 y2 = (0, 0, 0, 0, 0, 103)) := by show _ = _; unfold Isa.decOut; rw [if_pos (by simpa [Isa.bits, Isa.layN] using hbit)]
   clear hbit
   go_wp2_with fail
   refine bodyPost_ret (v := .tuple #[.agg #[.int .i64 0, .int .u8 0, .int .u8 0, .int .u8 0, .int .i32 0], .int .i64 103]) (by simp [results, Tryz.results36, go_sem, rc]) rfl ⟨by rw [HO.out], ?_⟩
   repeat (first | (with_reducible exact HB.out) | refine Below.setCell ?_ (by first | exact Nat.le_refl _ | exact Nat.le_succ _) _ | refine Below.drew ?_ | refine below_drewN' ?_ _ | refine below_alloc' ?_ _)
 · have c0 : decide (262144 ≤ y2) = false := by simpa using hbit
   have hbit1 : y2 ≤ 262143 := by omega
   by_cases hF : Isa.fits 2 3 (y2) = true
   · have hF : Isa.fits 2 3 (y2) = true := by simpa using hF
     have HO : Hid (Isa.decOut (n : Int) 2 3 D A 0 y2 = ((n : Int), D, A, 0, y2, 0)) := by show _ = _; unfold Isa.decOut; rw [if_neg (by simpa [Isa.bits, Isa.layN] using hbit)]; rw [if_neg (fun hh => absurd hh.1 (by decide))]; rw [if_pos (by simpa [Isa.bits, Isa.layN] using hF)] <;> rfl
     have HF := Lib.hid hF
     clear hF hbit
     go_wp2_with fail
     refine (fits_at _ 2 2 rfl 3 _ _ _ ?hl (by decide) (by decide)).mono ?_
     case hl => exact H3.laid
     rintro e v4 ⟨rfl, hb4⟩
     have hF := HF.out
     have H4 := H3.below hb4
     clear rc rf oc of ic lc
     obtain ⟨rc, rf⟩ := blk_facts H4.res
     obtain ⟨oc, of⟩ := blk_facts H4.own
     have HB4 := Lib.hid H4.bel
     go_wp2_with fail
     refine bodyPost_ret (v := .tuple #[.agg #[.int .i64 (n : Int), .int .u8 D, .int .u8 A, .int .u8 0, .int .i32 (y2)], .int .i64 0]) (by simp [results, Tryz.results36, go_sem, rc, oc]) rfl ⟨by rw [HO.out], ?_⟩
     repeat (first | (with_reducible exact HB4.out) | refine Below.setCell ?_ (by first | exact Nat.le_refl _ | exact Nat.le_succ _) _ | refine Below.drew ?_ | refine below_drewN' ?_ _ | refine below_alloc' ?_ _)
   · have hF : Isa.fits 2 3 (y2) = false := by simpa using hF
     have HO : Hid (Isa.decOut (n : Int) 2 3 D A 0 y2 = (0, 0, 0, 0, 0, 102)) := by show _ = _; unfold Isa.decOut; rw [if_neg (by simpa [Isa.bits, Isa.layN] using hbit)]; rw [if_neg (fun hh => absurd hh.1 (by decide))]; rw [if_neg (by simpa [Isa.bits, Isa.layN] using hF)] <;> rfl
     have HF := Lib.hid hF
     clear hF hbit
     go_wp2_with fail
     refine (fits_at _ 2 2 rfl 3 _ _ _ ?hl (by decide) (by decide)).mono ?_
     case hl => exact H3.laid
     rintro e v4 ⟨rfl, hb4⟩
     have hF := HF.out
     have H4 := H3.below hb4
     clear rc rf oc of ic lc
     obtain ⟨rc, rf⟩ := blk_facts H4.res
     obtain ⟨oc, of⟩ := blk_facts H4.own
     have HB4 := Lib.hid H4.bel
     go_wp2_with fail
     refine bodyPost_ret (v := .tuple #[.agg #[.int .i64 0, .int .u8 0, .int .u8 0, .int .u8 0, .int .i32 0], .int .i64 102]) (by simp [results, Tryz.results36, go_sem, rc]) rfl ⟨by rw [HO.out], ?_⟩
     repeat (first | (with_reducible exact HB4.out) | refine Below.setCell ?_ (by first | exact Nat.le_refl _ | exact Nat.le_succ _) _ | refine Below.drew ?_ | refine below_drewN' ?_ _ | refine below_alloc' ?_ _)
theorem dec_3_1 (n : Nat) (h1 : 1 ≤ n) (h2 : n < 49) (hf : (Isa.formOf n : Int) = 3) (hn : (Isa.numOf n : Int) = 1) (x : Int) (hx0 : 0 ≤ x) (hx1 : x ≤ 4294967295) (hx : x / 67108864 = (n : Int)) (y0 : Int) (hy : bits BinOp.and IntKind.u32 x 67108863 = y0) (hy00 : 0 ≤ y0) (hy01 : y0 ≤ 67108863)
 (A : Int) (hA : y0 / 4194304 = A) (hA0 : 0 ≤ A) (hA1 : A ≤ 15) (hAa : bits BinOp.and IntKind.u32 A 15 = A) (y1 : Int) (hy1 : bits BinOp.andNot IntKind.u32 y0 62914560 = y1) (hy10 : 0 ≤ y1) (hy11 : y1 ≤ 4194303)
 (B : Int) (hB : y1 / 262144 = B) (hB0 : 0 ≤ B) (hB1 : B ≤ 15) (hBa : bits BinOp.and IntKind.u32 B 15 = B) (y2 : Int) (hy2 : bits BinOp.andNot IntKind.u32 y1 3932160 = y2) (hy20 : 0 ≤ y2) (hy21 : y2 ≤ 262143)
 (w : World) (hL : Isa.Laid w) : Calls Tryz.prog 36 #[.int .u32 x] w (Isa.DecPost (Isa.decOut (n : Int) 3 1 0 A B y2) w) := by
 have i0 := fun W => (index_threeP (.pointer (some ⟨w.heap.size + 1, 1, none⟩)) (.pointer (some ⟨w.heap.size + 1, 2, none⟩)) (.pointer (some ⟨w.heap.size + 1, 3, none⟩)) (-1) 22 18 W).1
 have i1 := fun W => (index_threeP (.pointer (some ⟨w.heap.size + 1, 1, none⟩)) (.pointer (some ⟨w.heap.size + 1, 2, none⟩)) (.pointer (some ⟨w.heap.size + 1, 3, none⟩)) (-1) 22 18 W).2.1
 have i2 := fun W => (index_threeP (.pointer (some ⟨w.heap.size + 1, 1, none⟩)) (.pointer (some ⟨w.heap.size + 1, 2, none⟩)) (.pointer (some ⟨w.heap.size + 1, 3, none⟩)) (-1) 22 18 W).2.2
 have hxn : IntKind.i64.wrap (x / 67108864) = (n : Int) := by rw [hx]; exact IntWalk.i64_in _ (by omega)
 have hsh := (Isa.table_facts ⟨n, h2⟩).2.2.2.2
 go_enter Tryz.func36, Tryz.ntmps36
 go_wp2_with fail
 refine (of_at2 n h1 h2 3 1 hf hn _).mono ?_
 rintro e w1 ⟨rfl, hb1⟩
 have hL1 := ((hL.alloc _).alloc _).below hb1
 have k0 := blk_keep hb1 (blk_alloc _ (heap_alloc_new _ _))
 have k1 := blk_keep hb1 (heap_alloc2_new _ _ _)
 obtain ⟨d0, f0⟩ := blk_facts k0
 obtain ⟨d1, f1⟩ := blk_facts k1
 have z1 := blk_size k1
 have z1k : ∀ k, w.heap.size + 1 < w1.heap.size + k := fun k => by omega
 obtain ⟨l1, l2, l3, l4⟩ := hL1.cells 3 (by omega)
 simp only [Isa.atD, Isa.atA, Isa.atB, Isa.bits, Isa.layD, Isa.layA, Isa.layB, Isa.layN, List.getD_cons_succ, List.getD_cons_zero, Nat.reduceMul, Nat.reduceAdd, Int.cast_ofNat_Int] at l1 l2 l3 l4
 have z0 := hL1.lt
 have HB1 := Lib.hid (below_next (below_alloc' (below_alloc' (Below.refl _ _) _) _) hb1)
 go_wp2_with fail
 refine wp_loop_rounds 4 ?_
 refine rounds_world (Isa.DecW w w1 (n : Int) (Isa.nameOf n) 3 1 (Isa.shapeOf n : Int) (-1) 22 18 18 0 0 0 0) ⟨blk_alloc _ (blk_alloc _ k0), blk_alloc _ (blk_alloc _ k1), blk_alloc _ (heap_alloc_new _ _), heap_alloc2_new _ _ _, (hL1.alloc _).alloc _, below_alloc' (below_alloc' HB1.out _) _, z1⟩ ?_
 clear l1 l2 l3 l4 d0 f0 d1 f1 k0 k1 HB1 hb1 z1k z0 hL1
 intro v0 H0
 rw [rounds_succ]
 go_wp2_with fail
 refine rounds_world (Isa.DecW w w1 (n : Int) (Isa.nameOf n) 3 1 (Isa.shapeOf n : Int) (-1) 22 18 18 0 0 0 0) (H0.alloc _) ?_
 clear H0
 intro v1 H1
 rw [rounds_succ]
 have dW : ∀ (Z : Obj) (i : Nat), (v1.alloc Z).cell? ⟨w.heap.size + 1, i, none⟩ = _ := fun Z => (blk_facts (blk_alloc Z H1.own)).1
 have fW : ∀ (Z : Obj) (i : Nat), (v1.alloc Z).frozen? ⟨w.heap.size + 1, i, none⟩ = false := fun Z => (blk_facts (blk_alloc Z H1.own)).2
 have n1 : w.heap.size + 1 ≠ v1.heap.size := Nat.ne_of_lt (blk_size H1.own)
 have n2 : v1.heap.size ≠ w.heap.size + 1 := Ne.symm n1
 go_wp2_with fail
 go_region
 all_goals (go_wp2_with fail)
 clear dW fW n1 n2
 refine rounds_world (Isa.DecW w w1 (n : Int) (Isa.nameOf n) 3 1 (Isa.shapeOf n : Int) (-1) 22 18 18 0 A 0 0) (((H1.alloc _).setA hL _).drew) ?_
 clear H1
 intro v2 H2
 rw [rounds_succ]
 have dW : ∀ (Z : Obj) (i : Nat), (v2.alloc Z).cell? ⟨w.heap.size + 1, i, none⟩ = _ := fun Z => (blk_facts (blk_alloc Z H2.own)).1
 have fW : ∀ (Z : Obj) (i : Nat), (v2.alloc Z).frozen? ⟨w.heap.size + 1, i, none⟩ = false := fun Z => (blk_facts (blk_alloc Z H2.own)).2
 have n1 : w.heap.size + 1 ≠ v2.heap.size := Nat.ne_of_lt (blk_size H2.own)
 have n2 : v2.heap.size ≠ w.heap.size + 1 := Ne.symm n1
 go_wp2_with fail
 go_region
 all_goals (go_wp2_with fail)
 clear dW fW n1 n2
 refine rounds_world (Isa.DecW w w1 (n : Int) (Isa.nameOf n) 3 1 (Isa.shapeOf n : Int) (-1) 22 18 18 0 A B 0) (((H2.alloc _).setB hL _).drew) ?_
 clear H2
 intro v3 H3
 rw [rounds_succ]
 clear i0 i1 i2
 obtain ⟨rc, rf⟩ := blk_facts H3.res
 obtain ⟨oc, of⟩ := blk_facts H3.own
 have ic := (blk_facts H3.info).1
 have lc := (blk_facts H3.lay).1
 have HB := Lib.hid H3.bel
 by_cases hbit : 262144 ≤ y2
 · have c0 : decide (262144 ≤ y2) = true := by simpa using hbit
   have HO : Hid (Isa.decOut (n : Int) 3 1 0 A B y2 = (0, 0, 0, 0, 0, 103)) := by show _ = _; unfold Isa.decOut; rw [if_pos (by simpa [Isa.bits, Isa.layN] using hbit)]
   clear hbit
   go_wp2_with fail
   refine bodyPost_ret (v := .tuple #[.agg #[.int .i64 0, .int .u8 0, .int .u8 0, .int .u8 0, .int .i32 0], .int .i64 103]) (by simp [results, Tryz.results36, go_sem, rc]) rfl ⟨by rw [HO.out], ?_⟩
   repeat (first | (with_reducible exact HB.out) | refine Below.setCell ?_ (by first | exact Nat.le_refl _ | exact Nat.le_succ _) _ | refine Below.drew ?_ | refine below_drewN' ?_ _ | refine below_alloc' ?_ _)
 · have c0 : decide (262144 ≤ y2) = false := by simpa using hbit
   have hbit1 : y2 ≤ 262143 := by omega
   by_cases hneg : 131072 ≤ y2
   · have c1 : decide (131072 ≤ y2) = true := by simpa using hneg
     by_cases hF : Isa.fits 3 1 (y2 - 262144) = true
     · have hF : Isa.fits 3 1 (y2 - 262144) = true := by simpa using hF
       have HO : Hid (Isa.decOut (n : Int) 3 1 0 A B y2 = ((n : Int), 0, A, B, y2 - 262144, 0)) := by show _ = _; unfold Isa.decOut; rw [if_neg (by simpa [Isa.bits, Isa.layN] using hbit)]; rw [if_pos ⟨rfl, by simpa [Isa.bits, Isa.layN] using hneg⟩]; rw [if_pos (by simpa [Isa.bits, Isa.layN] using hF)] <;> rfl
       have HF := Lib.hid hF
       clear hF hbit hneg
       go_wp2_with fail
       refine (fits_at _ 3 3 rfl 1 _ _ _ ?hl (by decide) (by decide)).mono ?_
       case hl => exact H3.laid
       rintro e v4 ⟨rfl, hb4⟩
       have hF := HF.out
       have H4 := H3.below hb4
       clear rc rf oc of ic lc
       obtain ⟨rc, rf⟩ := blk_facts H4.res
       obtain ⟨oc, of⟩ := blk_facts H4.own
       have HB4 := Lib.hid H4.bel
       go_wp2_with fail
       refine bodyPost_ret (v := .tuple #[.agg #[.int .i64 (n : Int), .int .u8 0, .int .u8 A, .int .u8 B, .int .i32 (y2 - 262144)], .int .i64 0]) (by simp [results, Tryz.results36, go_sem, rc, oc]) rfl ⟨by rw [HO.out], ?_⟩
       repeat (first | (with_reducible exact HB4.out) | refine Below.setCell ?_ (by first | exact Nat.le_refl _ | exact Nat.le_succ _) _ | refine Below.drew ?_ | refine below_drewN' ?_ _ | refine below_alloc' ?_ _)
     · have hF : Isa.fits 3 1 (y2 - 262144) = false := by simpa using hF
       have HO : Hid (Isa.decOut (n : Int) 3 1 0 A B y2 = (0, 0, 0, 0, 0, 102)) := by show _ = _; unfold Isa.decOut; rw [if_neg (by simpa [Isa.bits, Isa.layN] using hbit)]; rw [if_pos ⟨rfl, by simpa [Isa.bits, Isa.layN] using hneg⟩]; rw [if_neg (by simpa [Isa.bits, Isa.layN] using hF)] <;> rfl
       have HF := Lib.hid hF
       clear hF hbit hneg
       go_wp2_with fail
       refine (fits_at _ 3 3 rfl 1 _ _ _ ?hl (by decide) (by decide)).mono ?_
       case hl => exact H3.laid
       rintro e v4 ⟨rfl, hb4⟩
       have hF := HF.out
       have H4 := H3.below hb4
       clear rc rf oc of ic lc
       obtain ⟨rc, rf⟩ := blk_facts H4.res
       obtain ⟨oc, of⟩ := blk_facts H4.own
       have HB4 := Lib.hid H4.bel
       go_wp2_with fail
       refine bodyPost_ret (v := .tuple #[.agg #[.int .i64 0, .int .u8 0, .int .u8 0, .int .u8 0, .int .i32 0], .int .i64 102]) (by simp [results, Tryz.results36, go_sem, rc]) rfl ⟨by rw [HO.out], ?_⟩
       repeat (first | (with_reducible exact HB4.out) | refine Below.setCell ?_ (by first | exact Nat.le_refl _ | exact Nat.le_succ _) _ | refine Below.drew ?_ | refine below_drewN' ?_ _ | refine below_alloc' ?_ _)
   · have c1 : decide (131072 ≤ y2) = false := by simpa using hneg
     have hneg1 : y2 ≤ 131071 := by omega
     by_cases hF : Isa.fits 3 1 (y2) = true
     · have hF : Isa.fits 3 1 (y2) = true := by simpa using hF
       have HO : Hid (Isa.decOut (n : Int) 3 1 0 A B y2 = ((n : Int), 0, A, B, y2, 0)) := by show _ = _; unfold Isa.decOut; rw [if_neg (by simpa [Isa.bits, Isa.layN] using hbit)]; rw [if_neg (fun hh => hneg (by simpa [Isa.bits, Isa.layN] using hh.2))]; rw [if_pos (by simpa [Isa.bits, Isa.layN] using hF)] <;> rfl
       have HF := Lib.hid hF
       clear hF hbit hneg
       go_wp2_with fail
       refine (fits_at _ 3 3 rfl 1 _ _ _ ?hl (by decide) (by decide)).mono ?_
       case hl => exact H3.laid
       rintro e v4 ⟨rfl, hb4⟩
       have hF := HF.out
       have H4 := H3.below hb4
       clear rc rf oc of ic lc
       obtain ⟨rc, rf⟩ := blk_facts H4.res
       obtain ⟨oc, of⟩ := blk_facts H4.own
       have HB4 := Lib.hid H4.bel
       go_wp2_with fail
       refine bodyPost_ret (v := .tuple #[.agg #[.int .i64 (n : Int), .int .u8 0, .int .u8 A, .int .u8 B, .int .i32 (y2)], .int .i64 0]) (by simp [results, Tryz.results36, go_sem, rc, oc]) rfl ⟨by rw [HO.out], ?_⟩
       repeat (first | (with_reducible exact HB4.out) | refine Below.setCell ?_ (by first | exact Nat.le_refl _ | exact Nat.le_succ _) _ | refine Below.drew ?_ | refine below_drewN' ?_ _ | refine below_alloc' ?_ _)
     · have hF : Isa.fits 3 1 (y2) = false := by simpa using hF
       have HO : Hid (Isa.decOut (n : Int) 3 1 0 A B y2 = (0, 0, 0, 0, 0, 102)) := by show _ = _; unfold Isa.decOut; rw [if_neg (by simpa [Isa.bits, Isa.layN] using hbit)]; rw [if_neg (fun hh => hneg (by simpa [Isa.bits, Isa.layN] using hh.2))]; rw [if_neg (by simpa [Isa.bits, Isa.layN] using hF)] <;> rfl
       have HF := Lib.hid hF
       clear hF hbit hneg
       go_wp2_with fail
       refine (fits_at _ 3 3 rfl 1 _ _ _ ?hl (by decide) (by decide)).mono ?_
       case hl => exact H3.laid
       rintro e v4 ⟨rfl, hb4⟩
       have hF := HF.out
       have H4 := H3.below hb4
       clear rc rf oc of ic lc
       obtain ⟨rc, rf⟩ := blk_facts H4.res
       obtain ⟨oc, of⟩ := blk_facts H4.own
       have HB4 := Lib.hid H4.bel
       go_wp2_with fail
       refine bodyPost_ret (v := .tuple #[.agg #[.int .i64 0, .int .u8 0, .int .u8 0, .int .u8 0, .int .i32 0], .int .i64 102]) (by simp [results, Tryz.results36, go_sem, rc]) rfl ⟨by rw [HO.out], ?_⟩
       repeat (first | (with_reducible exact HB4.out) | refine Below.setCell ?_ (by first | exact Nat.le_refl _ | exact Nat.le_succ _) _ | refine Below.drew ?_ | refine below_drewN' ?_ _ | refine below_alloc' ?_ _)
theorem dec_4_1 (n : Nat) (h1 : 1 ≤ n) (h2 : n < 49) (hf : (Isa.formOf n : Int) = 4) (hn : (Isa.numOf n : Int) = 1) (x : Int) (hx0 : 0 ≤ x) (hx1 : x ≤ 4294967295) (hx : x / 67108864 = (n : Int)) (y0 : Int) (hy : bits BinOp.and IntKind.u32 x 67108863 = y0) (hy00 : 0 ≤ y0) (hy01 : y0 ≤ 67108863)
 (D : Int) (hD : y0 / 4194304 = D) (hD0 : 0 ≤ D) (hD1 : D ≤ 15) (hDa : bits BinOp.and IntKind.u32 D 15 = D) (y1 : Int) (hy1 : bits BinOp.andNot IntKind.u32 y0 62914560 = y1) (hy10 : 0 ≤ y1) (hy11 : y1 ≤ 4194303)
 (w : World) (hL : Isa.Laid w) : Calls Tryz.prog 36 #[.int .u32 x] w (Isa.DecPost (Isa.decOut (n : Int) 4 1 D 0 0 y1) w) := by
 have i0 := fun W => (index_threeP (.pointer (some ⟨w.heap.size + 1, 1, none⟩)) (.pointer (some ⟨w.heap.size + 1, 2, none⟩)) (.pointer (some ⟨w.heap.size + 1, 3, none⟩)) 22 (-1) (-1) W).1
 have i1 := fun W => (index_threeP (.pointer (some ⟨w.heap.size + 1, 1, none⟩)) (.pointer (some ⟨w.heap.size + 1, 2, none⟩)) (.pointer (some ⟨w.heap.size + 1, 3, none⟩)) 22 (-1) (-1) W).2.1
 have i2 := fun W => (index_threeP (.pointer (some ⟨w.heap.size + 1, 1, none⟩)) (.pointer (some ⟨w.heap.size + 1, 2, none⟩)) (.pointer (some ⟨w.heap.size + 1, 3, none⟩)) 22 (-1) (-1) W).2.2
 have hxn : IntKind.i64.wrap (x / 67108864) = (n : Int) := by rw [hx]; exact IntWalk.i64_in _ (by omega)
 have hsh := (Isa.table_facts ⟨n, h2⟩).2.2.2.2
 go_enter Tryz.func36, Tryz.ntmps36
 go_wp2_with fail
 refine (of_at2 n h1 h2 4 1 hf hn _).mono ?_
 rintro e w1 ⟨rfl, hb1⟩
 have hL1 := ((hL.alloc _).alloc _).below hb1
 have k0 := blk_keep hb1 (blk_alloc _ (heap_alloc_new _ _))
 have k1 := blk_keep hb1 (heap_alloc2_new _ _ _)
 obtain ⟨d0, f0⟩ := blk_facts k0
 obtain ⟨d1, f1⟩ := blk_facts k1
 have z1 := blk_size k1
 have z1k : ∀ k, w.heap.size + 1 < w1.heap.size + k := fun k => by omega
 obtain ⟨l1, l2, l3, l4⟩ := hL1.cells 4 (by omega)
 simp only [Isa.atD, Isa.atA, Isa.atB, Isa.bits, Isa.layD, Isa.layA, Isa.layB, Isa.layN, List.getD_cons_succ, List.getD_cons_zero, Nat.reduceMul, Nat.reduceAdd, Int.cast_ofNat_Int] at l1 l2 l3 l4
 have z0 := hL1.lt
 have HB1 := Lib.hid (below_next (below_alloc' (below_alloc' (Below.refl _ _) _) _) hb1)
 go_wp2_with fail
 refine wp_loop_rounds 4 ?_
 refine rounds_world (Isa.DecW w w1 (n : Int) (Isa.nameOf n) 4 1 (Isa.shapeOf n : Int) 22 (-1) (-1) 22 0 0 0 0) ⟨blk_alloc _ (blk_alloc _ k0), blk_alloc _ (blk_alloc _ k1), blk_alloc _ (heap_alloc_new _ _), heap_alloc2_new _ _ _, (hL1.alloc _).alloc _, below_alloc' (below_alloc' HB1.out _) _, z1⟩ ?_
 clear l1 l2 l3 l4 d0 f0 d1 f1 k0 k1 HB1 hb1 z1k z0 hL1
 intro v0 H0
 rw [rounds_succ]
 have dW : ∀ (Z : Obj) (i : Nat), (v0.alloc Z).cell? ⟨w.heap.size + 1, i, none⟩ = _ := fun Z => (blk_facts (blk_alloc Z H0.own)).1
 have fW : ∀ (Z : Obj) (i : Nat), (v0.alloc Z).frozen? ⟨w.heap.size + 1, i, none⟩ = false := fun Z => (blk_facts (blk_alloc Z H0.own)).2
 have n1 : w.heap.size + 1 ≠ v0.heap.size := Nat.ne_of_lt (blk_size H0.own)
 have n2 : v0.heap.size ≠ w.heap.size + 1 := Ne.symm n1
 go_wp2_with fail
 go_region
 all_goals (go_wp2_with fail)
 clear dW fW n1 n2
 refine rounds_world (Isa.DecW w w1 (n : Int) (Isa.nameOf n) 4 1 (Isa.shapeOf n : Int) 22 (-1) (-1) 22 D 0 0 0) (((H0.alloc _).setD hL _).drew) ?_
 clear H0
 intro v1 H1
 rw [rounds_succ]
 go_wp2_with fail
 refine rounds_world (Isa.DecW w w1 (n : Int) (Isa.nameOf n) 4 1 (Isa.shapeOf n : Int) 22 (-1) (-1) 22 D 0 0 0) (H1.alloc _) ?_
 clear H1
 intro v2 H2
 rw [rounds_succ]
 go_wp2_with fail
 refine rounds_world (Isa.DecW w w1 (n : Int) (Isa.nameOf n) 4 1 (Isa.shapeOf n : Int) 22 (-1) (-1) 22 D 0 0 0) (H2.alloc _) ?_
 clear H2
 intro v3 H3
 rw [rounds_succ]
 clear i0 i1 i2
 obtain ⟨rc, rf⟩ := blk_facts H3.res
 obtain ⟨oc, of⟩ := blk_facts H3.own
 have ic := (blk_facts H3.info).1
 have lc := (blk_facts H3.lay).1
 have HB := Lib.hid H3.bel
 by_cases hbit : 4194304 ≤ y1
 · have c0 : decide (4194304 ≤ y1) = true := by simpa using hbit
   have HO : Hid (Isa.decOut (n : Int) 4 1 D 0 0 y1 = (0, 0, 0, 0, 0, 103)) := by show _ = _; unfold Isa.decOut; rw [if_pos (by simpa [Isa.bits, Isa.layN] using hbit)]
   clear hbit
   go_wp2_with fail
   refine bodyPost_ret (v := .tuple #[.agg #[.int .i64 0, .int .u8 0, .int .u8 0, .int .u8 0, .int .i32 0], .int .i64 103]) (by simp [results, Tryz.results36, go_sem, rc]) rfl ⟨by rw [HO.out], ?_⟩
   repeat (first | (with_reducible exact HB.out) | refine Below.setCell ?_ (by first | exact Nat.le_refl _ | exact Nat.le_succ _) _ | refine Below.drew ?_ | refine below_drewN' ?_ _ | refine below_alloc' ?_ _)
 · have c0 : decide (4194304 ≤ y1) = false := by simpa using hbit
   have hbit1 : y1 ≤ 4194303 := by omega
   by_cases hneg : 2097152 ≤ y1
   · have c1 : decide (2097152 ≤ y1) = true := by simpa using hneg
     by_cases hF : Isa.fits 4 1 (y1 - 4194304) = true
     · have hF : Isa.fits 4 1 (y1 - 4194304) = true := by simpa using hF
       have HO : Hid (Isa.decOut (n : Int) 4 1 D 0 0 y1 = ((n : Int), D, 0, 0, y1 - 4194304, 0)) := by show _ = _; unfold Isa.decOut; rw [if_neg (by simpa [Isa.bits, Isa.layN] using hbit)]; rw [if_pos ⟨rfl, by simpa [Isa.bits, Isa.layN] using hneg⟩]; rw [if_pos (by simpa [Isa.bits, Isa.layN] using hF)] <;> rfl
       have HF := Lib.hid hF
       clear hF hbit hneg
       go_wp2_with fail
       refine (fits_at _ 4 4 rfl 1 _ _ _ ?hl (by decide) (by decide)).mono ?_
       case hl => exact H3.laid
       rintro e v4 ⟨rfl, hb4⟩
       have hF := HF.out
       have H4 := H3.below hb4
       clear rc rf oc of ic lc
       obtain ⟨rc, rf⟩ := blk_facts H4.res
       obtain ⟨oc, of⟩ := blk_facts H4.own
       have HB4 := Lib.hid H4.bel
       go_wp2_with fail
       refine bodyPost_ret (v := .tuple #[.agg #[.int .i64 (n : Int), .int .u8 D, .int .u8 0, .int .u8 0, .int .i32 (y1 - 4194304)], .int .i64 0]) (by simp [results, Tryz.results36, go_sem, rc, oc]) rfl ⟨by rw [HO.out], ?_⟩
       repeat (first | (with_reducible exact HB4.out) | refine Below.setCell ?_ (by first | exact Nat.le_refl _ | exact Nat.le_succ _) _ | refine Below.drew ?_ | refine below_drewN' ?_ _ | refine below_alloc' ?_ _)
     · have hF : Isa.fits 4 1 (y1 - 4194304) = false := by simpa using hF
       have HO : Hid (Isa.decOut (n : Int) 4 1 D 0 0 y1 = (0, 0, 0, 0, 0, 102)) := by show _ = _; unfold Isa.decOut; rw [if_neg (by simpa [Isa.bits, Isa.layN] using hbit)]; rw [if_pos ⟨rfl, by simpa [Isa.bits, Isa.layN] using hneg⟩]; rw [if_neg (by simpa [Isa.bits, Isa.layN] using hF)] <;> rfl
       have HF := Lib.hid hF
       clear hF hbit hneg
       go_wp2_with fail
       refine (fits_at _ 4 4 rfl 1 _ _ _ ?hl (by decide) (by decide)).mono ?_
       case hl => exact H3.laid
       rintro e v4 ⟨rfl, hb4⟩
       have hF := HF.out
       have H4 := H3.below hb4
       clear rc rf oc of ic lc
       obtain ⟨rc, rf⟩ := blk_facts H4.res
       obtain ⟨oc, of⟩ := blk_facts H4.own
       have HB4 := Lib.hid H4.bel
       go_wp2_with fail
       refine bodyPost_ret (v := .tuple #[.agg #[.int .i64 0, .int .u8 0, .int .u8 0, .int .u8 0, .int .i32 0], .int .i64 102]) (by simp [results, Tryz.results36, go_sem, rc]) rfl ⟨by rw [HO.out], ?_⟩
       repeat (first | (with_reducible exact HB4.out) | refine Below.setCell ?_ (by first | exact Nat.le_refl _ | exact Nat.le_succ _) _ | refine Below.drew ?_ | refine below_drewN' ?_ _ | refine below_alloc' ?_ _)
   · have c1 : decide (2097152 ≤ y1) = false := by simpa using hneg
     have hneg1 : y1 ≤ 2097151 := by omega
     by_cases hF : Isa.fits 4 1 (y1) = true
     · have hF : Isa.fits 4 1 (y1) = true := by simpa using hF
       have HO : Hid (Isa.decOut (n : Int) 4 1 D 0 0 y1 = ((n : Int), D, 0, 0, y1, 0)) := by show _ = _; unfold Isa.decOut; rw [if_neg (by simpa [Isa.bits, Isa.layN] using hbit)]; rw [if_neg (fun hh => hneg (by simpa [Isa.bits, Isa.layN] using hh.2))]; rw [if_pos (by simpa [Isa.bits, Isa.layN] using hF)] <;> rfl
       have HF := Lib.hid hF
       clear hF hbit hneg
       go_wp2_with fail
       refine (fits_at _ 4 4 rfl 1 _ _ _ ?hl (by decide) (by decide)).mono ?_
       case hl => exact H3.laid
       rintro e v4 ⟨rfl, hb4⟩
       have hF := HF.out
       have H4 := H3.below hb4
       clear rc rf oc of ic lc
       obtain ⟨rc, rf⟩ := blk_facts H4.res
       obtain ⟨oc, of⟩ := blk_facts H4.own
       have HB4 := Lib.hid H4.bel
       go_wp2_with fail
       refine bodyPost_ret (v := .tuple #[.agg #[.int .i64 (n : Int), .int .u8 D, .int .u8 0, .int .u8 0, .int .i32 (y1)], .int .i64 0]) (by simp [results, Tryz.results36, go_sem, rc, oc]) rfl ⟨by rw [HO.out], ?_⟩
       repeat (first | (with_reducible exact HB4.out) | refine Below.setCell ?_ (by first | exact Nat.le_refl _ | exact Nat.le_succ _) _ | refine Below.drew ?_ | refine below_drewN' ?_ _ | refine below_alloc' ?_ _)
     · have hF : Isa.fits 4 1 (y1) = false := by simpa using hF
       have HO : Hid (Isa.decOut (n : Int) 4 1 D 0 0 y1 = (0, 0, 0, 0, 0, 102)) := by show _ = _; unfold Isa.decOut; rw [if_neg (by simpa [Isa.bits, Isa.layN] using hbit)]; rw [if_neg (fun hh => hneg (by simpa [Isa.bits, Isa.layN] using hh.2))]; rw [if_neg (by simpa [Isa.bits, Isa.layN] using hF)] <;> rfl
       have HF := Lib.hid hF
       clear hF hbit hneg
       go_wp2_with fail
       refine (fits_at _ 4 4 rfl 1 _ _ _ ?hl (by decide) (by decide)).mono ?_
       case hl => exact H3.laid
       rintro e v4 ⟨rfl, hb4⟩
       have hF := HF.out
       have H4 := H3.below hb4
       clear rc rf oc of ic lc
       obtain ⟨rc, rf⟩ := blk_facts H4.res
       obtain ⟨oc, of⟩ := blk_facts H4.own
       have HB4 := Lib.hid H4.bel
       go_wp2_with fail
       refine bodyPost_ret (v := .tuple #[.agg #[.int .i64 0, .int .u8 0, .int .u8 0, .int .u8 0, .int .i32 0], .int .i64 102]) (by simp [results, Tryz.results36, go_sem, rc]) rfl ⟨by rw [HO.out], ?_⟩
       repeat (first | (with_reducible exact HB4.out) | refine Below.setCell ?_ (by first | exact Nat.le_refl _ | exact Nat.le_succ _) _ | refine Below.drew ?_ | refine below_drewN' ?_ _ | refine below_alloc' ?_ _)
end Go.Proofs.YtabmlbnnhhpaoaaGreatDoor
