/- What this claim needs of IsaDec3, IsaDec4, IsaDecAll. -/
import Derived.Test.YtabmlbnnhhpaoaaGreatDoorEMIsaBase
import Derived.Test.YtabmlbnnhhpaoaaGreatDoorEMIsaDecA
set_option linter.unusedSimpArgs false
set_option linter.unusedVariables false
set_option maxHeartbeats 8000000
set_option maxRecDepth 100000
namespace Go.Proofs.YtabmlbnnhhpaoaaGreatDoor
open Go.RowKit
theorem dec_4_2 (n : Nat) (h1 : 1 ≤ n) (h2 : n < 49) (hf : (Isa.formOf n : Int) = 4) (hn : (Isa.numOf n : Int) = 2) (x : Int) (hx0 : 0 ≤ x) (hx1 : x ≤ 4294967295) (hx : x / 67108864 = (n : Int)) (y0 : Int) (hy : bits BinOp.and IntKind.u32 x 67108863 = y0) (hy00 : 0 ≤ y0) (hy01 : y0 ≤ 67108863)
 (D : Int) (hD : y0 / 4194304 = D) (hD0 : 0 ≤ D) (hD1 : D ≤ 15) (hDa : bits BinOp.and IntKind.u32 D 15 = D) (y1 : Int) (hy1 : bits BinOp.andNot IntKind.u32 y0 62914560 = y1) (hy10 : 0 ≤ y1) (hy11 : y1 ≤ 4194303)
 (w : World) (hL : Isa.Laid w) : Calls Tryz.prog 36 #[.int .u32 x] w (Isa.DecPost (Isa.decOut (n : Int) 4 2 D 0 0 y1) w) := by
 have i0 := fun W => (index_threeP (.pointer (some ⟨w.heap.size + 1, 1, none⟩)) (.pointer (some ⟨w.heap.size + 1, 2, none⟩)) (.pointer (some ⟨w.heap.size + 1, 3, none⟩)) 22 (-1) (-1) W).1
 have i1 := fun W => (index_threeP (.pointer (some ⟨w.heap.size + 1, 1, none⟩)) (.pointer (some ⟨w.heap.size + 1, 2, none⟩)) (.pointer (some ⟨w.heap.size + 1, 3, none⟩)) 22 (-1) (-1) W).2.1
 have i2 := fun W => (index_threeP (.pointer (some ⟨w.heap.size + 1, 1, none⟩)) (.pointer (some ⟨w.heap.size + 1, 2, none⟩)) (.pointer (some ⟨w.heap.size + 1, 3, none⟩)) 22 (-1) (-1) W).2.2
 have hxn : IntKind.i64.wrap (x / 67108864) = (n : Int) := by rw [hx]; exact IntWalk.i64_in _ (by omega)
 have hsh := (Isa.table_facts ⟨n, h2⟩).2.2.2.2
 go_enter Tryz.func36, Tryz.ntmps36
 go_wp2_with fail
 refine (of_at2 n h1 h2 4 2 hf hn _).mono ?_
 rintro e w1 ⟨rfl, hb1⟩
 have hL1 := ((hL.alloc _).alloc _).below hb1
 have k0 := blk_keep hb1 (blk_alloc _ (heap_alloc_new _ _))
 have k1 := blk_keep hb1 (heap_alloc2_new _ _ _)
 obtain ⟨d0, f0⟩ := blk_facts k0
 obtain ⟨d1, f1⟩ := blk_facts k1
 have z1 := blk_size k1
 have z1k : ∀ k, w.heap.size + 1 < w1.heap.size + k := fun k => by omega
 obtain ⟨l1, l2, l3, l4⟩ := hL1.cells 4 (by omega)
 simp only [Isa.atD, Isa.atA, Isa.atB, Isa.bits, Isa.layD, Isa.layA, Isa.layB, Isa.layN, List.getD_cons_succ, List.getD_cons_zero, Nat.reduceMul, Nat.reduceAdd, Int.cast_ofNat_Int] at l1 l2 l3 l4
 have z0 := hL1.lt
 have HB1 := Lib.hid (below_next (below_alloc' (below_alloc' (Below.refl _ _) _) _) hb1)
 go_wp2_with fail
 refine wp_loop_rounds 4 ?_
 refine rounds_world (Isa.DecW w w1 (n : Int) (Isa.nameOf n) 4 2 (Isa.shapeOf n : Int) 22 (-1) (-1) 22 0 0 0 0) ⟨blk_alloc _ (blk_alloc _ k0), blk_alloc _ (blk_alloc _ k1), blk_alloc _ (heap_alloc_new _ _), heap_alloc2_new _ _ _, (hL1.alloc _).alloc _, below_alloc' (below_alloc' HB1.out _) _, z1⟩ ?_
 clear l1 l2 l3 l4 d0 f0 d1 f1 k0 k1 HB1 hb1 z1k z0 hL1
 intro v0 H0
 rw [rounds_succ]
 have dW : ∀ (Z : Obj) (i : Nat), (v0.alloc Z).cell? ⟨w.heap.size + 1, i, none⟩ = _ := fun Z => (blk_facts (blk_alloc Z H0.own)).1
 have fW : ∀ (Z : Obj) (i : Nat), (v0.alloc Z).frozen? ⟨w.heap.size + 1, i, none⟩ = false := fun Z => (blk_facts (blk_alloc Z H0.own)).2
 have n1 : w.heap.size + 1 ≠ v0.heap.size := Nat.ne_of_lt (blk_size H0.own)
 have n2 : v0.heap.size ≠ w.heap.size + 1 := Ne.symm n1
 go_wp2_with fail
 go_region
 all_goals (go_wp2_with fail)
 clear dW fW n1 n2
 refine rounds_world (Isa.DecW w w1 (n : Int) (Isa.nameOf n) 4 2 (Isa.shapeOf n : Int) 22 (-1) (-1) 22 D 0 0 0) (((H0.alloc _).setD hL _).drew) ?_
 clear H0
 intro v1 H1
 rw [rounds_succ]
 go_wp2_with fail
 refine rounds_world (Isa.DecW w w1 (n : Int) (Isa.nameOf n) 4 2 (Isa.shapeOf n : Int) 22 (-1) (-1) 22 D 0 0 0) (H1.alloc _) ?_
 clear H1
 intro v2 H2
 rw [rounds_succ]
 go_wp2_with fail
 refine rounds_world (Isa.DecW w w1 (n : Int) (Isa.nameOf n) 4 2 (Isa.shapeOf n : Int) 22 (-1) (-1) 22 D 0 0 0) (H2.alloc _) ?_
 clear H2
 intro v3 H3
 rw [rounds_succ]
 clear i0 i1 i2
 obtain ⟨rc, rf⟩ := blk_facts H3.res
 obtain ⟨oc, of⟩ := blk_facts H3.own
 have ic := (blk_facts H3.info).1
 have lc := (blk_facts H3.lay).1
 have HB := Lib.hid H3.bel
 by_cases hbit : 4194304 ≤ y1
 · have c0 : decide (4194304 ≤ y1) = true := by simpa using hbit
   have HO : Hid (Isa.decOut (n : Int) 4 2 D 0 0 y1 = (0, 0, 0, 0, 0, 103)) := by show _ = _; unfold Isa.decOut; rw [if_pos (by simpa [Isa.bits, Isa.layN] using hbit)]
   clear hbit
   go_wp2_with fail
   refine bodyPost_ret (v := .tuple #[.agg #[.int .i64 0, .int .u8 0, .int .u8 0, .int .u8 0, .int .i32 0], .int .i64 103]) (by simp [results, Tryz.results36, go_sem, rc]) rfl ⟨by rw [HO.out], ?_⟩
   repeat (first | (with_reducible exact HB.out) | refine Below.setCell ?_ (by first | exact Nat.le_refl _ | exact Nat.le_succ _) _ | refine Below.drew ?_ | refine below_drewN' ?_ _ | refine below_alloc' ?_ _)
 · have c0 : decide (4194304 ≤ y1) = false := by simpa using hbit
   have hbit1 : y1 ≤ 4194303 := by omega
   by_cases hF : Isa.fits 4 2 (y1) = true
   · have hF : Isa.fits 4 2 (y1) = true := by simpa using hF
     have HO : Hid (Isa.decOut (n : Int) 4 2 D 0 0 y1 = ((n : Int), D, 0, 0, y1, 0)) := by show _ = _; unfold Isa.decOut; rw [if_neg (by simpa [Isa.bits, Isa.layN] using hbit)]; rw [if_neg (fun hh => absurd hh.1 (by decide))]; rw [if_pos (by simpa [Isa.bits, Isa.layN] using hF)] <;> rfl
     have HF := Lib.hid hF
     clear hF hbit
     go_wp2_with fail
     refine (fits_at _ 4 4 rfl 2 _ _ _ ?hl (by decide) (by decide)).mono ?_
     case hl => exact H3.laid
     rintro e v4 ⟨rfl, hb4⟩
     have hF := HF.out
     have H4 := H3.below hb4
     clear rc rf oc of ic lc
     obtain ⟨rc, rf⟩ := blk_facts H4.res
     obtain ⟨oc, of⟩ := blk_facts H4.own
     have HB4 := Lib.hid H4.bel
     go_wp2_with fail
     refine bodyPost_ret (v := .tuple #[.agg #[.int .i64 (n : Int), .int .u8 D, .int .u8 0, .int .u8 0, .int .i32 (y1)], .int .i64 0]) (by simp [results, Tryz.results36, go_sem, rc, oc]) rfl ⟨by rw [HO.out], ?_⟩
     repeat (first | (with_reducible exact HB4.out) | refine Below.setCell ?_ (by first | exact Nat.le_refl _ | exact Nat.le_succ _) _ | refine Below.drew ?_ | refine below_drewN' ?_ _ | refine below_alloc' ?_ _)
   · have hF : Isa.fits 4 2 (y1) = false := by simpa using hF
     have HO : Hid (Isa.decOut (n : Int) 4 2 D 0 0 y1 = (0, 0, 0, 0, 0, 102)) := by show _ = _; unfold Isa.decOut; rw [if_neg (by simpa [Isa.bits, Isa.layN] using hbit)]; rw [if_neg (fun hh => absurd hh.1 (by decide))]; rw [if_neg (by simpa [Isa.bits, Isa.layN] using hF)] <;> rfl
     have HF := Lib.hid hF
     clear hF hbit
     go_wp2_with fail
     refine (fits_at _ 4 4 rfl 2 _ _ _ ?hl (by decide) (by decide)).mono ?_
     case hl => exact H3.laid
     rintro e v4 ⟨rfl, hb4⟩
     have hF := HF.out
     have H4 := H3.below hb4
     clear rc rf oc of ic lc
     obtain ⟨rc, rf⟩ := blk_facts H4.res
     obtain ⟨oc, of⟩ := blk_facts H4.own
     have HB4 := Lib.hid H4.bel
     go_wp2_with fail
     refine bodyPost_ret (v := .tuple #[.agg #[.int .i64 0, .int .u8 0, .int .u8 0, .int .u8 0, .int .i32 0], .int .i64 102]) (by simp [results, Tryz.results36, go_sem, rc]) rfl ⟨by rw [HO.out], ?_⟩
     repeat (first | (with_reducible exact HB4.out) | refine Below.setCell ?_ (by first | exact Nat.le_refl _ | exact Nat.le_succ _) _ | refine Below.drew ?_ | refine below_drewN' ?_ _ | refine below_alloc' ?_ _)
theorem dec_5_0 (n : Nat) (h1 : 1 ≤ n) (h2 : n < 49) (hf : (Isa.formOf n : Int) = 5) (hn : (Isa.numOf n : Int) = 0) (x : Int) (hx0 : 0 ≤ x) (hx1 : x ≤ 4294967295) (hx : x / 67108864 = (n : Int)) (y0 : Int) (hy : bits BinOp.and IntKind.u32 x 67108863 = y0) (hy00 : 0 ≤ y0) (hy01 : y0 ≤ 67108863)
 (D : Int) (hD : y0 / 4194304 = D) (hD0 : 0 ≤ D) (hD1 : D ≤ 15) (hDa : bits BinOp.and IntKind.u32 D 15 = D) (y1 : Int) (hy1 : bits BinOp.andNot IntKind.u32 y0 62914560 = y1) (hy10 : 0 ≤ y1) (hy11 : y1 ≤ 4194303)
 (w : World) (hL : Isa.Laid w) : Calls Tryz.prog 36 #[.int .u32 x] w (Isa.DecPost (Isa.decOut (n : Int) 5 0 D 0 0 y1) w) := by
 have i0 := fun W => (index_threeP (.pointer (some ⟨w.heap.size + 1, 1, none⟩)) (.pointer (some ⟨w.heap.size + 1, 2, none⟩)) (.pointer (some ⟨w.heap.size + 1, 3, none⟩)) 22 (-1) (-1) W).1
 have i1 := fun W => (index_threeP (.pointer (some ⟨w.heap.size + 1, 1, none⟩)) (.pointer (some ⟨w.heap.size + 1, 2, none⟩)) (.pointer (some ⟨w.heap.size + 1, 3, none⟩)) 22 (-1) (-1) W).2.1
 have i2 := fun W => (index_threeP (.pointer (some ⟨w.heap.size + 1, 1, none⟩)) (.pointer (some ⟨w.heap.size + 1, 2, none⟩)) (.pointer (some ⟨w.heap.size + 1, 3, none⟩)) 22 (-1) (-1) W).2.2
 have hxn : IntKind.i64.wrap (x / 67108864) = (n : Int) := by rw [hx]; exact IntWalk.i64_in _ (by omega)
 have hsh := (Isa.table_facts ⟨n, h2⟩).2.2.2.2
 go_enter Tryz.func36, Tryz.ntmps36
 go_wp2_with fail
 refine (of_at2 n h1 h2 5 0 hf hn _).mono ?_
 rintro e w1 ⟨rfl, hb1⟩
 have hL1 := ((hL.alloc _).alloc _).below hb1
 have k0 := blk_keep hb1 (blk_alloc _ (heap_alloc_new _ _))
 have k1 := blk_keep hb1 (heap_alloc2_new _ _ _)
 obtain ⟨d0, f0⟩ := blk_facts k0
 obtain ⟨d1, f1⟩ := blk_facts k1
 have z1 := blk_size k1
 have z1k : ∀ k, w.heap.size + 1 < w1.heap.size + k := fun k => by omega
 obtain ⟨l1, l2, l3, l4⟩ := hL1.cells 5 (by omega)
 simp only [Isa.atD, Isa.atA, Isa.atB, Isa.bits, Isa.layD, Isa.layA, Isa.layB, Isa.layN, List.getD_cons_succ, List.getD_cons_zero, Nat.reduceMul, Nat.reduceAdd, Int.cast_ofNat_Int] at l1 l2 l3 l4
 have z0 := hL1.lt
 have HB1 := Lib.hid (below_next (below_alloc' (below_alloc' (Below.refl _ _) _) _) hb1)
 go_wp2_with fail
 refine wp_loop_rounds 4 ?_
 refine rounds_world (Isa.DecW w w1 (n : Int) (Isa.nameOf n) 5 0 (Isa.shapeOf n : Int) 22 (-1) (-1) 0 0 0 0 0) ⟨blk_alloc _ (blk_alloc _ k0), blk_alloc _ (blk_alloc _ k1), blk_alloc _ (heap_alloc_new _ _), heap_alloc2_new _ _ _, (hL1.alloc _).alloc _, below_alloc' (below_alloc' HB1.out _) _, z1⟩ ?_
 clear l1 l2 l3 l4 d0 f0 d1 f1 k0 k1 HB1 hb1 z1k z0 hL1
 intro v0 H0
 rw [rounds_succ]
 have dW : ∀ (Z : Obj) (i : Nat), (v0.alloc Z).cell? ⟨w.heap.size + 1, i, none⟩ = _ := fun Z => (blk_facts (blk_alloc Z H0.own)).1
 have fW : ∀ (Z : Obj) (i : Nat), (v0.alloc Z).frozen? ⟨w.heap.size + 1, i, none⟩ = false := fun Z => (blk_facts (blk_alloc Z H0.own)).2
 have n1 : w.heap.size + 1 ≠ v0.heap.size := Nat.ne_of_lt (blk_size H0.own)
 have n2 : v0.heap.size ≠ w.heap.size + 1 := Ne.symm n1
 go_wp2_with fail
 go_region
 all_goals (go_wp2_with fail)
 clear dW fW n1 n2
 refine rounds_world (Isa.DecW w w1 (n : Int) (Isa.nameOf n) 5 0 (Isa.shapeOf n : Int) 22 (-1) (-1) 0 D 0 0 0) (((H0.alloc _).setD hL _).drew) ?_
 clear H0
 intro v1 H1
 rw [rounds_succ]
 go_wp2_with fail
 refine rounds_world (Isa.DecW w w1 (n : Int) (Isa.nameOf n) 5 0 (Isa.shapeOf n : Int) 22 (-1) (-1) 0 D 0 0 0) (H1.alloc _) ?_
 clear H1
 intro v2 H2
 rw [rounds_succ]
 go_wp2_with fail
 refine rounds_world (Isa.DecW w w1 (n : Int) (Isa.nameOf n) 5 0 (Isa.shapeOf n : Int) 22 (-1) (-1) 0 D 0 0 0) (H2.alloc _) ?_
 clear H2
 intro v3 H3
 rw [rounds_succ]
 clear i0 i1 i2
 obtain ⟨rc, rf⟩ := blk_facts H3.res
 obtain ⟨oc, of⟩ := blk_facts H3.own
 have ic := (blk_facts H3.info).1
 have lc := (blk_facts H3.lay).1
 have HB := Lib.hid H3.bel
 by_cases hbit : 1 ≤ y1
 · have c0 : decide (1 ≤ y1) = true := by simpa using hbit
   have HO : Hid (Isa.decOut (n : Int) 5 0 D 0 0 y1 = (0, 0, 0, 0, 0, 103)) := by show _ = _; unfold Isa.decOut; rw [if_pos (by simpa [Isa.bits, Isa.layN] using hbit)]
   clear hbit
   go_wp2_with fail
   refine bodyPost_ret (v := .tuple #[.agg #[.int .i64 0, .int .u8 0, .int .u8 0, .int .u8 0, .int .i32 0], .int .i64 103]) (by simp [results, Tryz.results36, go_sem, rc]) rfl ⟨by rw [HO.out], ?_⟩
   repeat (first | (with_reducible exact HB.out) | refine Below.setCell ?_ (by first | exact Nat.le_refl _ | exact Nat.le_succ _) _ | refine Below.drew ?_ | refine below_drewN' ?_ _ | refine below_alloc' ?_ _)
 · have c0 : decide (1 ≤ y1) = false := by simpa using hbit
   have hbit1 : y1 ≤ 0 := by omega
   by_cases hF : Isa.fits 5 0 (y1) = true
   · have hF : Isa.fits 5 0 (y1) = true := by simpa using hF
     have HO : Hid (Isa.decOut (n : Int) 5 0 D 0 0 y1 = ((n : Int), D, 0, 0, y1, 0)) := by show _ = _; unfold Isa.decOut; rw [if_neg (by simpa [Isa.bits, Isa.layN] using hbit)]; rw [if_neg (fun hh => absurd hh.1 (by decide))]; rw [if_pos (by simpa [Isa.bits, Isa.layN] using hF)] <;> rfl
     have HF := Lib.hid hF
     clear hF hbit
     go_wp2_with fail
     refine (fits_at _ 5 5 rfl 0 _ _ _ ?hl (by decide) (by decide)).mono ?_
     case hl => exact H3.laid
     rintro e v4 ⟨rfl, hb4⟩
     have hF := HF.out
     have H4 := H3.below hb4
     clear rc rf oc of ic lc
     obtain ⟨rc, rf⟩ := blk_facts H4.res
     obtain ⟨oc, of⟩ := blk_facts H4.own
     have HB4 := Lib.hid H4.bel
     go_wp2_with fail
     refine bodyPost_ret (v := .tuple #[.agg #[.int .i64 (n : Int), .int .u8 D, .int .u8 0, .int .u8 0, .int .i32 (y1)], .int .i64 0]) (by simp [results, Tryz.results36, go_sem, rc, oc]) rfl ⟨by rw [HO.out], ?_⟩
     repeat (first | (with_reducible exact HB4.out) | refine Below.setCell ?_ (by first | exact Nat.le_refl _ | exact Nat.le_succ _) _ | refine Below.drew ?_ | refine below_drewN' ?_ _ | refine below_alloc' ?_ _)
   · have hF : Isa.fits 5 0 (y1) = false := by simpa using hF
     have HO : Hid (Isa.decOut (n : Int) 5 0 D 0 0 y1 = (0, 0, 0, 0, 0, 102)) := by show _ = _; unfold Isa.decOut; rw [if_neg (by simpa [Isa.bits, Isa.layN] using hbit)]; rw [if_neg (fun hh => absurd hh.1 (by decide))]; rw [if_neg (by simpa [Isa.bits, Isa.layN] using hF)] <;> rfl
     have HF := Lib.hid hF
     clear hF hbit
     go_wp2_with fail
     refine (fits_at _ 5 5 rfl 0 _ _ _ ?hl (by decide) (by decide)).mono ?_
     case hl => exact H3.laid
     rintro e v4 ⟨rfl, hb4⟩
     have hF := HF.out
     have H4 := H3.below hb4
     clear rc rf oc of ic lc
     obtain ⟨rc, rf⟩ := blk_facts H4.res
     obtain ⟨oc, of⟩ := blk_facts H4.own
     have HB4 := Lib.hid H4.bel
     go_wp2_with fail
     refine bodyPost_ret (v := .tuple #[.agg #[.int .i64 0, .int .u8 0, .int .u8 0, .int .u8 0, .int .i32 0], .int .i64 102]) (by simp [results, Tryz.results36, go_sem, rc]) rfl ⟨by rw [HO.out], ?_⟩
     repeat (first | (with_reducible exact HB4.out) | refine Below.setCell ?_ (by first | exact Nat.le_refl _ | exact Nat.le_succ _) _ | refine Below.drew ?_ | refine below_drewN' ?_ _ | refine below_alloc' ?_ _)
theorem dec_6_0 (n : Nat) (h1 : 1 ≤ n) (h2 : n < 49) (hf : (Isa.formOf n : Int) = 6) (hn : (Isa.numOf n : Int) = 0) (x : Int) (hx0 : 0 ≤ x) (hx1 : x ≤ 4294967295) (hx : x / 67108864 = (n : Int)) (y0 : Int) (hy : bits BinOp.and IntKind.u32 x 67108863 = y0) (hy00 : 0 ≤ y0) (hy01 : y0 ≤ 67108863)
 (A : Int) (hA : y0 / 4194304 = A) (hA0 : 0 ≤ A) (hA1 : A ≤ 15) (hAa : bits BinOp.and IntKind.u32 A 15 = A) (y1 : Int) (hy1 : bits BinOp.andNot IntKind.u32 y0 62914560 = y1) (hy10 : 0 ≤ y1) (hy11 : y1 ≤ 4194303)
 (w : World) (hL : Isa.Laid w) : Calls Tryz.prog 36 #[.int .u32 x] w (Isa.DecPost (Isa.decOut (n : Int) 6 0 0 A 0 y1) w) := by
 have i0 := fun W => (index_threeP (.pointer (some ⟨w.heap.size + 1, 1, none⟩)) (.pointer (some ⟨w.heap.size + 1, 2, none⟩)) (.pointer (some ⟨w.heap.size + 1, 3, none⟩)) (-1) 22 (-1) W).1
 have i1 := fun W => (index_threeP (.pointer (some ⟨w.heap.size + 1, 1, none⟩)) (.pointer (some ⟨w.heap.size + 1, 2, none⟩)) (.pointer (some ⟨w.heap.size + 1, 3, none⟩)) (-1) 22 (-1) W).2.1
 have i2 := fun W => (index_threeP (.pointer (some ⟨w.heap.size + 1, 1, none⟩)) (.pointer (some ⟨w.heap.size + 1, 2, none⟩)) (.pointer (some ⟨w.heap.size + 1, 3, none⟩)) (-1) 22 (-1) W).2.2
 have hxn : IntKind.i64.wrap (x / 67108864) = (n : Int) := by rw [hx]; exact IntWalk.i64_in _ (by omega)
 have hsh := (Isa.table_facts ⟨n, h2⟩).2.2.2.2
 go_enter Tryz.func36, Tryz.ntmps36
 go_wp2_with fail
 refine (of_at2 n h1 h2 6 0 hf hn _).mono ?_
 rintro e w1 ⟨rfl, hb1⟩
 have hL1 := ((hL.alloc _).alloc _).below hb1
 have k0 := blk_keep hb1 (blk_alloc _ (heap_alloc_new _ _))
 have k1 := blk_keep hb1 (heap_alloc2_new _ _ _)
 obtain ⟨d0, f0⟩ := blk_facts k0
 obtain ⟨d1, f1⟩ := blk_facts k1
 have z1 := blk_size k1
 have z1k : ∀ k, w.heap.size + 1 < w1.heap.size + k := fun k => by omega
 obtain ⟨l1, l2, l3, l4⟩ := hL1.cells 6 (by omega)
 simp only [Isa.atD, Isa.atA, Isa.atB, Isa.bits, Isa.layD, Isa.layA, Isa.layB, Isa.layN, List.getD_cons_succ, List.getD_cons_zero, Nat.reduceMul, Nat.reduceAdd, Int.cast_ofNat_Int] at l1 l2 l3 l4
 have z0 := hL1.lt
 have HB1 := Lib.hid (below_next (below_alloc' (below_alloc' (Below.refl _ _) _) _) hb1)
 go_wp2_with fail
 refine wp_loop_rounds 4 ?_
 refine rounds_world (Isa.DecW w w1 (n : Int) (Isa.nameOf n) 6 0 (Isa.shapeOf n : Int) (-1) 22 (-1) 0 0 0 0 0) ⟨blk_alloc _ (blk_alloc _ k0), blk_alloc _ (blk_alloc _ k1), blk_alloc _ (heap_alloc_new _ _), heap_alloc2_new _ _ _, (hL1.alloc _).alloc _, below_alloc' (below_alloc' HB1.out _) _, z1⟩ ?_
 clear l1 l2 l3 l4 d0 f0 d1 f1 k0 k1 HB1 hb1 z1k z0 hL1
 intro v0 H0
 rw [rounds_succ]
 go_wp2_with fail
 refine rounds_world (Isa.DecW w w1 (n : Int) (Isa.nameOf n) 6 0 (Isa.shapeOf n : Int) (-1) 22 (-1) 0 0 0 0 0) (H0.alloc _) ?_
 clear H0
 intro v1 H1
 rw [rounds_succ]
 have dW : ∀ (Z : Obj) (i : Nat), (v1.alloc Z).cell? ⟨w.heap.size + 1, i, none⟩ = _ := fun Z => (blk_facts (blk_alloc Z H1.own)).1
 have fW : ∀ (Z : Obj) (i : Nat), (v1.alloc Z).frozen? ⟨w.heap.size + 1, i, none⟩ = false := fun Z => (blk_facts (blk_alloc Z H1.own)).2
 have n1 : w.heap.size + 1 ≠ v1.heap.size := Nat.ne_of_lt (blk_size H1.own)
 have n2 : v1.heap.size ≠ w.heap.size + 1 := Ne.symm n1
 go_wp2_with fail
 go_region
 all_goals (go_wp2_with fail)
 clear dW fW n1 n2
 refine rounds_world (Isa.DecW w w1 (n : Int) (Isa.nameOf n) 6 0 (Isa.shapeOf n : Int) (-1) 22 (-1) 0 0 A 0 0) (((H1.alloc _).setA hL _).drew) ?_
 clear H1
 intro v2 H2
 rw [rounds_succ]
 go_wp2_with fail
 refine rounds_world (Isa.DecW w w1 (n : Int) (Isa.nameOf n) 6 0 (Isa.shapeOf n : Int) (-1) 22 (-1) 0 0 A 0 0) (H2.alloc _) ?_
 clear H2
 intro v3 H3
 rw [rounds_succ]
 clear i0 i1 i2
 obtain ⟨rc, rf⟩ := blk_facts H3.res
 obtain ⟨oc, of⟩ := blk_facts H3.own
 have ic := (blk_facts H3.info).1
 have lc := (blk_facts H3.lay).1
 have HB := Lib.hid H3.bel
 by_cases hbit : 1 ≤ y1
 · have c0 : decide (1 ≤ y1) = true := by simpa using hbit
   have HO : Hid (Isa.decOut (n : Int) 6 0 0 A 0 y1 = (0, 0, 0, 0, 0, 103)) := by show _ = _; unfold Isa.decOut; rw [if_pos (by simpa [Isa.bits, Isa.layN] using hbit)]
   clear hbit
   go_wp2_with fail
   refine bodyPost_ret (v := .tuple #[.agg #[.int .i64 0, .int .u8 0, .int .u8 0, .int .u8 0, .int .i32 0], .int .i64 103]) (by simp [results, Tryz.results36, go_sem, rc]) rfl ⟨by rw [HO.out], ?_⟩
   repeat (first | (with_reducible exact HB.out) | refine Below.setCell ?_ (by first | exact Nat.le_refl _ | exact Nat.le_succ _) _ | refine Below.drew ?_ | refine below_drewN' ?_ _ | refine below_alloc' ?_ _)
 · have c0 : decide (1 ≤ y1) = false := by simpa using hbit
   have hbit1 : y1 ≤ 0 := by omega
   by_cases hF : Isa.fits 6 0 (y1) = true
   · have hF : Isa.fits 6 0 (y1) = true := by simpa using hF
     have HO : Hid (Isa.decOut (n : Int) 6 0 0 A 0 y1 = ((n : Int), 0, A, 0, y1, 0)) := by show _ = _; unfold Isa.decOut; rw [if_neg (by simpa [Isa.bits, Isa.layN] using hbit)]; rw [if_neg (fun hh => absurd hh.1 (by decide))]; rw [if_pos (by simpa [Isa.bits, Isa.layN] using hF)] <;> rfl
     have HF := Lib.hid hF
     clear hF hbit
     go_wp2_with fail
     refine (fits_at _ 6 6 rfl 0 _ _ _ ?hl (by decide) (by decide)).mono ?_
     case hl => exact H3.laid
     rintro e v4 ⟨rfl, hb4⟩
     have hF := HF.out
     have H4 := H3.below hb4
     clear rc rf oc of ic lc
     obtain ⟨rc, rf⟩ := blk_facts H4.res
     obtain ⟨oc, of⟩ := blk_facts H4.own
     have HB4 := Lib.hid H4.bel
     go_wp2_with fail
     refine bodyPost_ret (v := .tuple #[.agg #[.int .i64 (n : Int), .int .u8 0, .int .u8 A, .int .u8 0, .int .i32 (y1)], .int .i64 0]) (by simp [results, Tryz.results36, go_sem, rc, oc]) rfl ⟨by rw [HO.out], ?_⟩
     repeat (first | (with_reducible exact HB4.out) | refine Below.setCell ?_ (by first | exact Nat.le_refl _ | exact Nat.le_succ _) _ | refine Below.drew ?_ | refine below_drewN' ?_ _ | refine below_alloc' ?_ _)
   · have hF : Isa.fits 6 0 (y1) = false := by simpa using hF
     have HO : Hid (Isa.decOut (n : Int) 6 0 0 A 0 y1 = (0, 0, 0, 0, 0, 102)) := by show _ = _; unfold Isa.decOut; rw [if_neg (by simpa [Isa.bits, Isa.layN] using hbit)]; rw [if_neg (fun hh => absurd hh.1 (by decide))]; rw [if_neg (by simpa [Isa.bits, Isa.layN] using hF)] <;> rfl
     have HF := Lib.hid hF
     clear hF hbit
     go_wp2_with fail
     refine (fits_at _ 6 6 rfl 0 _ _ _ ?hl (by decide) (by decide)).mono ?_
     case hl => exact H3.laid
     rintro e v4 ⟨rfl, hb4⟩
     have hF := HF.out
     have H4 := H3.below hb4
     clear rc rf oc of ic lc
     obtain ⟨rc, rf⟩ := blk_facts H4.res
     obtain ⟨oc, of⟩ := blk_facts H4.own
     have HB4 := Lib.hid H4.bel
     go_wp2_with fail
     refine bodyPost_ret (v := .tuple #[.agg #[.int .i64 0, .int .u8 0, .int .u8 0, .int .u8 0, .int .i32 0], .int .i64 102]) (by simp [results, Tryz.results36, go_sem, rc]) rfl ⟨by rw [HO.out], ?_⟩
     repeat (first | (with_reducible exact HB4.out) | refine Below.setCell ?_ (by first | exact Nat.le_refl _ | exact Nat.le_succ _) _ | refine Below.drew ?_ | refine below_drewN' ?_ _ | refine below_alloc' ?_ _)
end Go.Proofs.YtabmlbnnhhpaoaaGreatDoor
set_option maxHeartbeats 8000000
set_option maxRecDepth 100000
namespace Go.Proofs.YtabmlbnnhhpaoaaGreatDoor
open Go.RowKit
theorem dec_7_2 (n : Nat) (h1 : 1 ≤ n) (h2 : n < 49) (hf : (Isa.formOf n : Int) = 7) (hn : (Isa.numOf n : Int) = 2) (x : Int) (hx0 : 0 ≤ x) (hx1 : x ≤ 4294967295) (hx : x / 67108864 = (n : Int)) (y0 : Int) (hy : bits BinOp.and IntKind.u32 x 67108863 = y0) (hy00 : 0 ≤ y0) (hy01 : y0 ≤ 67108863)
 (w : World) (hL : Isa.Laid w) : Calls Tryz.prog 36 #[.int .u32 x] w (Isa.DecPost (Isa.decOut (n : Int) 7 2 0 0 0 y0) w) := by
 have i0 := fun W => (index_threeP (.pointer (some ⟨w.heap.size + 1, 1, none⟩)) (.pointer (some ⟨w.heap.size + 1, 2, none⟩)) (.pointer (some ⟨w.heap.size + 1, 3, none⟩)) (-1) (-1) (-1) W).1
 have i1 := fun W => (index_threeP (.pointer (some ⟨w.heap.size + 1, 1, none⟩)) (.pointer (some ⟨w.heap.size + 1, 2, none⟩)) (.pointer (some ⟨w.heap.size + 1, 3, none⟩)) (-1) (-1) (-1) W).2.1
 have i2 := fun W => (index_threeP (.pointer (some ⟨w.heap.size + 1, 1, none⟩)) (.pointer (some ⟨w.heap.size + 1, 2, none⟩)) (.pointer (some ⟨w.heap.size + 1, 3, none⟩)) (-1) (-1) (-1) W).2.2
 have hxn : IntKind.i64.wrap (x / 67108864) = (n : Int) := by rw [hx]; exact IntWalk.i64_in _ (by omega)
 have hsh := (Isa.table_facts ⟨n, h2⟩).2.2.2.2
 go_enter Tryz.func36, Tryz.ntmps36
 go_wp2_with fail
 refine (of_at2 n h1 h2 7 2 hf hn _).mono ?_
 rintro e w1 ⟨rfl, hb1⟩
 have hL1 := ((hL.alloc _).alloc _).below hb1
 have k0 := blk_keep hb1 (blk_alloc _ (heap_alloc_new _ _))
 have k1 := blk_keep hb1 (heap_alloc2_new _ _ _)
 obtain ⟨d0, f0⟩ := blk_facts k0
 obtain ⟨d1, f1⟩ := blk_facts k1
 have z1 := blk_size k1
 have z1k : ∀ k, w.heap.size + 1 < w1.heap.size + k := fun k => by omega
 obtain ⟨l1, l2, l3, l4⟩ := hL1.cells 7 (by omega)
 simp only [Isa.atD, Isa.atA, Isa.atB, Isa.bits, Isa.layD, Isa.layA, Isa.layB, Isa.layN, List.getD_cons_succ, List.getD_cons_zero, Nat.reduceMul, Nat.reduceAdd, Int.cast_ofNat_Int] at l1 l2 l3 l4
 have z0 := hL1.lt
 have HB1 := Lib.hid (below_next (below_alloc' (below_alloc' (Below.refl _ _) _) _) hb1)
 go_wp2_with fail
 refine wp_loop_rounds 4 ?_
 refine rounds_world (Isa.DecW w w1 (n : Int) (Isa.nameOf n) 7 2 (Isa.shapeOf n : Int) (-1) (-1) (-1) 26 0 0 0 0) ⟨blk_alloc _ (blk_alloc _ k0), blk_alloc _ (blk_alloc _ k1), blk_alloc _ (heap_alloc_new _ _), heap_alloc2_new _ _ _, (hL1.alloc _).alloc _, below_alloc' (below_alloc' HB1.out _) _, z1⟩ ?_
 clear l1 l2 l3 l4 d0 f0 d1 f1 k0 k1 HB1 hb1 z1k z0 hL1
 intro v0 H0
 rw [rounds_succ]
 go_wp2_with fail
 refine rounds_world (Isa.DecW w w1 (n : Int) (Isa.nameOf n) 7 2 (Isa.shapeOf n : Int) (-1) (-1) (-1) 26 0 0 0 0) (H0.alloc _) ?_
 clear H0
 intro v1 H1
 rw [rounds_succ]
 go_wp2_with fail
 refine rounds_world (Isa.DecW w w1 (n : Int) (Isa.nameOf n) 7 2 (Isa.shapeOf n : Int) (-1) (-1) (-1) 26 0 0 0 0) (H1.alloc _) ?_
 clear H1
 intro v2 H2
 rw [rounds_succ]
 go_wp2_with fail
 refine rounds_world (Isa.DecW w w1 (n : Int) (Isa.nameOf n) 7 2 (Isa.shapeOf n : Int) (-1) (-1) (-1) 26 0 0 0 0) (H2.alloc _) ?_
 clear H2
 intro v3 H3
 rw [rounds_succ]
 clear i0 i1 i2
 obtain ⟨rc, rf⟩ := blk_facts H3.res
 obtain ⟨oc, of⟩ := blk_facts H3.own
 have ic := (blk_facts H3.info).1
 have lc := (blk_facts H3.lay).1
 have HB := Lib.hid H3.bel
 by_cases hbit : 67108864 ≤ y0
 · have c0 : decide (67108864 ≤ y0) = true := by simpa using hbit
   have HO : Hid (Isa.decOut (n : Int) 7 2 0 0 0 y0 = (0, 0, 0, 0, 0, 103)) := by show _ = _; unfold Isa.decOut; rw [if_pos (by simpa [Isa.bits, Isa.layN] using hbit)]
   clear hbit
   go_wp2_with fail
   refine bodyPost_ret (v := .tuple #[.agg #[.int .i64 0, .int .u8 0, .int .u8 0, .int .u8 0, .int .i32 0], .int .i64 103]) (by simp [results, Tryz.results36, go_sem, rc]) rfl ⟨by rw [HO.out], ?_⟩
   repeat (first | (with_reducible exact HB.out) | refine Below.setCell ?_ (by first | exact Nat.le_refl _ | exact Nat.le_succ _) _ | refine Below.drew ?_ | refine below_drewN' ?_ _ | refine below_alloc' ?_ _)
 · have c0 : decide (67108864 ≤ y0) = false := by simpa using hbit
   have hbit1 : y0 ≤ 67108863 := by omega
   by_cases hF : Isa.fits 7 2 (y0) = true
   · have hF : Isa.fits 7 2 (y0) = true := by simpa using hF
     have HO : Hid (Isa.decOut (n : Int) 7 2 0 0 0 y0 = ((n : Int), 0, 0, 0, y0, 0)) := by show _ = _; unfold Isa.decOut; rw [if_neg (by simpa [Isa.bits, Isa.layN] using hbit)]; rw [if_neg (fun hh => absurd hh.1 (by decide))]; rw [if_pos (by simpa [Isa.bits, Isa.layN] using hF)] <;> rfl
     have HF := Lib.hid hF
     clear hF hbit
     go_wp2_with fail
     refine (fits_at _ 7 7 rfl 2 _ _ _ ?hl (by decide) (by decide)).mono ?_
     case hl => exact H3.laid
     rintro e v4 ⟨rfl, hb4⟩
     have hF := HF.out
     have H4 := H3.below hb4
     clear rc rf oc of ic lc
     obtain ⟨rc, rf⟩ := blk_facts H4.res
     obtain ⟨oc, of⟩ := blk_facts H4.own
     have HB4 := Lib.hid H4.bel
     go_wp2_with fail
     refine bodyPost_ret (v := .tuple #[.agg #[.int .i64 (n : Int), .int .u8 0, .int .u8 0, .int .u8 0, .int .i32 (y0)], .int .i64 0]) (by simp [results, Tryz.results36, go_sem, rc, oc]) rfl ⟨by rw [HO.out], ?_⟩
     repeat (first | (with_reducible exact HB4.out) | refine Below.setCell ?_ (by first | exact Nat.le_refl _ | exact Nat.le_succ _) _ | refine Below.drew ?_ | refine below_drewN' ?_ _ | refine below_alloc' ?_ _)
   · have hF : Isa.fits 7 2 (y0) = false := by simpa using hF
     have HO : Hid (Isa.decOut (n : Int) 7 2 0 0 0 y0 = (0, 0, 0, 0, 0, 102)) := by show _ = _; unfold Isa.decOut; rw [if_neg (by simpa [Isa.bits, Isa.layN] using hbit)]; rw [if_neg (fun hh => absurd hh.1 (by decide))]; rw [if_neg (by simpa [Isa.bits, Isa.layN] using hF)] <;> rfl
     have HF := Lib.hid hF
     clear hF hbit
     go_wp2_with fail
     refine (fits_at _ 7 7 rfl 2 _ _ _ ?hl (by decide) (by decide)).mono ?_
     case hl => exact H3.laid
     rintro e v4 ⟨rfl, hb4⟩
     have hF := HF.out
     have H4 := H3.below hb4
     clear rc rf oc of ic lc
     obtain ⟨rc, rf⟩ := blk_facts H4.res
     obtain ⟨oc, of⟩ := blk_facts H4.own
     have HB4 := Lib.hid H4.bel
     go_wp2_with fail
     refine bodyPost_ret (v := .tuple #[.agg #[.int .i64 0, .int .u8 0, .int .u8 0, .int .u8 0, .int .i32 0], .int .i64 102]) (by simp [results, Tryz.results36, go_sem, rc]) rfl ⟨by rw [HO.out], ?_⟩
     repeat (first | (with_reducible exact HB4.out) | refine Below.setCell ?_ (by first | exact Nat.le_refl _ | exact Nat.le_succ _) _ | refine Below.drew ?_ | refine below_drewN' ?_ _ | refine below_alloc' ?_ _)
theorem dec_8_0 (n : Nat) (h1 : 1 ≤ n) (h2 : n < 49) (hf : (Isa.formOf n : Int) = 8) (hn : (Isa.numOf n : Int) = 0) (x : Int) (hx0 : 0 ≤ x) (hx1 : x ≤ 4294967295) (hx : x / 67108864 = (n : Int)) (y0 : Int) (hy : bits BinOp.and IntKind.u32 x 67108863 = y0) (hy00 : 0 ≤ y0) (hy01 : y0 ≤ 67108863)
 (w : World) (hL : Isa.Laid w) : Calls Tryz.prog 36 #[.int .u32 x] w (Isa.DecPost (Isa.decOut (n : Int) 8 0 0 0 0 y0) w) := by
 have i0 := fun W => (index_threeP (.pointer (some ⟨w.heap.size + 1, 1, none⟩)) (.pointer (some ⟨w.heap.size + 1, 2, none⟩)) (.pointer (some ⟨w.heap.size + 1, 3, none⟩)) (-1) (-1) (-1) W).1
 have i1 := fun W => (index_threeP (.pointer (some ⟨w.heap.size + 1, 1, none⟩)) (.pointer (some ⟨w.heap.size + 1, 2, none⟩)) (.pointer (some ⟨w.heap.size + 1, 3, none⟩)) (-1) (-1) (-1) W).2.1
 have i2 := fun W => (index_threeP (.pointer (some ⟨w.heap.size + 1, 1, none⟩)) (.pointer (some ⟨w.heap.size + 1, 2, none⟩)) (.pointer (some ⟨w.heap.size + 1, 3, none⟩)) (-1) (-1) (-1) W).2.2
 have hxn : IntKind.i64.wrap (x / 67108864) = (n : Int) := by rw [hx]; exact IntWalk.i64_in _ (by omega)
 have hsh := (Isa.table_facts ⟨n, h2⟩).2.2.2.2
 go_enter Tryz.func36, Tryz.ntmps36
 go_wp2_with fail
 refine (of_at2 n h1 h2 8 0 hf hn _).mono ?_
 rintro e w1 ⟨rfl, hb1⟩
 have hL1 := ((hL.alloc _).alloc _).below hb1
 have k0 := blk_keep hb1 (blk_alloc _ (heap_alloc_new _ _))
 have k1 := blk_keep hb1 (heap_alloc2_new _ _ _)
 obtain ⟨d0, f0⟩ := blk_facts k0
 obtain ⟨d1, f1⟩ := blk_facts k1
 have z1 := blk_size k1
 have z1k : ∀ k, w.heap.size + 1 < w1.heap.size + k := fun k => by omega
 obtain ⟨l1, l2, l3, l4⟩ := hL1.cells 8 (by omega)
 simp only [Isa.atD, Isa.atA, Isa.atB, Isa.bits, Isa.layD, Isa.layA, Isa.layB, Isa.layN, List.getD_cons_succ, List.getD_cons_zero, Nat.reduceMul, Nat.reduceAdd, Int.cast_ofNat_Int] at l1 l2 l3 l4
 have z0 := hL1.lt
 have HB1 := Lib.hid (below_next (below_alloc' (below_alloc' (Below.refl _ _) _) _) hb1)
 go_wp2_with fail
 refine wp_loop_rounds 4 ?_
 refine rounds_world (Isa.DecW w w1 (n : Int) (Isa.nameOf n) 8 0 (Isa.shapeOf n : Int) (-1) (-1) (-1) 0 0 0 0 0) ⟨blk_alloc _ (blk_alloc _ k0), blk_alloc _ (blk_alloc _ k1), blk_alloc _ (heap_alloc_new _ _), heap_alloc2_new _ _ _, (hL1.alloc _).alloc _, below_alloc' (below_alloc' HB1.out _) _, z1⟩ ?_
 clear l1 l2 l3 l4 d0 f0 d1 f1 k0 k1 HB1 hb1 z1k z0 hL1
 intro v0 H0
 rw [rounds_succ]
 go_wp2_with fail
 refine rounds_world (Isa.DecW w w1 (n : Int) (Isa.nameOf n) 8 0 (Isa.shapeOf n : Int) (-1) (-1) (-1) 0 0 0 0 0) (H0.alloc _) ?_
 clear H0
 intro v1 H1
 rw [rounds_succ]
 go_wp2_with fail
 refine rounds_world (Isa.DecW w w1 (n : Int) (Isa.nameOf n) 8 0 (Isa.shapeOf n : Int) (-1) (-1) (-1) 0 0 0 0 0) (H1.alloc _) ?_
 clear H1
 intro v2 H2
 rw [rounds_succ]
 go_wp2_with fail
 refine rounds_world (Isa.DecW w w1 (n : Int) (Isa.nameOf n) 8 0 (Isa.shapeOf n : Int) (-1) (-1) (-1) 0 0 0 0 0) (H2.alloc _) ?_
 clear H2
 intro v3 H3
 rw [rounds_succ]
 clear i0 i1 i2
 obtain ⟨rc, rf⟩ := blk_facts H3.res
 obtain ⟨oc, of⟩ := blk_facts H3.own
 have ic := (blk_facts H3.info).1
 have lc := (blk_facts H3.lay).1
 have HB := Lib.hid H3.bel
 by_cases hbit : 1 ≤ y0
 · have c0 : decide (1 ≤ y0) = true := by simpa using hbit
   have HO : Hid (Isa.decOut (n : Int) 8 0 0 0 0 y0 = (0, 0, 0, 0, 0, 103)) := by show _ = _; unfold Isa.decOut; rw [if_pos (by simpa [Isa.bits, Isa.layN] using hbit)]
   clear hbit
   go_wp2_with fail
   refine bodyPost_ret (v := .tuple #[.agg #[.int .i64 0, .int .u8 0, .int .u8 0, .int .u8 0, .int .i32 0], .int .i64 103]) (by simp [results, Tryz.results36, go_sem, rc]) rfl ⟨by rw [HO.out], ?_⟩
   repeat (first | (with_reducible exact HB.out) | refine Below.setCell ?_ (by first | exact Nat.le_refl _ | exact Nat.le_succ _) _ | refine Below.drew ?_ | refine below_drewN' ?_ _ | refine below_alloc' ?_ _)
 · have c0 : decide (1 ≤ y0) = false := by simpa using hbit
   have hbit1 : y0 ≤ 0 := by omega
   by_cases hF : Isa.fits 8 0 (y0) = true
   · have hF : Isa.fits 8 0 (y0) = true := by simpa using hF
     have HO : Hid (Isa.decOut (n : Int) 8 0 0 0 0 y0 = ((n : Int), 0, 0, 0, y0, 0)) := by show _ = _; unfold Isa.decOut; rw [if_neg (by simpa [Isa.bits, Isa.layN] using hbit)]; rw [if_neg (fun hh => absurd hh.1 (by decide))]; rw [if_pos (by simpa [Isa.bits, Isa.layN] using hF)] <;> rfl
     have HF := Lib.hid hF
     clear hF hbit
     go_wp2_with fail
     refine (fits_at _ 8 8 rfl 0 _ _ _ ?hl (by decide) (by decide)).mono ?_
     case hl => exact H3.laid
     rintro e v4 ⟨rfl, hb4⟩
     have hF := HF.out
     have H4 := H3.below hb4
     clear rc rf oc of ic lc
     obtain ⟨rc, rf⟩ := blk_facts H4.res
     obtain ⟨oc, of⟩ := blk_facts H4.own
     have HB4 := Lib.hid H4.bel
     go_wp2_with fail
     refine bodyPost_ret (v := .tuple #[.agg #[.int .i64 (n : Int), .int .u8 0, .int .u8 0, .int .u8 0, .int .i32 (y0)], .int .i64 0]) (by simp [results, Tryz.results36, go_sem, rc, oc]) rfl ⟨by rw [HO.out], ?_⟩
     repeat (first | (with_reducible exact HB4.out) | refine Below.setCell ?_ (by first | exact Nat.le_refl _ | exact Nat.le_succ _) _ | refine Below.drew ?_ | refine below_drewN' ?_ _ | refine below_alloc' ?_ _)
   · have hF : Isa.fits 8 0 (y0) = false := by simpa using hF
     have HO : Hid (Isa.decOut (n : Int) 8 0 0 0 0 y0 = (0, 0, 0, 0, 0, 102)) := by show _ = _; unfold Isa.decOut; rw [if_neg (by simpa [Isa.bits, Isa.layN] using hbit)]; rw [if_neg (fun hh => absurd hh.1 (by decide))]; rw [if_neg (by simpa [Isa.bits, Isa.layN] using hF)] <;> rfl
     have HF := Lib.hid hF
     clear hF hbit
     go_wp2_with fail
     refine (fits_at _ 8 8 rfl 0 _ _ _ ?hl (by decide) (by decide)).mono ?_
     case hl => exact H3.laid
     rintro e v4 ⟨rfl, hb4⟩
     have hF := HF.out
     have H4 := H3.below hb4
     clear rc rf oc of ic lc
     obtain ⟨rc, rf⟩ := blk_facts H4.res
     obtain ⟨oc, of⟩ := blk_facts H4.own
     have HB4 := Lib.hid H4.bel
     go_wp2_with fail
     refine bodyPost_ret (v := .tuple #[.agg #[.int .i64 0, .int .u8 0, .int .u8 0, .int .u8 0, .int .i32 0], .int .i64 102]) (by simp [results, Tryz.results36, go_sem, rc]) rfl ⟨by rw [HO.out], ?_⟩
     repeat (first | (with_reducible exact HB4.out) | refine Below.setCell ?_ (by first | exact Nat.le_refl _ | exact Nat.le_succ _) _ | refine Below.drew ?_ | refine below_drewN' ?_ _ | refine below_alloc' ?_ _)
end Go.Proofs.YtabmlbnnhhpaoaaGreatDoor
set_option maxHeartbeats 4000000
set_option maxRecDepth 100000
namespace Go.Proofs.YtabmlbnnhhpaoaaGreatDoor
open Go.RowKit
theorem dec_none (x : Int) (hx0 : 0 ≤ x) (hx1 : x ≤ 4294967295) (h : x / 67108864 < 1 ∨ 49 ≤ x / 67108864) (w : World) (hL : Isa.Laid w) :
 Calls Tryz.prog 36 #[.int .u32 x] w (Isa.DecPost (0, 0, 0, 0, 0, 100) w) := by
 obtain ⟨op, hop⟩ : ∃ op, x / 67108864 = op := ⟨_, rfl⟩
 rw [hop] at h
 have hO := Lib.hid h
 clear h
 have hb0 : 0 ≤ op := by omega
 have hb1 : op ≤ 63 := by omega
 go_enter Tryz.func36, Tryz.ntmps36
 go_wp2_with fail
 refine (of_none op hO.out _).mono ?_
 rintro e w1 ⟨rfl, hb1⟩
 have k0 := blk_keep hb1 (blk_alloc _ (heap_alloc_new _ _))
 obtain ⟨d0, f0⟩ := blk_facts k0
 have z1 := blk_size k0
 have z1k : ∀ k, w.heap.size < w1.heap.size + k := fun k => by omega
 have HB1 := Lib.hid (below_next (below_alloc' (below_alloc' (Below.refl _ _) _) _) hb1)
 go_wp2_with fail
 refine bodyPost_ret (v := .tuple #[.agg #[.int .i64 0, .int .u8 0, .int .u8 0, .int .u8 0, .int .i32 0], .int .i64 100]) (by simp [results, Tryz.results36, go_sem, d0, z1]) rfl ⟨rfl, ?_⟩
 repeat (first | (with_reducible exact HB1.out) | refine Below.setCell ?_ (by first | exact Nat.le_refl _ | exact Nat.le_succ _) _ | refine Below.drew ?_ | refine below_drewN' ?_ _ | refine below_alloc' ?_ _)
def Isa.high (at_ y : Int) : Int := if 0 ≤ at_ then y / 2 ^ at_.toNat else 0
def Isa.rest (at_ y : Int) : Int := if 0 ≤ at_ then y % 2 ^ at_.toNat else y
def Isa.decF (f nu : Nat) (n y : Int) : Int × Int × Int × Int × Int × Int :=
 Isa.decOut n f nu (Isa.high (Isa.atD f) y) (Isa.high (Isa.atA f) (Isa.rest (Isa.atD f) y)) (Isa.high (Isa.atB f) (Isa.rest (Isa.atA f) (Isa.rest (Isa.atD f) y))) (Isa.rest (Isa.atB f) (Isa.rest (Isa.atA f) (Isa.rest (Isa.atD f) y)))
def Isa.dec (x : Int) : Int × Int × Int × Int × Int × Int :=
 if x / 67108864 < 1 ∨ 49 ≤ x / 67108864 then (0, 0, 0, 0, 0, 100) else Isa.decF (Isa.formOf (x / 67108864).toNat) (Isa.numOf (x / 67108864).toNat) (x / 67108864) (x % 67108864)
theorem dec_form1_0 (n : Nat) (h1 : 1 ≤ n) (h2 : n < 49) (hf : Isa.formOf n = 1) (hn : Isa.numOf n = 0) (x : Int) (hx0 : 0 ≤ x) (hx1 : x ≤ 4294967295) (hx : x / 67108864 = (n : Int)) (w : World) (hL : Isa.Laid w) :
 Calls Tryz.prog 36 #[.int .u32 x] w (Isa.DecPost (Isa.decF 1 0 (n : Int) (x % 67108864)) w) := by
 have hf' : (Isa.formOf n : Int) = 1 := by rw [hf]; rfl
 have hn' : (Isa.numOf n : Int) = 0 := by rw [hn]; rfl
 have hy : bits BinOp.and IntKind.u32 x 67108863 = x % 67108864 := u32_mask 26 (by decide) x hx0 (by omega)
 have hDa : bits BinOp.and IntKind.u32 ((x % 67108864) / 4194304) 15 = (x % 67108864) / 4194304 := by
  rw [show (15 : Int) = 2 ^ 4 - 1 from rfl, u32_mask 4 (by decide) _ (by omega) (by omega)]
  omega
 have hs1 : bits BinOp.andNot IntKind.u32 (x % 67108864) 62914560 = (x % 67108864) % 4194304 := u32_strike 22 (by decide) (x % 67108864) 62914560 (by omega) (by omega) (by decide) (by decide) (by decide)
 have hAa : bits BinOp.and IntKind.u32 (((x % 67108864) % 4194304) / 262144) 15 = ((x % 67108864) % 4194304) / 262144 := by
  rw [show (15 : Int) = 2 ^ 4 - 1 from rfl, u32_mask 4 (by decide) _ (by omega) (by omega)]
  omega
 have hs2 : bits BinOp.andNot IntKind.u32 ((x % 67108864) % 4194304) 3932160 = ((x % 67108864) % 4194304) % 262144 := u32_strike 18 (by decide) ((x % 67108864) % 4194304) 3932160 (by omega) (by omega) (by decide) (by decide) (by decide)
 have hBa : bits BinOp.and IntKind.u32 ((((x % 67108864) % 4194304) % 262144) / 16384) 15 = (((x % 67108864) % 4194304) % 262144) / 16384 := by
  rw [show (15 : Int) = 2 ^ 4 - 1 from rfl, u32_mask 4 (by decide) _ (by omega) (by omega)]
  omega
 have hs3 : bits BinOp.andNot IntKind.u32 (((x % 67108864) % 4194304) % 262144) 245760 = (((x % 67108864) % 4194304) % 262144) % 16384 := u32_strike 14 (by decide) (((x % 67108864) % 4194304) % 262144) 245760 (by omega) (by omega) (by decide) (by decide) (by decide)
 have e : Isa.decF 1 0 (n : Int) (x % 67108864) = Isa.decOut (n : Int) 1 0 ((x % 67108864) / 4194304) (((x % 67108864) % 4194304) / 262144) ((((x % 67108864) % 4194304) % 262144) / 16384) ((((x % 67108864) % 4194304) % 262144) % 16384) := by
  simp [Isa.decF, Isa.high, Isa.rest, Isa.atD, Isa.atA, Isa.atB, Isa.layD, Isa.layA, Isa.layB]
 rw [e]
 exact dec_1_0 n h1 h2 hf' hn' x hx0 hx1 hx (x % 67108864) hy (by omega) (by omega) ((x % 67108864) / 4194304) rfl (by omega) (by omega) hDa ((x % 67108864) % 4194304) hs1 (by omega) (by omega) (((x % 67108864) % 4194304) / 262144) rfl (by omega) (by omega) hAa (((x % 67108864) % 4194304) % 262144) hs2 (by omega) (by omega) ((((x % 67108864) % 4194304) % 262144) / 16384) rfl (by omega) (by omega) hBa ((((x % 67108864) % 4194304) % 262144) % 16384) hs3 (by omega) (by omega) w hL
theorem dec_form2_1 (n : Nat) (h1 : 1 ≤ n) (h2 : n < 49) (hf : Isa.formOf n = 2) (hn : Isa.numOf n = 1) (x : Int) (hx0 : 0 ≤ x) (hx1 : x ≤ 4294967295) (hx : x / 67108864 = (n : Int)) (w : World) (hL : Isa.Laid w) :
 Calls Tryz.prog 36 #[.int .u32 x] w (Isa.DecPost (Isa.decF 2 1 (n : Int) (x % 67108864)) w) := by
 have hf' : (Isa.formOf n : Int) = 2 := by rw [hf]; rfl
 have hn' : (Isa.numOf n : Int) = 1 := by rw [hn]; rfl
 have hy : bits BinOp.and IntKind.u32 x 67108863 = x % 67108864 := u32_mask 26 (by decide) x hx0 (by omega)
 have hDa : bits BinOp.and IntKind.u32 ((x % 67108864) / 4194304) 15 = (x % 67108864) / 4194304 := by
  rw [show (15 : Int) = 2 ^ 4 - 1 from rfl, u32_mask 4 (by decide) _ (by omega) (by omega)]
  omega
 have hs1 : bits BinOp.andNot IntKind.u32 (x % 67108864) 62914560 = (x % 67108864) % 4194304 := u32_strike 22 (by decide) (x % 67108864) 62914560 (by omega) (by omega) (by decide) (by decide) (by decide)
 have hAa : bits BinOp.and IntKind.u32 (((x % 67108864) % 4194304) / 262144) 15 = ((x % 67108864) % 4194304) / 262144 := by
  rw [show (15 : Int) = 2 ^ 4 - 1 from rfl, u32_mask 4 (by decide) _ (by omega) (by omega)]
  omega
 have hs2 : bits BinOp.andNot IntKind.u32 ((x % 67108864) % 4194304) 3932160 = ((x % 67108864) % 4194304) % 262144 := u32_strike 18 (by decide) ((x % 67108864) % 4194304) 3932160 (by omega) (by omega) (by decide) (by decide) (by decide)
 have e : Isa.decF 2 1 (n : Int) (x % 67108864) = Isa.decOut (n : Int) 2 1 ((x % 67108864) / 4194304) (((x % 67108864) % 4194304) / 262144) 0 (((x % 67108864) % 4194304) % 262144) := by
  simp [Isa.decF, Isa.high, Isa.rest, Isa.atD, Isa.atA, Isa.atB, Isa.layD, Isa.layA, Isa.layB]
 rw [e]
 exact dec_2_1 n h1 h2 hf' hn' x hx0 hx1 hx (x % 67108864) hy (by omega) (by omega) ((x % 67108864) / 4194304) rfl (by omega) (by omega) hDa ((x % 67108864) % 4194304) hs1 (by omega) (by omega) (((x % 67108864) % 4194304) / 262144) rfl (by omega) (by omega) hAa (((x % 67108864) % 4194304) % 262144) hs2 (by omega) (by omega) w hL
theorem dec_form2_2 (n : Nat) (h1 : 1 ≤ n) (h2 : n < 49) (hf : Isa.formOf n = 2) (hn : Isa.numOf n = 2) (x : Int) (hx0 : 0 ≤ x) (hx1 : x ≤ 4294967295) (hx : x / 67108864 = (n : Int)) (w : World) (hL : Isa.Laid w) :
 Calls Tryz.prog 36 #[.int .u32 x] w (Isa.DecPost (Isa.decF 2 2 (n : Int) (x % 67108864)) w) := by
 have hf' : (Isa.formOf n : Int) = 2 := by rw [hf]; rfl
 have hn' : (Isa.numOf n : Int) = 2 := by rw [hn]; rfl
 have hy : bits BinOp.and IntKind.u32 x 67108863 = x % 67108864 := u32_mask 26 (by decide) x hx0 (by omega)
 have hDa : bits BinOp.and IntKind.u32 ((x % 67108864) / 4194304) 15 = (x % 67108864) / 4194304 := by
  rw [show (15 : Int) = 2 ^ 4 - 1 from rfl, u32_mask 4 (by decide) _ (by omega) (by omega)]
  omega
 have hs1 : bits BinOp.andNot IntKind.u32 (x % 67108864) 62914560 = (x % 67108864) % 4194304 := u32_strike 22 (by decide) (x % 67108864) 62914560 (by omega) (by omega) (by decide) (by decide) (by decide)
 have hAa : bits BinOp.and IntKind.u32 (((x % 67108864) % 4194304) / 262144) 15 = ((x % 67108864) % 4194304) / 262144 := by
  rw [show (15 : Int) = 2 ^ 4 - 1 from rfl, u32_mask 4 (by decide) _ (by omega) (by omega)]
  omega
 have hs2 : bits BinOp.andNot IntKind.u32 ((x % 67108864) % 4194304) 3932160 = ((x % 67108864) % 4194304) % 262144 := u32_strike 18 (by decide) ((x % 67108864) % 4194304) 3932160 (by omega) (by omega) (by decide) (by decide) (by decide)
 have e : Isa.decF 2 2 (n : Int) (x % 67108864) = Isa.decOut (n : Int) 2 2 ((x % 67108864) / 4194304) (((x % 67108864) % 4194304) / 262144) 0 (((x % 67108864) % 4194304) % 262144) := by
  simp [Isa.decF, Isa.high, Isa.rest, Isa.atD, Isa.atA, Isa.atB, Isa.layD, Isa.layA, Isa.layB]
 rw [e]
 exact dec_2_2 n h1 h2 hf' hn' x hx0 hx1 hx (x % 67108864) hy (by omega) (by omega) ((x % 67108864) / 4194304) rfl (by omega) (by omega) hDa ((x % 67108864) % 4194304) hs1 (by omega) (by omega) (((x % 67108864) % 4194304) / 262144) rfl (by omega) (by omega) hAa (((x % 67108864) % 4194304) % 262144) hs2 (by omega) (by omega) w hL
theorem dec_form2_3 (n : Nat) (h1 : 1 ≤ n) (h2 : n < 49) (hf : Isa.formOf n = 2) (hn : Isa.numOf n = 3) (x : Int) (hx0 : 0 ≤ x) (hx1 : x ≤ 4294967295) (hx : x / 67108864 = (n : Int)) (w : World) (hL : Isa.Laid w) :
 Calls Tryz.prog 36 #[.int .u32 x] w (Isa.DecPost (Isa.decF 2 3 (n : Int) (x % 67108864)) w) := by
 have hf' : (Isa.formOf n : Int) = 2 := by rw [hf]; rfl
 have hn' : (Isa.numOf n : Int) = 3 := by rw [hn]; rfl
 have hy : bits BinOp.and IntKind.u32 x 67108863 = x % 67108864 := u32_mask 26 (by decide) x hx0 (by omega)
 have hDa : bits BinOp.and IntKind.u32 ((x % 67108864) / 4194304) 15 = (x % 67108864) / 4194304 := by
  rw [show (15 : Int) = 2 ^ 4 - 1 from rfl, u32_mask 4 (by decide) _ (by omega) (by omega)]
  omega
 have hs1 : bits BinOp.andNot IntKind.u32 (x % 67108864) 62914560 = (x % 67108864) % 4194304 := u32_strike 22 (by decide) (x % 67108864) 62914560 (by omega) (by omega) (by decide) (by decide) (by decide)
 have hAa : bits BinOp.and IntKind.u32 (((x % 67108864) % 4194304) / 262144) 15 = ((x % 67108864) % 4194304) / 262144 := by
  rw [show (15 : Int) = 2 ^ 4 - 1 from rfl, u32_mask 4 (by decide) _ (by omega) (by omega)]
  omega
 have hs2 : bits BinOp.andNot IntKind.u32 ((x % 67108864) % 4194304) 3932160 = ((x % 67108864) % 4194304) % 262144 := u32_strike 18 (by decide) ((x % 67108864) % 4194304) 3932160 (by omega) (by omega) (by decide) (by decide) (by decide)
 have e : Isa.decF 2 3 (n : Int) (x % 67108864) = Isa.decOut (n : Int) 2 3 ((x % 67108864) / 4194304) (((x % 67108864) % 4194304) / 262144) 0 (((x % 67108864) % 4194304) % 262144) := by
  simp [Isa.decF, Isa.high, Isa.rest, Isa.atD, Isa.atA, Isa.atB, Isa.layD, Isa.layA, Isa.layB]
 rw [e]
 exact dec_2_3 n h1 h2 hf' hn' x hx0 hx1 hx (x % 67108864) hy (by omega) (by omega) ((x % 67108864) / 4194304) rfl (by omega) (by omega) hDa ((x % 67108864) % 4194304) hs1 (by omega) (by omega) (((x % 67108864) % 4194304) / 262144) rfl (by omega) (by omega) hAa (((x % 67108864) % 4194304) % 262144) hs2 (by omega) (by omega) w hL
theorem dec_form3_1 (n : Nat) (h1 : 1 ≤ n) (h2 : n < 49) (hf : Isa.formOf n = 3) (hn : Isa.numOf n = 1) (x : Int) (hx0 : 0 ≤ x) (hx1 : x ≤ 4294967295) (hx : x / 67108864 = (n : Int)) (w : World) (hL : Isa.Laid w) :
 Calls Tryz.prog 36 #[.int .u32 x] w (Isa.DecPost (Isa.decF 3 1 (n : Int) (x % 67108864)) w) := by
 have hf' : (Isa.formOf n : Int) = 3 := by rw [hf]; rfl
 have hn' : (Isa.numOf n : Int) = 1 := by rw [hn]; rfl
 have hy : bits BinOp.and IntKind.u32 x 67108863 = x % 67108864 := u32_mask 26 (by decide) x hx0 (by omega)
 have hAa : bits BinOp.and IntKind.u32 ((x % 67108864) / 4194304) 15 = (x % 67108864) / 4194304 := by
  rw [show (15 : Int) = 2 ^ 4 - 1 from rfl, u32_mask 4 (by decide) _ (by omega) (by omega)]
  omega
 have hs1 : bits BinOp.andNot IntKind.u32 (x % 67108864) 62914560 = (x % 67108864) % 4194304 := u32_strike 22 (by decide) (x % 67108864) 62914560 (by omega) (by omega) (by decide) (by decide) (by decide)
 have hBa : bits BinOp.and IntKind.u32 (((x % 67108864) % 4194304) / 262144) 15 = ((x % 67108864) % 4194304) / 262144 := by
  rw [show (15 : Int) = 2 ^ 4 - 1 from rfl, u32_mask 4 (by decide) _ (by omega) (by omega)]
  omega
 have hs2 : bits BinOp.andNot IntKind.u32 ((x % 67108864) % 4194304) 3932160 = ((x % 67108864) % 4194304) % 262144 := u32_strike 18 (by decide) ((x % 67108864) % 4194304) 3932160 (by omega) (by omega) (by decide) (by decide) (by decide)
 have e : Isa.decF 3 1 (n : Int) (x % 67108864) = Isa.decOut (n : Int) 3 1 0 ((x % 67108864) / 4194304) (((x % 67108864) % 4194304) / 262144) (((x % 67108864) % 4194304) % 262144) := by
  simp [Isa.decF, Isa.high, Isa.rest, Isa.atD, Isa.atA, Isa.atB, Isa.layD, Isa.layA, Isa.layB]
 rw [e]
 exact dec_3_1 n h1 h2 hf' hn' x hx0 hx1 hx (x % 67108864) hy (by omega) (by omega) ((x % 67108864) / 4194304) rfl (by omega) (by omega) hAa ((x % 67108864) % 4194304) hs1 (by omega) (by omega) (((x % 67108864) % 4194304) / 262144) rfl (by omega) (by omega) hBa (((x % 67108864) % 4194304) % 262144) hs2 (by omega) (by omega) w hL
theorem dec_form4_1 (n : Nat) (h1 : 1 ≤ n) (h2 : n < 49) (hf : Isa.formOf n = 4) (hn : Isa.numOf n = 1) (x : Int) (hx0 : 0 ≤ x) (hx1 : x ≤ 4294967295) (hx : x / 67108864 = (n : Int)) (w : World) (hL : Isa.Laid w) :
 Calls Tryz.prog 36 #[.int .u32 x] w (Isa.DecPost (Isa.decF 4 1 (n : Int) (x % 67108864)) w) := by
 have hf' : (Isa.formOf n : Int) = 4 := by rw [hf]; rfl
 have hn' : (Isa.numOf n : Int) = 1 := by rw [hn]; rfl
 have hy : bits BinOp.and IntKind.u32 x 67108863 = x % 67108864 := u32_mask 26 (by decide) x hx0 (by omega)
 have hDa : bits BinOp.and IntKind.u32 ((x % 67108864) / 4194304) 15 = (x % 67108864) / 4194304 := by
  rw [show (15 : Int) = 2 ^ 4 - 1 from rfl, u32_mask 4 (by decide) _ (by omega) (by omega)]
  omega
 have hs1 : bits BinOp.andNot IntKind.u32 (x % 67108864) 62914560 = (x % 67108864) % 4194304 := u32_strike 22 (by decide) (x % 67108864) 62914560 (by omega) (by omega) (by decide) (by decide) (by decide)
 have e : Isa.decF 4 1 (n : Int) (x % 67108864) = Isa.decOut (n : Int) 4 1 ((x % 67108864) / 4194304) 0 0 ((x % 67108864) % 4194304) := by
  simp [Isa.decF, Isa.high, Isa.rest, Isa.atD, Isa.atA, Isa.atB, Isa.layD, Isa.layA, Isa.layB]
 rw [e]
 exact dec_4_1 n h1 h2 hf' hn' x hx0 hx1 hx (x % 67108864) hy (by omega) (by omega) ((x % 67108864) / 4194304) rfl (by omega) (by omega) hDa ((x % 67108864) % 4194304) hs1 (by omega) (by omega) w hL
theorem dec_form4_2 (n : Nat) (h1 : 1 ≤ n) (h2 : n < 49) (hf : Isa.formOf n = 4) (hn : Isa.numOf n = 2) (x : Int) (hx0 : 0 ≤ x) (hx1 : x ≤ 4294967295) (hx : x / 67108864 = (n : Int)) (w : World) (hL : Isa.Laid w) :
 Calls Tryz.prog 36 #[.int .u32 x] w (Isa.DecPost (Isa.decF 4 2 (n : Int) (x % 67108864)) w) := by
 have hf' : (Isa.formOf n : Int) = 4 := by rw [hf]; rfl
 have hn' : (Isa.numOf n : Int) = 2 := by rw [hn]; rfl
 have hy : bits BinOp.and IntKind.u32 x 67108863 = x % 67108864 := u32_mask 26 (by decide) x hx0 (by omega)
 have hDa : bits BinOp.and IntKind.u32 ((x % 67108864) / 4194304) 15 = (x % 67108864) / 4194304 := by
  rw [show (15 : Int) = 2 ^ 4 - 1 from rfl, u32_mask 4 (by decide) _ (by omega) (by omega)]
  omega
 have hs1 : bits BinOp.andNot IntKind.u32 (x % 67108864) 62914560 = (x % 67108864) % 4194304 := u32_strike 22 (by decide) (x % 67108864) 62914560 (by omega) (by omega) (by decide) (by decide) (by decide)
 have e : Isa.decF 4 2 (n : Int) (x % 67108864) = Isa.decOut (n : Int) 4 2 ((x % 67108864) / 4194304) 0 0 ((x % 67108864) % 4194304) := by
  simp [Isa.decF, Isa.high, Isa.rest, Isa.atD, Isa.atA, Isa.atB, Isa.layD, Isa.layA, Isa.layB]
 rw [e]
 exact dec_4_2 n h1 h2 hf' hn' x hx0 hx1 hx (x % 67108864) hy (by omega) (by omega) ((x % 67108864) / 4194304) rfl (by omega) (by omega) hDa ((x % 67108864) % 4194304) hs1 (by omega) (by omega) w hL
theorem dec_form5_0 (n : Nat) (h1 : 1 ≤ n) (h2 : n < 49) (hf : Isa.formOf n = 5) (hn : Isa.numOf n = 0) (x : Int) (hx0 : 0 ≤ x) (hx1 : x ≤ 4294967295) (hx : x / 67108864 = (n : Int)) (w : World) (hL : Isa.Laid w) :
 Calls Tryz.prog 36 #[.int .u32 x] w (Isa.DecPost (Isa.decF 5 0 (n : Int) (x % 67108864)) w) := by
 have hf' : (Isa.formOf n : Int) = 5 := by rw [hf]; rfl
 have hn' : (Isa.numOf n : Int) = 0 := by rw [hn]; rfl
 have hy : bits BinOp.and IntKind.u32 x 67108863 = x % 67108864 := u32_mask 26 (by decide) x hx0 (by omega)
 have hDa : bits BinOp.and IntKind.u32 ((x % 67108864) / 4194304) 15 = (x % 67108864) / 4194304 := by
  rw [show (15 : Int) = 2 ^ 4 - 1 from rfl, u32_mask 4 (by decide) _ (by omega) (by omega)]
  omega
 have hs1 : bits BinOp.andNot IntKind.u32 (x % 67108864) 62914560 = (x % 67108864) % 4194304 := u32_strike 22 (by decide) (x % 67108864) 62914560 (by omega) (by omega) (by decide) (by decide) (by decide)
 have e : Isa.decF 5 0 (n : Int) (x % 67108864) = Isa.decOut (n : Int) 5 0 ((x % 67108864) / 4194304) 0 0 ((x % 67108864) % 4194304) := by
  simp [Isa.decF, Isa.high, Isa.rest, Isa.atD, Isa.atA, Isa.atB, Isa.layD, Isa.layA, Isa.layB]
 rw [e]
 exact dec_5_0 n h1 h2 hf' hn' x hx0 hx1 hx (x % 67108864) hy (by omega) (by omega) ((x % 67108864) / 4194304) rfl (by omega) (by omega) hDa ((x % 67108864) % 4194304) hs1 (by omega) (by omega) w hL
theorem dec_form6_0 (n : Nat) (h1 : 1 ≤ n) (h2 : n < 49) (hf : Isa.formOf n = 6) (hn : Isa.numOf n = 0) (x : Int) (hx0 : 0 ≤ x) (hx1 : x ≤ 4294967295) (hx : x / 67108864 = (n : Int)) (w : World) (hL : Isa.Laid w) :
 Calls Tryz.prog 36 #[.int .u32 x] w (Isa.DecPost (Isa.decF 6 0 (n : Int) (x % 67108864)) w) := by
 have hf' : (Isa.formOf n : Int) = 6 := by rw [hf]; rfl
 have hn' : (Isa.numOf n : Int) = 0 := by rw [hn]; rfl
 have hy : bits BinOp.and IntKind.u32 x 67108863 = x % 67108864 := u32_mask 26 (by decide) x hx0 (by omega)
 have hAa : bits BinOp.and IntKind.u32 ((x % 67108864) / 4194304) 15 = (x % 67108864) / 4194304 := by
  rw [show (15 : Int) = 2 ^ 4 - 1 from rfl, u32_mask 4 (by decide) _ (by omega) (by omega)]
  omega
 have hs1 : bits BinOp.andNot IntKind.u32 (x % 67108864) 62914560 = (x % 67108864) % 4194304 := u32_strike 22 (by decide) (x % 67108864) 62914560 (by omega) (by omega) (by decide) (by decide) (by decide)
 have e : Isa.decF 6 0 (n : Int) (x % 67108864) = Isa.decOut (n : Int) 6 0 0 ((x % 67108864) / 4194304) 0 ((x % 67108864) % 4194304) := by
  simp [Isa.decF, Isa.high, Isa.rest, Isa.atD, Isa.atA, Isa.atB, Isa.layD, Isa.layA, Isa.layB]
 rw [e]
 exact dec_6_0 n h1 h2 hf' hn' x hx0 hx1 hx (x % 67108864) hy (by omega) (by omega) ((x % 67108864) / 4194304) rfl (by omega) (by omega) hAa ((x % 67108864) % 4194304) hs1 (by omega) (by omega) w hL
theorem dec_form7_2 (n : Nat) (h1 : 1 ≤ n) (h2 : n < 49) (hf : Isa.formOf n = 7) (hn : Isa.numOf n = 2) (x : Int) (hx0 : 0 ≤ x) (hx1 : x ≤ 4294967295) (hx : x / 67108864 = (n : Int)) (w : World) (hL : Isa.Laid w) :
 Calls Tryz.prog 36 #[.int .u32 x] w (Isa.DecPost (Isa.decF 7 2 (n : Int) (x % 67108864)) w) := by
 have hf' : (Isa.formOf n : Int) = 7 := by rw [hf]; rfl
 have hn' : (Isa.numOf n : Int) = 2 := by rw [hn]; rfl
 have hy : bits BinOp.and IntKind.u32 x 67108863 = x % 67108864 := u32_mask 26 (by decide) x hx0 (by omega)
 have e : Isa.decF 7 2 (n : Int) (x % 67108864) = Isa.decOut (n : Int) 7 2 0 0 0 (x % 67108864) := by
  simp [Isa.decF, Isa.high, Isa.rest, Isa.atD, Isa.atA, Isa.atB, Isa.layD, Isa.layA, Isa.layB]
 rw [e]
 exact dec_7_2 n h1 h2 hf' hn' x hx0 hx1 hx (x % 67108864) hy (by omega) (by omega) w hL
theorem dec_form8_0 (n : Nat) (h1 : 1 ≤ n) (h2 : n < 49) (hf : Isa.formOf n = 8) (hn : Isa.numOf n = 0) (x : Int) (hx0 : 0 ≤ x) (hx1 : x ≤ 4294967295) (hx : x / 67108864 = (n : Int)) (w : World) (hL : Isa.Laid w) :
 Calls Tryz.prog 36 #[.int .u32 x] w (Isa.DecPost (Isa.decF 8 0 (n : Int) (x % 67108864)) w) := by
 have hf' : (Isa.formOf n : Int) = 8 := by rw [hf]; rfl
 have hn' : (Isa.numOf n : Int) = 0 := by rw [hn]; rfl
 have hy : bits BinOp.and IntKind.u32 x 67108863 = x % 67108864 := u32_mask 26 (by decide) x hx0 (by omega)
 have e : Isa.decF 8 0 (n : Int) (x % 67108864) = Isa.decOut (n : Int) 8 0 0 0 0 (x % 67108864) := by
  simp [Isa.decF, Isa.high, Isa.rest, Isa.atD, Isa.atA, Isa.atB, Isa.layD, Isa.layA, Isa.layB]
 rw [e]
 exact dec_8_0 n h1 h2 hf' hn' x hx0 hx1 hx (x % 67108864) hy (by omega) (by omega) w hL
theorem Isa.combos : ∀ n : Fin 49, 1 ≤ n.1 → (Isa.formOf n.1 = 1 ∧ Isa.numOf n.1 = 0) ∨ (Isa.formOf n.1 = 2 ∧ Isa.numOf n.1 = 1) ∨ (Isa.formOf n.1 = 2 ∧ Isa.numOf n.1 = 2) ∨ (Isa.formOf n.1 = 2 ∧ Isa.numOf n.1 = 3) ∨ (Isa.formOf n.1 = 3 ∧ Isa.numOf n.1 = 1) ∨ (Isa.formOf n.1 = 4 ∧ Isa.numOf n.1 = 1) ∨ (Isa.formOf n.1 = 4 ∧ Isa.numOf n.1 = 2) ∨ (Isa.formOf n.1 = 5 ∧ Isa.numOf n.1 = 0) ∨ (Isa.formOf n.1 = 6 ∧ Isa.numOf n.1 = 0) ∨ (Isa.formOf n.1 = 7 ∧ Isa.numOf n.1 = 2) ∨ (Isa.formOf n.1 = 8 ∧ Isa.numOf n.1 = 0) := by decide
theorem Decode_calls (x : Int) (hx0 : 0 ≤ x) (hx1 : x ≤ 4294967295) (w : World) (hL : Isa.Laid w) : Calls Tryz.prog 36 #[.int .u32 x] w (Isa.DecPost (Isa.dec x) w) := by
 by_cases h : x / 67108864 < 1 ∨ 49 ≤ x / 67108864
 · rw [show Isa.dec x = (0, 0, 0, 0, 0, 100) from if_pos h]
   exact dec_none x hx0 hx1 h w hL
 · obtain ⟨n, hn⟩ : ∃ n : Nat, x / 67108864 = (n : Int) := ⟨(x / 67108864).toNat, by omega⟩
   have e : Isa.dec x = Isa.decF (Isa.formOf n) (Isa.numOf n) (n : Int) (x % 67108864) := by
    unfold Isa.dec
    rw [if_neg h, hn]
    rfl
   rw [e]
   have h1 : 1 ≤ n := by omega
   have h2 : n < 49 := by omega
   have hc := Isa.combos ⟨n, h2⟩ h1
   simp only at hc
   rcases hc with ⟨a, b⟩ | ⟨a, b⟩ | ⟨a, b⟩ | ⟨a, b⟩ | ⟨a, b⟩ | ⟨a, b⟩ | ⟨a, b⟩ | ⟨a, b⟩ | ⟨a, b⟩ | ⟨a, b⟩ | ⟨a, b⟩
   · rw [a, b]; exact dec_form1_0 n h1 h2 a b x hx0 hx1 hn w hL
   · rw [a, b]; exact dec_form2_1 n h1 h2 a b x hx0 hx1 hn w hL
   · rw [a, b]; exact dec_form2_2 n h1 h2 a b x hx0 hx1 hn w hL
   · rw [a, b]; exact dec_form2_3 n h1 h2 a b x hx0 hx1 hn w hL
   · rw [a, b]; exact dec_form3_1 n h1 h2 a b x hx0 hx1 hn w hL
   · rw [a, b]; exact dec_form4_1 n h1 h2 a b x hx0 hx1 hn w hL
   · rw [a, b]; exact dec_form4_2 n h1 h2 a b x hx0 hx1 hn w hL
   · rw [a, b]; exact dec_form5_0 n h1 h2 a b x hx0 hx1 hn w hL
   · rw [a, b]; exact dec_form6_0 n h1 h2 a b x hx0 hx1 hn w hL
   · rw [a, b]; exact dec_form7_2 n h1 h2 a b x hx0 hx1 hn w hL
   · rw [a, b]; exact dec_form8_0 n h1 h2 a b x hx0 hx1 hn w hL
end Go.Proofs.YtabmlbnnhhpaoaaGreatDoor
