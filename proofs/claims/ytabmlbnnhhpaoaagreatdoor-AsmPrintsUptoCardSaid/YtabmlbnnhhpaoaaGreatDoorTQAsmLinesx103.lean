/- What this claim needs of QAsmLinesx103. -/
import Derived.Test.YtabmlbnnhhpaoaaGreatDoorTQAsmLinesx0
set_option linter.unusedSimpArgs false
set_option linter.unusedVariables false
set_option maxHeartbeats 8000000
set_option maxRecDepth 100000
namespace Go.Proofs.YtabmlbnnhhpaoaaGreatDoor.PAsmLines
open Go.RowKit Go.Proofs.YtabmlbnnhhpaoaaGreatDoorW.PrintWords Go.Proofs.YtabmlbnnhhpaoaaGreatDoorW.PrintLast Go.Proofs.YtabmlbnnhhpaoaaGreatDoorW.PrintMore
attribute [local go_sem] max2_int min2_int max_two min_two max_three min_three max_four min_four   -- for this text's walks alone
def q_register.f (a0_0 : Int) (a0_1 : Int) (a0_2 : Int) (a0_3 : Int) (a0_4 : Int) (a1 : Int) : Option (Int) := if a1 = 68 then (some (wrap64 (a0_1))) else (if a1 = 65 then (some (wrap64 (a0_2))) else (some (wrap64 (a0_3))))
theorem q_register.calls (a0_0 : Int) (a0_1 : Int) (a0_2 : Int) (a0_3 : Int) (a0_4 : Int) (a1 : Int) (r : Int) (w : World) (h : q_register.f a0_0 a0_1 a0_2 a0_3 a0_4 a1 = some r) :
 Calls Tryz.prog 79 #[.agg #[.int .i64 a0_0, .int .u8 a0_1, .int .u8 a0_2, .int .u8 a0_3, .int .i32 a0_4], .int .u8 a1] w fun e w' => e = .returned (.int .i64 r) ∧ Below w.heap.size w w' := by
 have hu96 := Tryz.underlying96
 have HB := Aside0.mk (Below.refl w.heap.size w)
 have H : (if a1 = 68 then (some (wrap64 (a0_1))) else (if a1 = 65 then (some (wrap64 (a0_2))) else (some (wrap64 (a0_3))))) = some r := h
 clear h
 by_cases c3 : a1 = 68
 · rw [if_pos c3] at H
   have c3b0 : (a1 == 68) = true := beq_iff_eq.mpr c3
   have c3b1 : (a1 != 68) = false := bne_eq_false_iff_eq.mpr c3
   clear c3
   obtain rfl := Option.some.inj H
   go_enter Tryz.func79, Tryz.ntmps79
   go_wp2_with (first | ((with_reducible refine gate_dst (N := 2) rfl ?_); refine box_event ?hg (N := 2) ?hd (cs := #[.int .i64 a0_0, .int .u8 a0_1, .int .u8 a0_2, .int .u8 a0_3, .int .i32 a0_4]) (t := 96) ?hr ?_; (case hd => rfl); (case hg => rfl); (case hr => first | (go_simp; done) | (go_simp; rfl)); intro gb190 hg w4 hbox hb; have n0_ := Aside0.mk (below_step (by repeat (first | (with_reducible first | exact HB.out | apply below_alloc | apply pw_below_drewN | apply below_drew1) | exact HB.out)) hb); have n1_ := Aside0.mk (hbox); have n2_ := Aside0.mk ((by rw [hg]; exact (below_size (by repeat (first | (with_reducible first | exact HB.out | apply below_alloc | apply pw_below_drewN | apply below_drew1) | exact HB.out))) : w.heap.size ≤ gb190)); have n3_ := Aside0.mk ((by rw [hg]; exact (below_size (by repeat (first | (with_reducible first | exact HB.out | apply below_alloc | apply pw_below_drewN | apply below_drew1) | exact HB.out))) : w.heap.size ≤ gb190)); clear HB; have HB := n0_; have BK190 := n1_; have GW190 := n2_; have GE190 := n3_; clear n0_ n1_ n2_ n3_; clear hb hbox hg; have hcz5_0 : w4.cell? ⟨gb190, 0, none⟩ = some (.int .i64 a0_0) := (blk_cell BK190.out 0).trans rfl; have hcz5_1 : w4.cell? ⟨gb190, 1, none⟩ = some (.int .u8 a0_1) := (blk_cell BK190.out 1).trans rfl; have hcz5_2 : w4.cell? ⟨gb190, 2, none⟩ = some (.int .u8 a0_2) := (blk_cell BK190.out 2).trans rfl; have hcz5_3 : w4.cell? ⟨gb190, 3, none⟩ = some (.int .u8 a0_3) := (blk_cell BK190.out 3).trans rfl; have hcz5_4 : w4.cell? ⟨gb190, 4, none⟩ = some (.int .i32 a0_4) := (blk_cell BK190.out 4).trans rfl; have hfz5_0 := blk_frozen BK190.out 0; have hfz5_1 := blk_frozen BK190.out 1; have hfz5_2 := blk_frozen BK190.out 2; have hfz5_3 := blk_frozen BK190.out 3; have hfz5_4 := blk_frozen BK190.out 4))
   go_ret
   exact ⟨by first | rfl | (simp [errW_none, errW_some] <;> rfl) | (simp [*, errW_none, errW_some] <;> rfl), by repeat (first | (with_reducible first | exact HB.out | apply below_alloc | apply pw_below_drewN | apply below_drew1 | refine below_set ?_ GE190.out) | exact HB.out)⟩
 · rw [if_neg c3] at H
   have c3b0 : (a1 == 68) = false := beq_eq_false_iff_ne.mpr c3
   have c3b1 : (a1 != 68) = true := bne_iff_ne.mpr c3
   by_cases c6 : a1 = 65
   · rw [if_pos c6] at H
     have c6b0 : (a1 == 65) = true := beq_iff_eq.mpr c6
     have c6b1 : (a1 != 65) = false := bne_eq_false_iff_eq.mpr c6
     clear c6
     obtain rfl := Option.some.inj H
     go_enter Tryz.func79, Tryz.ntmps79
     go_wp2_with (first | ((with_reducible refine gate_dst (N := 2) rfl ?_); refine box_event ?hg (N := 2) ?hd (cs := #[.int .i64 a0_0, .int .u8 a0_1, .int .u8 a0_2, .int .u8 a0_3, .int .i32 a0_4]) (t := 96) ?hr ?_; (case hd => rfl); (case hg => rfl); (case hr => first | (go_simp; done) | (go_simp; rfl)); intro gb190 hg w7 hbox hb; have n0_ := Aside0.mk (below_step (by repeat (first | (with_reducible first | exact HB.out | apply below_alloc | apply pw_below_drewN | apply below_drew1) | exact HB.out)) hb); have n1_ := Aside0.mk (hbox); have n2_ := Aside0.mk ((by rw [hg]; exact (below_size (by repeat (first | (with_reducible first | exact HB.out | apply below_alloc | apply pw_below_drewN | apply below_drew1) | exact HB.out))) : w.heap.size ≤ gb190)); have n3_ := Aside0.mk ((by rw [hg]; exact (below_size (by repeat (first | (with_reducible first | exact HB.out | apply below_alloc | apply pw_below_drewN | apply below_drew1) | exact HB.out))) : w.heap.size ≤ gb190)); clear HB; have HB := n0_; have BK190 := n1_; have GW190 := n2_; have GE190 := n3_; clear n0_ n1_ n2_ n3_; clear hb hbox hg; have hcz8_0 : w7.cell? ⟨gb190, 0, none⟩ = some (.int .i64 a0_0) := (blk_cell BK190.out 0).trans rfl; have hcz8_1 : w7.cell? ⟨gb190, 1, none⟩ = some (.int .u8 a0_1) := (blk_cell BK190.out 1).trans rfl; have hcz8_2 : w7.cell? ⟨gb190, 2, none⟩ = some (.int .u8 a0_2) := (blk_cell BK190.out 2).trans rfl; have hcz8_3 : w7.cell? ⟨gb190, 3, none⟩ = some (.int .u8 a0_3) := (blk_cell BK190.out 3).trans rfl; have hcz8_4 : w7.cell? ⟨gb190, 4, none⟩ = some (.int .i32 a0_4) := (blk_cell BK190.out 4).trans rfl; have hfz8_0 := blk_frozen BK190.out 0; have hfz8_1 := blk_frozen BK190.out 1; have hfz8_2 := blk_frozen BK190.out 2; have hfz8_3 := blk_frozen BK190.out 3; have hfz8_4 := blk_frozen BK190.out 4))
     go_ret
     exact ⟨by first | rfl | (simp [errW_none, errW_some] <;> rfl) | (simp [*, errW_none, errW_some] <;> rfl), by repeat (first | (with_reducible first | exact HB.out | apply below_alloc | apply pw_below_drewN | apply below_drew1 | refine below_set ?_ GE190.out) | exact HB.out)⟩
   · rw [if_neg c6] at H
     have c6b0 : (a1 == 65) = false := beq_eq_false_iff_ne.mpr c6
     have c6b1 : (a1 != 65) = true := bne_iff_ne.mpr c6
     obtain rfl := Option.some.inj H
     go_enter Tryz.func79, Tryz.ntmps79
     go_wp2_with (first | ((with_reducible refine gate_dst (N := 2) rfl ?_); refine box_event ?hg (N := 2) ?hd (cs := #[.int .i64 a0_0, .int .u8 a0_1, .int .u8 a0_2, .int .u8 a0_3, .int .i32 a0_4]) (t := 96) ?hr ?_; (case hd => rfl); (case hg => rfl); (case hr => first | (go_simp; done) | (go_simp; rfl)); intro gb190 hg w9 hbox hb; have n0_ := Aside0.mk (below_step (by repeat (first | (with_reducible first | exact HB.out | apply below_alloc | apply pw_below_drewN | apply below_drew1) | exact HB.out)) hb); have n1_ := Aside0.mk (hbox); have n2_ := Aside0.mk ((by rw [hg]; exact (below_size (by repeat (first | (with_reducible first | exact HB.out | apply below_alloc | apply pw_below_drewN | apply below_drew1) | exact HB.out))) : w.heap.size ≤ gb190)); have n3_ := Aside0.mk ((by rw [hg]; exact (below_size (by repeat (first | (with_reducible first | exact HB.out | apply below_alloc | apply pw_below_drewN | apply below_drew1) | exact HB.out))) : w.heap.size ≤ gb190)); clear HB; have HB := n0_; have BK190 := n1_; have GW190 := n2_; have GE190 := n3_; clear n0_ n1_ n2_ n3_; clear hb hbox hg; have hcz10_0 : w9.cell? ⟨gb190, 0, none⟩ = some (.int .i64 a0_0) := (blk_cell BK190.out 0).trans rfl; have hcz10_1 : w9.cell? ⟨gb190, 1, none⟩ = some (.int .u8 a0_1) := (blk_cell BK190.out 1).trans rfl; have hcz10_2 : w9.cell? ⟨gb190, 2, none⟩ = some (.int .u8 a0_2) := (blk_cell BK190.out 2).trans rfl; have hcz10_3 : w9.cell? ⟨gb190, 3, none⟩ = some (.int .u8 a0_3) := (blk_cell BK190.out 3).trans rfl; have hcz10_4 : w9.cell? ⟨gb190, 4, none⟩ = some (.int .i32 a0_4) := (blk_cell BK190.out 4).trans rfl; have hfz10_0 := blk_frozen BK190.out 0; have hfz10_1 := blk_frozen BK190.out 1; have hfz10_2 := blk_frozen BK190.out 2; have hfz10_3 := blk_frozen BK190.out 3; have hfz10_4 := blk_frozen BK190.out 4))
     go_ret
     exact ⟨by first | rfl | (simp [errW_none, errW_some] <;> rfl) | (simp [*, errW_none, errW_some] <;> rfl), by repeat (first | (with_reducible first | exact HB.out | apply below_alloc | apply pw_below_drewN | apply below_drew1 | refine below_set ?_ GE190.out) | exact HB.out)⟩
end Go.Proofs.YtabmlbnnhhpaoaaGreatDoor.PAsmLines
