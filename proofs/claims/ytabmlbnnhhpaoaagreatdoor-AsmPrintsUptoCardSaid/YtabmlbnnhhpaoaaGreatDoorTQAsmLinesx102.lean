/- What this claim needs of QAsmLinesx102. -/
import Derived.Test.YtabmlbnnhhpaoaaGreatDoorTQAsmLinesx0
import Derived.Test.YtabmlbnnhhpaoaaGreatDoorTQAsmLinesx98
import Derived.Test.YtabmlbnnhhpaoaaGreatDoorTQAsmLinesx99
import Derived.Test.YtabmlbnnhhpaoaaGreatDoorTMRefOfG
import Derived.Test.YtabmlbnnhhpaoaaGreatDoorTQAsmLinesx100
import Derived.Test.YtabmlbnnhhpaoaaGreatDoorTQAsmLinesx101
set_option linter.unusedSimpArgs false
set_option linter.unusedVariables false
set_option maxHeartbeats 8000000
set_option maxRecDepth 100000
namespace Go.Proofs.YtabmlbnnhhpaoaaGreatDoor.PAsmLines
open Go.RowKit Go.Proofs.YtabmlbnnhhpaoaaGreatDoorW.PrintWords Go.Proofs.YtabmlbnnhhpaoaaGreatDoorW.PrintLast Go.Proofs.YtabmlbnnhhpaoaaGreatDoorW.PrintMore
attribute [local go_sem] max2_int min2_int max_two min_two max_three min_three max_four min_four   -- for this text's walks alone
mutual
def q_Decode.l0 : Nat → Int → ByteArray → Int → Int → Int → Int → Int → Int → Int → Int → ByteArray → Int → Int → Int → Option (Int × Int × Int × Int × Int × Int)
 | 0, _, _, _, _, _, _, _, _, _, _, _, _, _, _ => none
 | k + 1, x8, x9, x10, x11, x12, x175000, x175001, x175002, x175003, x175004, x181000, x181001, x181002, x181003 => if x12 < (x9.size : Int) then (if x11 = 0 then (none) else (if 0 ≤ x12 then (if (bt x9 x12) = 68 then (q_Decode.l0 k (Int.tmod x8 x11) x9 x10 (wrap64 (Int.tdiv x11 16)) (wrap64 (x12 + 1)) x175000 ((wrap64 (Int.tdiv x8 x11)) % 256) x175002 x175003 x175004 x181000 x181001 x181002 x181003) else (if (bt x9 x12) = 65 then (q_Decode.l0 k (Int.tmod x8 x11) x9 x10 (wrap64 (Int.tdiv x11 16)) (wrap64 (x12 + 1)) x175000 x175001 ((wrap64 (Int.tdiv x8 x11)) % 256) x175003 x175004 x181000 x181001 x181002 x181003) else (q_Decode.l0 k (Int.tmod x8 x11) x9 x10 (wrap64 (Int.tdiv x11 16)) (wrap64 (x12 + 1)) x175000 x175001 x175002 ((wrap64 (Int.tdiv x8 x11)) % 256) x175004 x181000 x181001 x181002 x181003))) else (none))) else ((q_power.f k x10).bind fun t185 => (if x8 ≥ t185 then (some (0, 0, 0, 0, 0, 103)) else (if x181002 = 115 then ((q_power.f k (wrap64 (x10 - 1))).bind fun t186 => (q_Decode.j1 k x8 x10 (decide (x8 ≥ t186)) x175000 x175001 x175002 x175003 x175004 x181000 x181001 x181002 x181003)) else (q_Decode.j1 k x8 x10 false x175000 x175001 x175002 x175003 x175004 x181000 x181001 x181002 x181003))))
def q_Decode.j1 : Nat → Int → Int → Bool → Int → Int → Int → Int → Int → ByteArray → Int → Int → Int → Option (Int × Int × Int × Int × Int × Int)
 | 0, _, _, _, _, _, _, _, _, _, _, _, _ => none
 | k + 1, x8, x10, x82, x175000, x175001, x175002, x175003, x175004, x181000, x181001, x181002, x181003 => if x82 = true then ((q_power.f k x10).bind fun t187 => ((q_takes.f k x181002 x10 (wrap64 (x8 - t187))).bind fun t188 => (if t188 = true then (some (x175000, x175001, x175002, x175003, wrap32 (wrap64 (x8 - t187)), 0)) else (some (0, 0, 0, 0, 0, 102))))) else ((q_takes.f k x181002 x10 x8).bind fun t189 => (if t189 = true then (some (x175000, x175001, x175002, x175003, wrap32 (x8), 0)) else (some (0, 0, 0, 0, 0, 102))))
end
def q_Decode.f (k : Nat) (a0 : Int) : Option (Int × Int × Int × Int × Int × Int) := (q_power.f k 26).bind fun t173 => (if t173 = 0 then (none) else ((q_Of.f k (wrap64 (Int.tdiv (wrap64 (a0)) t173))).bind fun bt175 => (if bt175.2.2.2.2 = true then ((q_power.f k 26).bind fun t181 => (if t181 = 0 then (none) else ((q_Fields.f bt175.2.1).bind fun bt182 => ((q_power.f k 22).bind fun t184 => (q_Decode.l0 k (Int.tmod (wrap64 (a0)) t181) bt182.1 bt182.2 t184 0 (wrap64 (Int.tdiv (wrap64 (a0)) t173)) 0 0 0 0 bt175.1 bt175.2.1 bt175.2.2.1 bt175.2.2.2.1))))) else (some (0, 0, 0, 0, 0, 100)))))
theorem q_Decode.calls (k : Nat) (a0 : Int) (r1 : Int) (r2 : Int) (r3 : Int) (r4 : Int) (r5 : Int) (r6 : Int) (w : World) (h : q_Decode.f k a0 = some (r1, r2, r3, r4, r5, r6)) :
 Calls Tryz.prog 39 #[.int .u32 a0] w fun e w' => e = .returned (.tuple #[.agg #[.int .i64 r1, .int .u8 r2, .int .u8 r3, .int .u8 r4, .int .i32 r5], .int .i64 r6]) ∧ Below w.heap.size w w' := by
 have hu96 := Tryz.underlying96
 have hu167 := Tryz.underlying167
 have HB := Aside0.mk (Below.refl w.heap.size w)
 have H : ((q_power.f k 26).bind fun t173 => (if t173 = 0 then (none) else ((q_Of.f k (wrap64 (Int.tdiv (wrap64 (a0)) t173))).bind fun bt175 => (if bt175.2.2.2.2 = true then ((q_power.f k 26).bind fun t181 => (if t181 = 0 then (none) else ((q_Fields.f bt175.2.1).bind fun bt182 => ((q_power.f k 22).bind fun t184 => (q_Decode.l0 k (Int.tmod (wrap64 (a0)) t181) bt182.1 bt182.2 t184 0 (wrap64 (Int.tdiv (wrap64 (a0)) t173)) 0 0 0 0 bt175.1 bt175.2.1 bt175.2.2.1 bt175.2.2.2.1))))) else (some (0, 0, 0, 0, 0, 100)))))) = some (r1, r2, r3, r4, r5, r6) := h
 clear h
 replace H := Option.bind_eq_some_iff.mp H
 obtain ⟨t173, A20, H⟩ := H
 replace H : (if t173 = 0 then (none) else ((q_Of.f k (wrap64 (Int.tdiv (wrap64 (a0)) t173))).bind fun bt175 => (if bt175.2.2.2.2 = true then ((q_power.f k 26).bind fun t181 => (if t181 = 0 then (none) else ((q_Fields.f bt175.2.1).bind fun bt182 => ((q_power.f k 22).bind fun t184 => (q_Decode.l0 k (Int.tmod (wrap64 (a0)) t181) bt182.1 bt182.2 t184 0 (wrap64 (Int.tdiv (wrap64 (a0)) t173)) 0 0 0 0 bt175.1 bt175.2.1 bt175.2.2.1 bt175.2.2.2.1))))) else (some (0, 0, 0, 0, 0, 100))))) = some (r1, r2, r3, r4, r5, r6) := H
 have A2 := Aside0.mk A20
 clear A20
 by_cases c3 : t173 = 0
 · rw [if_pos c3] at H
   exact absurd H (by simp)
 · rw [if_neg c3] at H
   have c3b0 : (t173 == 0) = false := beq_eq_false_iff_ne.mpr c3
   have c3b1 : (t173 != 0) = true := bne_iff_ne.mpr c3
   replace H := Option.bind_eq_some_iff.mp H
   obtain ⟨⟨t175, t176, t177, t178, t179⟩, A40, H⟩ := H
   replace H : (if t179 = true then ((q_power.f k 26).bind fun t181 => (if t181 = 0 then (none) else ((q_Fields.f t176).bind fun bt182 => ((q_power.f k 22).bind fun t184 => (q_Decode.l0 k (Int.tmod (wrap64 (a0)) t181) bt182.1 bt182.2 t184 0 (wrap64 (Int.tdiv (wrap64 (a0)) t173)) 0 0 0 0 t175 t176 t177 t178))))) else (some (0, 0, 0, 0, 0, 100))) = some (r1, r2, r3, r4, r5, r6) := H
   have A4 := Aside0.mk A40
   clear A40
   by_cases c5 : t179 = true
   · subst c5
     have H1 : ((q_power.f k 26).bind fun t181 => (if t181 = 0 then (none) else ((q_Fields.f t176).bind fun bt182 => ((q_power.f k 22).bind fun t184 => (q_Decode.l0 k (Int.tmod (wrap64 (a0)) t181) bt182.1 bt182.2 t184 0 (wrap64 (Int.tdiv (wrap64 (a0)) t173)) 0 0 0 0 t175 t176 t177 t178))))) = some (r1, r2, r3, r4, r5, r6) := by rw [if_pos rfl] at H; exact H
     clear H
     have H := H1
     clear H1
     replace H := Option.bind_eq_some_iff.mp H
     obtain ⟨t181, A60, H⟩ := H
     replace H : (if t181 = 0 then (none) else ((q_Fields.f t176).bind fun bt182 => ((q_power.f k 22).bind fun t184 => (q_Decode.l0 k (Int.tmod (wrap64 (a0)) t181) bt182.1 bt182.2 t184 0 (wrap64 (Int.tdiv (wrap64 (a0)) t173)) 0 0 0 0 t175 t176 t177 t178)))) = some (r1, r2, r3, r4, r5, r6) := H
     have A6 := Aside0.mk A60
     clear A60
     by_cases c7 : t181 = 0
     · rw [if_pos c7] at H
       exact absurd H (by simp)
     · rw [if_neg c7] at H
       have c7b0 : (t181 == 0) = false := beq_eq_false_iff_ne.mpr c7
       have c7b1 : (t181 != 0) = true := bne_iff_ne.mpr c7
       replace H := Option.bind_eq_some_iff.mp H
       obtain ⟨⟨t182, t183⟩, A80, H⟩ := H
       replace H : ((q_power.f k 22).bind fun t184 => (q_Decode.l0 k (Int.tmod (wrap64 (a0)) t181) t182 t183 t184 0 (wrap64 (Int.tdiv (wrap64 (a0)) t173)) 0 0 0 0 t175 t176 t177 t178)) = some (r1, r2, r3, r4, r5, r6) := H
       have A8 := Aside0.mk A80
       clear A80
       replace H := Option.bind_eq_some_iff.mp H
       obtain ⟨t184, A90, H⟩ := H
       replace H : (q_Decode.l0 k (Int.tmod (wrap64 (a0)) t181) t182 t183 t184 0 (wrap64 (Int.tdiv (wrap64 (a0)) t173)) 0 0 0 0 t175 t176 t177 t178) = some (r1, r2, r3, r4, r5, r6) := H
       have A9 := Aside0.mk A90
       clear A90
       have H' := Aside0.mk H
       clear H
       go_enter Tryz.func39, Tryz.ntmps39
       go_wp2_with (first | ((with_reducible refine gate_dst (N := 2) rfl ?_); refine box_event ?hg (N := 2) ?hd (cs := #[.int .i64 0, .int .u8 0, .int .u8 0, .int .u8 0, .int .i32 0]) (t := 96) ?hr ?_; (case hd => rfl); (case hg => rfl); (case hr => first | (go_simp; done) | (go_simp; rfl)); intro gb172 hg w10 hbox hb; have n0_ := Aside0.mk (below_step (by repeat (first | (with_reducible first | exact HB.out | apply below_alloc | apply pw_below_drewN | apply below_drew1) | exact HB.out)) hb); have n1_ := Aside0.mk (hbox); have n2_ := Aside0.mk ((by rw [hg]; exact (below_size (by repeat (first | (with_reducible first | exact HB.out | apply below_alloc | apply pw_below_drewN | apply below_drew1) | exact HB.out))) : w.heap.size ≤ gb172)); have n3_ := Aside0.mk ((by rw [hg]; exact (below_size (by repeat (first | (with_reducible first | exact HB.out | apply below_alloc | apply pw_below_drewN | apply below_drew1) | exact HB.out))) : w.heap.size ≤ gb172)); clear HB; have HB := n0_; have BK172 := n1_; have GW172 := n2_; have GE172 := n3_; clear n0_ n1_ n2_ n3_; clear hb hbox hg) | ((with_reducible refine gate_callee (f := 74) rfl ?_); refine goesL_ (some 18) rfl rfl Tryz.func74 (by kernel_rfl) rfl #[.int .i64 26] rfl (by (try simp only [List.map_toArray, List.map_cons, List.map_nil]); first | done | rfl | (simp only [List.length_drop, List.length_take]; rfl)) ?_; (with_reducible refine (q_power.calls k 26 t173 _ A2.out).mono ?_); rintro e w' ⟨rfl, ⟨nd, rfl⟩⟩; refine ⟨_, rfl, ?_⟩; (try (rw [drewN_self w10]; generalize hq_ : World.drewN w10 _ = w10; have n0_ : Aside0 (w10.heap[gb172]? = some (.cells #[.int .i64 0, .int .u8 0, .int .u8 0, .int .u8 0, .int .i32 0] 96 (0, 0))) := ⟨by rw [← hq_]; exact (by (with_reducible repeat (first | refine blk_drewN ?_ _ | refine blk_drew ?_ | refine blk_alloc ?_ _)); exact BK172.out)⟩; have n1_ : Aside0 (Below w.heap.size w w10) := ⟨by rw [← hq_]; exact (by repeat (first | (with_reducible first | exact HB.out | apply below_alloc | apply pw_below_drewN | apply below_drew1 | refine below_set ?_ GE172.out) | exact HB.out))⟩; clear BK172 HB hq_; have BK172 := n0_; have HB := n1_; clear n0_ n1_))) | ((with_reducible refine gate_dst (N := 5) rfl ?_); refine box_event ?hg (N := 5) ?hd (cs := #[.int .i64 0, .int .u8 0, .int .u8 0, .int .u8 0, .int .i32 0]) (t := 96) ?hr ?_; (case hd => rfl); (case hg => rfl); (case hr => first | (go_simp; done) | (go_simp; rfl)); intro gb174 hg w11 hbox hb; have n0_ := Aside0.mk (blk_below (g := gb172) (o := .cells #[.int .i64 0, .int .u8 0, .int .u8 0, .int .u8 0, .int .i32 0] 96 (0, 0)) (by (with_reducible repeat (first | refine blk_drewN ?_ _ | refine blk_drew ?_ | refine blk_alloc ?_ _)); exact BK172.out) hb); have n1_ := Aside0.mk (below_step (by repeat (first | (with_reducible first | exact HB.out | apply below_alloc | apply pw_below_drewN | apply below_drew1 | refine below_set ?_ GE172.out) | exact HB.out)) hb); have n2_ := Aside0.mk (hbox); have n3_ := Aside0.mk ((by rw [hg]; exact (below_size (by repeat (first | (with_reducible first | exact HB.out | apply below_alloc | apply pw_below_drewN | apply below_drew1 | refine below_set ?_ GE172.out) | exact HB.out))) : w.heap.size ≤ gb174)); have n4_ := Aside0.mk ((by rw [hg]; exact (below_size (by repeat (first | (with_reducible first | exact HB.out | apply below_alloc | apply pw_below_drewN | apply below_drew1 | refine below_set ?_ GE172.out) | exact HB.out))) : w.heap.size ≤ gb174)); have n5_ := Aside0.mk ((by rw [hg]; exact Nat.ne_of_lt (blk_lt (g := gb172) (o := .cells #[.int .i64 0, .int .u8 0, .int .u8 0, .int .u8 0, .int .i32 0] 96 (0, 0)) (by (with_reducible repeat (first | refine blk_drewN ?_ _ | refine blk_drew ?_ | refine blk_alloc ?_ _)); exact BK172.out)) : gb172 ≠ gb174)); have n6_ := Aside0.mk ((by rw [hg]; exact Nat.ne_of_gt (blk_lt (g := gb172) (o := .cells #[.int .i64 0, .int .u8 0, .int .u8 0, .int .u8 0, .int .i32 0] 96 (0, 0)) (by (with_reducible repeat (first | refine blk_drewN ?_ _ | refine blk_drew ?_ | refine blk_alloc ?_ _)); exact BK172.out)) : gb174 ≠ gb172)); clear BK172; clear HB; have BK172 := n0_; have HB := n1_; have BK174 := n2_; have GW174 := n3_; have GE174 := n4_; have NB172_174 := n5_; have NB174_172 := n6_; clear n0_ n1_ n2_ n3_ n4_ n5_ n6_; clear hb hbox hg; have hnb12 := NB174_172.out; have hnc12 := NB172_174.out; have hcz13_0 : w11.cell? ⟨gb174, 0, none⟩ = some (.int .i64 0) := (blk_cell BK174.out 0).trans rfl; have hcz13_1 : w11.cell? ⟨gb174, 1, none⟩ = some (.int .u8 0) := (blk_cell BK174.out 1).trans rfl; have hcz13_2 : w11.cell? ⟨gb174, 2, none⟩ = some (.int .u8 0) := (blk_cell BK174.out 2).trans rfl; have hcz13_3 : w11.cell? ⟨gb174, 3, none⟩ = some (.int .u8 0) := (blk_cell BK174.out 3).trans rfl; have hcz13_4 : w11.cell? ⟨gb174, 4, none⟩ = some (.int .i32 0) := (blk_cell BK174.out 4).trans rfl; have hfz13_0 := blk_frozen BK174.out 0; have hfz13_1 := blk_frozen BK174.out 1; have hfz13_2 := blk_frozen BK174.out 2; have hfz13_3 := blk_frozen BK174.out 3; have hfz13_4 := blk_frozen BK174.out 4) | ((with_reducible refine gate_callee (f := 75) rfl ?_); refine goesL_ (some 24) rfl rfl Tryz.func75 (by kernel_rfl) rfl #[.int .i64 (wrap64 (Int.tdiv (wrap64 (a0)) t173))] rfl (by (try simp only [List.map_toArray, List.map_cons, List.map_nil]); first | done | rfl | (simp only [List.length_drop, List.length_take]; rfl)) ?_; (with_reducible refine (q_Of.calls k (wrap64 (Int.tdiv (wrap64 (a0)) t173)) t175 t176 t177 t178 true _ A4.out).mono ?_); rintro e w14 ⟨rfl, hb⟩; refine ⟨_, rfl, ?_⟩; have n0_ := Aside0.mk (blk_below (g := gb172) (o := .cells #[.int .i64 0, .int .u8 0, .int .u8 0, .int .u8 0, .int .i32 0] 96 (0, 0)) (by (with_reducible repeat (first | refine blk_drewN ?_ _ | refine blk_drew ?_ | refine blk_alloc ?_ _)); refine blk_far ?_ NB172_174.out _; (with_reducible repeat (first | refine blk_drewN ?_ _ | refine blk_drew ?_ | refine blk_alloc ?_ _)); refine blk_far ?_ NB172_174.out _; (with_reducible repeat (first | refine blk_drewN ?_ _ | refine blk_drew ?_ | refine blk_alloc ?_ _)); refine blk_far ?_ NB172_174.out _; (with_reducible repeat (first | refine blk_drewN ?_ _ | refine blk_drew ?_ | refine blk_alloc ?_ _)); refine blk_far ?_ NB172_174.out _; (with_reducible repeat (first | refine blk_drewN ?_ _ | refine blk_drew ?_ | refine blk_alloc ?_ _)); refine blk_far ?_ NB172_174.out _; (with_reducible repeat (first | refine blk_drewN ?_ _ | refine blk_drew ?_ | refine blk_alloc ?_ _)); exact BK172.out) hb); have n1_ := Aside0.mk (blk_below (g := gb174) (o := .cells #[.int .i64 (wrap64 (Int.tdiv (wrap64 (a0)) t173)), .int .u8 0, .int .u8 0, .int .u8 0, .int .i32 0] 96 (0, 0)) (by (with_reducible repeat (first | refine blk_drewN ?_ _ | refine blk_drew ?_ | refine blk_alloc ?_ _)); refine blk_put (cs := #[.int .i64 (wrap64 (Int.tdiv (wrap64 (a0)) t173)), .int .u8 0, .int .u8 0, .int .u8 0, .int .i32 0]) ?_ 4 _ rfl; (with_reducible repeat (first | refine blk_drewN ?_ _ | refine blk_drew ?_ | refine blk_alloc ?_ _)); refine blk_put (cs := #[.int .i64 (wrap64 (Int.tdiv (wrap64 (a0)) t173)), .int .u8 0, .int .u8 0, .int .u8 0, .int .i32 0]) ?_ 3 _ rfl; (with_reducible repeat (first | refine blk_drewN ?_ _ | refine blk_drew ?_ | refine blk_alloc ?_ _)); refine blk_put (cs := #[.int .i64 (wrap64 (Int.tdiv (wrap64 (a0)) t173)), .int .u8 0, .int .u8 0, .int .u8 0, .int .i32 0]) ?_ 2 _ rfl; (with_reducible repeat (first | refine blk_drewN ?_ _ | refine blk_drew ?_ | refine blk_alloc ?_ _)); refine blk_put (cs := #[.int .i64 (wrap64 (Int.tdiv (wrap64 (a0)) t173)), .int .u8 0, .int .u8 0, .int .u8 0, .int .i32 0]) ?_ 1 _ rfl; (with_reducible repeat (first | refine blk_drewN ?_ _ | refine blk_drew ?_ | refine blk_alloc ?_ _)); refine blk_put (cs := #[.int .i64 0, .int .u8 0, .int .u8 0, .int .u8 0, .int .i32 0]) ?_ 0 _ rfl; (with_reducible repeat (first | refine blk_drewN ?_ _ | refine blk_drew ?_ | refine blk_alloc ?_ _)); exact BK174.out) hb); have n2_ := Aside0.mk (below_step (by repeat (first | (with_reducible first | exact HB.out | apply below_alloc | apply pw_below_drewN | apply below_drew1 | refine below_set ?_ GE172.out | refine below_set ?_ GE174.out) | exact HB.out)) hb); clear BK172; clear BK174; clear HB; have BK172 := n0_; have BK174 := n1_; have HB := n2_; clear n0_ n1_ n2_; (try clear hb); (try clear hb2); (try clear hk); (try clear hi)) | ((with_reducible refine gate_dst (N := 6) rfl ?_); refine box_event ?hg (N := 6) ?hd (cs := #[.string (⟨#[]⟩ : ByteArray), .int .i64 0, .int .u8 0, .int .u8 0]) (t := 167) ?hr ?_; (case hd => rfl); (case hg => rfl); (case hr => first | (go_simp; done) | (go_simp; rfl)); intro gb180 hg w15 hbox hb; have n0_ := Aside0.mk (blk_below (g := gb172) (o := .cells #[.int .i64 0, .int .u8 0, .int .u8 0, .int .u8 0, .int .i32 0] 96 (0, 0)) (by (with_reducible repeat (first | refine blk_drewN ?_ _ | refine blk_drew ?_ | refine blk_alloc ?_ _)); exact BK172.out) hb); have n1_ := Aside0.mk (blk_below (g := gb174) (o := .cells #[.int .i64 (wrap64 (Int.tdiv (wrap64 (a0)) t173)), .int .u8 0, .int .u8 0, .int .u8 0, .int .i32 0] 96 (0, 0)) (by (with_reducible repeat (first | refine blk_drewN ?_ _ | refine blk_drew ?_ | refine blk_alloc ?_ _)); exact BK174.out) hb); have n2_ := Aside0.mk (below_step (by repeat (first | (with_reducible first | exact HB.out | apply below_alloc | apply pw_below_drewN | apply below_drew1 | refine below_set ?_ GE172.out | refine below_set ?_ GE174.out) | exact HB.out)) hb); have n3_ := Aside0.mk (hbox); have n4_ := Aside0.mk ((by rw [hg]; exact (below_size (by repeat (first | (with_reducible first | exact HB.out | apply below_alloc | apply pw_below_drewN | apply below_drew1 | refine below_set ?_ GE172.out | refine below_set ?_ GE174.out) | exact HB.out))) : w.heap.size ≤ gb180)); have n5_ := Aside0.mk ((by rw [hg]; exact (below_size (by repeat (first | (with_reducible first | exact HB.out | apply below_alloc | apply pw_below_drewN | apply below_drew1 | refine below_set ?_ GE172.out | refine below_set ?_ GE174.out) | exact HB.out))) : w.heap.size ≤ gb180)); have n6_ := Aside0.mk ((by rw [hg]; exact Nat.ne_of_lt (blk_lt (g := gb172) (o := .cells #[.int .i64 0, .int .u8 0, .int .u8 0, .int .u8 0, .int .i32 0] 96 (0, 0)) (by (with_reducible repeat (first | refine blk_drewN ?_ _ | refine blk_drew ?_ | refine blk_alloc ?_ _)); exact BK172.out)) : gb172 ≠ gb180)); have n7_ := Aside0.mk ((by rw [hg]; exact Nat.ne_of_gt (blk_lt (g := gb172) (o := .cells #[.int .i64 0, .int .u8 0, .int .u8 0, .int .u8 0, .int .i32 0] 96 (0, 0)) (by (with_reducible repeat (first | refine blk_drewN ?_ _ | refine blk_drew ?_ | refine blk_alloc ?_ _)); exact BK172.out)) : gb180 ≠ gb172)); have n8_ := Aside0.mk ((by rw [hg]; exact Nat.ne_of_lt (blk_lt (g := gb174) (o := .cells #[.int .i64 (wrap64 (Int.tdiv (wrap64 (a0)) t173)), .int .u8 0, .int .u8 0, .int .u8 0, .int .i32 0] 96 (0, 0)) (by (with_reducible repeat (first | refine blk_drewN ?_ _ | refine blk_drew ?_ | refine blk_alloc ?_ _)); exact BK174.out)) : gb174 ≠ gb180)); have n9_ := Aside0.mk ((by rw [hg]; exact Nat.ne_of_gt (blk_lt (g := gb174) (o := .cells #[.int .i64 (wrap64 (Int.tdiv (wrap64 (a0)) t173)), .int .u8 0, .int .u8 0, .int .u8 0, .int .i32 0] 96 (0, 0)) (by (with_reducible repeat (first | refine blk_drewN ?_ _ | refine blk_drew ?_ | refine blk_alloc ?_ _)); exact BK174.out)) : gb180 ≠ gb174)); clear BK172; clear BK174; clear HB; have BK172 := n0_; have BK174 := n1_; have HB := n2_; have BK180 := n3_; have GW180 := n4_; have GE180 := n5_; have NB172_180 := n6_; have NB180_172 := n7_; have NB174_180 := n8_; have NB180_174 := n9_; clear n0_ n1_ n2_ n3_ n4_ n5_ n6_ n7_ n8_ n9_; clear hb hbox hg; have hnb16 := NB180_172.out; have hnc16 := NB172_180.out; have hnb17 := NB180_174.out; have hnc17 := NB174_180.out; have hcz18_0 : w15.cell? ⟨gb180, 0, none⟩ = some (.string (⟨#[]⟩ : ByteArray)) := (blk_cell BK180.out 0).trans rfl; have hcz18_1 : w15.cell? ⟨gb180, 1, none⟩ = some (.int .i64 0) := (blk_cell BK180.out 1).trans rfl; have hcz18_2 : w15.cell? ⟨gb180, 2, none⟩ = some (.int .u8 0) := (blk_cell BK180.out 2).trans rfl; have hcz18_3 : w15.cell? ⟨gb180, 3, none⟩ = some (.int .u8 0) := (blk_cell BK180.out 3).trans rfl; have hfz18_0 := blk_frozen BK180.out 0; have hfz18_1 := blk_frozen BK180.out 1; have hfz18_2 := blk_frozen BK180.out 2; have hfz18_3 := blk_frozen BK180.out 3) | ((with_reducible refine gate_callee (f := 74) rfl ?_); refine goesL_ (some 31) rfl rfl Tryz.func74 (by kernel_rfl) rfl #[.int .i64 26] rfl (by (try simp only [List.map_toArray, List.map_cons, List.map_nil]); first | done | rfl | (simp only [List.length_drop, List.length_take]; rfl)) ?_; (with_reducible refine (q_power.calls k 26 t181 _ A6.out).mono ?_); rintro e w' ⟨rfl, ⟨nd, rfl⟩⟩; refine ⟨_, rfl, ?_⟩) | ((with_reducible refine gate_callee (f := 76) rfl ?_); refine goesL_ (some 36) rfl rfl Tryz.func76 (by kernel_rfl) rfl #[.int .i64 t176] rfl (by (try simp only [List.map_toArray, List.map_cons, List.map_nil]); first | done | rfl | (simp only [List.length_drop, List.length_take]; rfl)) ?_; (with_reducible refine (q_Fields.calls t176 t182 t183 _ A8.out).mono ?_); rintro e w' ⟨rfl, ⟨nd, rfl⟩⟩; refine ⟨_, rfl, ?_⟩) | ((with_reducible refine gate_callee (f := 74) rfl ?_); refine goesL_ (some 39) rfl rfl Tryz.func74 (by kernel_rfl) rfl #[.int .i64 22] rfl (by (try simp only [List.map_toArray, List.map_cons, List.map_nil]); first | done | rfl | (simp only [List.length_drop, List.length_take]; rfl)) ?_; (with_reducible refine (q_power.calls k 22 t184 _ A9.out).mono ?_); rintro e w' ⟨rfl, ⟨nd, rfl⟩⟩; refine ⟨_, rfl, ?_⟩))
       go_loopg [8, 11, 12] k (fun kq v8 v11 v12 w' => ∃ (x8_1 : Int) (x11_1 : Int) (x12_1 : Int) (x175001_1 : Int) (x175002_1 : Int) (x175003_1 : Int), v8 = .int .i64 x8_1 ∧ v11 = .int .i64 x11_1 ∧ v12 = .int .i64 x12_1 ∧ Aside0 (q_Decode.l0 kq x8_1 t182 t183 x11_1 x12_1 (wrap64 (Int.tdiv (wrap64 (a0)) t173)) x175001_1 x175002_1 x175003_1 0 t175 t176 t177 t178 = some (r1, r2, r3, r4, r5, r6)) ∧ Aside0 (kq ≤ k) ∧ Aside0 (w'.heap[gb172]? = some (.cells #[.int .i64 0, .int .u8 0, .int .u8 0, .int .u8 0, .int .i32 0] 96 (0, 0))) ∧ Aside0 (w'.heap[gb174]? = some (.cells #[.int .i64 (wrap64 (Int.tdiv (wrap64 (a0)) t173)), .int .u8 x175001_1, .int .u8 x175002_1, .int .u8 x175003_1, .int .i32 0] 96 (0, 0))) ∧ Aside0 (w'.heap[gb180]? = some (.cells #[.string t175, .int .i64 t176, .int .u8 t177, .int .u8 t178] 167 (0, 0))) ∧ Aside0 (Below w.heap.size w w'))
       case atStart => exact ⟨(Int.tmod (wrap64 (a0)) t181), (t184), (0), (0), (0), (0), (by first | rfl | (simp; done) | (simp [*]; done)), (by first | rfl | (simp; done) | (simp [*]; done)), (by first | rfl | (simp; done) | (simp [*]; done)), H', ⟨Nat.le_refl _⟩, ⟨by (with_reducible repeat (first | refine blk_drewN ?_ _ | refine blk_drew ?_ | refine blk_alloc ?_ _)); refine blk_far ?_ NB172_180.out _; (with_reducible repeat (first | refine blk_drewN ?_ _ | refine blk_drew ?_ | refine blk_alloc ?_ _)); refine blk_far ?_ NB172_180.out _; (with_reducible repeat (first | refine blk_drewN ?_ _ | refine blk_drew ?_ | refine blk_alloc ?_ _)); refine blk_far ?_ NB172_180.out _; (with_reducible repeat (first | refine blk_drewN ?_ _ | refine blk_drew ?_ | refine blk_alloc ?_ _)); refine blk_far ?_ NB172_180.out _; (with_reducible repeat (first | refine blk_drewN ?_ _ | refine blk_drew ?_ | refine blk_alloc ?_ _)); exact BK172.out⟩, ⟨by (with_reducible repeat (first | refine blk_drewN ?_ _ | refine blk_drew ?_ | refine blk_alloc ?_ _)); refine blk_far ?_ NB174_180.out _; (with_reducible repeat (first | refine blk_drewN ?_ _ | refine blk_drew ?_ | refine blk_alloc ?_ _)); refine blk_far ?_ NB174_180.out _; (with_reducible repeat (first | refine blk_drewN ?_ _ | refine blk_drew ?_ | refine blk_alloc ?_ _)); refine blk_far ?_ NB174_180.out _; (with_reducible repeat (first | refine blk_drewN ?_ _ | refine blk_drew ?_ | refine blk_alloc ?_ _)); refine blk_far ?_ NB174_180.out _; (with_reducible repeat (first | refine blk_drewN ?_ _ | refine blk_drew ?_ | refine blk_alloc ?_ _)); exact BK174.out⟩, ⟨by (with_reducible repeat (first | refine blk_drewN ?_ _ | refine blk_drew ?_ | refine blk_alloc ?_ _)); refine blk_put (cs := #[.string t175, .int .i64 t176, .int .u8 t177, .int .u8 0]) ?_ 3 _ rfl; (with_reducible repeat (first | refine blk_drewN ?_ _ | refine blk_drew ?_ | refine blk_alloc ?_ _)); refine blk_put (cs := #[.string t175, .int .i64 t176, .int .u8 0, .int .u8 0]) ?_ 2 _ rfl; (with_reducible repeat (first | refine blk_drewN ?_ _ | refine blk_drew ?_ | refine blk_alloc ?_ _)); refine blk_put (cs := #[.string t175, .int .i64 0, .int .u8 0, .int .u8 0]) ?_ 1 _ rfl; (with_reducible repeat (first | refine blk_drewN ?_ _ | refine blk_drew ?_ | refine blk_alloc ?_ _)); refine blk_put (cs := #[.string (⟨#[]⟩ : ByteArray), .int .i64 0, .int .u8 0, .int .u8 0]) ?_ 0 _ rfl; (with_reducible repeat (first | refine blk_drewN ?_ _ | refine blk_drew ?_ | refine blk_alloc ?_ _)); exact BK180.out⟩, ⟨by repeat (first | (with_reducible first | exact HB.out | apply below_alloc | apply pw_below_drewN | apply below_drew1 | refine below_set ?_ GE172.out | refine below_set ?_ GE174.out | refine below_set ?_ GE180.out) | exact HB.out)⟩⟩
       case round =>
        clear H'
        try clear c1
        try clear p2
        try clear c3
        try clear c3b0
        try clear c3b1
        try clear c5
        try clear p6
        try clear c7
        try clear c7b0
        try clear c7b1
        try clear c12
        try clear c16
        try clear c17
        try clear hcz13_0
        try clear hcz13_1
        try clear hcz13_2
        try clear hcz13_3
        try clear hcz13_4
        try clear hcz18_0
        try clear hcz18_1
        try clear hcz18_2
        try clear hcz18_3
        try clear hfz13_0
        try clear hfz13_1
        try clear hfz13_2
        try clear hfz13_3
        try clear hfz13_4
        try clear hfz18_0
        try clear hfz18_1
        try clear hfz18_2
        try clear hfz18_3
        obtain ⟨x8_1, x11_1, x12_1, x175001_1, x175002_1, x175003_1, rfl, rfl, rfl, HA, HK1, BK172, BK174, BK180, HB⟩ := hrel
        cases gk with
        | zero => exact absurd HA.out (by simp [q_Decode.l0])
        | succ k1 =>
         have H := HA.out
         clear HA
         simp only [q_Decode.l0] at H
         by_cases c19 : x12_1 < (t182.size : Int)
         · rw [if_pos c19] at H
           have c19b0 : decide (x12_1 < (t182.size : Int)) = true := decide_eq_true c19
           clear c19
           by_cases c20 : x11_1 = 0
           · rw [if_pos c20] at H
             exact absurd H (by simp)
           · rw [if_neg c20] at H
             have c20b0 : (x11_1 == 0) = false := beq_eq_false_iff_ne.mpr c20
             have c20b1 : (x11_1 != 0) = true := bne_iff_ne.mpr c20
             by_cases c21 : 0 ≤ x12_1
             · rw [if_pos c21] at H
               have c21b0 : decide (0 ≤ x12_1) = true := decide_eq_true c21
               clear c21
               by_cases c23 : (bt t182 x12_1) = 68
               · rw [if_pos c23] at H
                 have c23b0 : ((bt t182 x12_1) == 68) = true := beq_iff_eq.mpr c23
                 have c23b1 : ((bt t182 x12_1) != 68) = false := bne_eq_false_iff_eq.mpr c23
                 clear c23
                 have H' := Aside0.mk H
                 clear H
                 have p22 : 0 ≤ (x12_1 : Int) := of_decide_eq_true (by first | (with_reducible assumption) | assumption)
                 have q22 : x12_1 < (t182.size : Int) := of_decide_eq_true (by first | (with_reducible assumption) | assumption)
                 have hx22 := bt_at t182 x12_1
                 replace p22 := eq_true p22
                 replace q22 := eq_true q22
                 have hnb24 := NB174_172.out
                 have hnc24 := NB172_174.out
                 have hnb25 := NB174_180.out
                 have hnc25 := NB180_174.out
                 have hcz26_0 : wr.cell? ⟨gb174, 0, none⟩ = some (.int .i64 (wrap64 (Int.tdiv (wrap64 (a0)) t173))) := (blk_cell BK174.out 0).trans rfl
                 have hcz26_1 : wr.cell? ⟨gb174, 1, none⟩ = some (.int .u8 x175001_1) := (blk_cell BK174.out 1).trans rfl
                 have hcz26_2 : wr.cell? ⟨gb174, 2, none⟩ = some (.int .u8 x175002_1) := (blk_cell BK174.out 2).trans rfl
                 have hcz26_3 : wr.cell? ⟨gb174, 3, none⟩ = some (.int .u8 x175003_1) := (blk_cell BK174.out 3).trans rfl
                 have hcz26_4 : wr.cell? ⟨gb174, 4, none⟩ = some (.int .i32 0) := (blk_cell BK174.out 4).trans rfl
                 have hfz26_0 := blk_frozen BK174.out 0
                 have hfz26_1 := blk_frozen BK174.out 1
                 have hfz26_2 := blk_frozen BK174.out 2
                 have hfz26_3 := blk_frozen BK174.out 3
                 have hfz26_4 := blk_frozen BK174.out 4
                 go_wp2
                 go_roundg k1
                 case measure => have := HK1.out; omega
                 case rel => exact ⟨(Int.tmod x8_1 x11_1), (wrap64 (Int.tdiv x11_1 16)), (wrap64 (x12_1 + 1)), ((wrap64 (Int.tdiv x8_1 x11_1)) % 256), (x175002_1), (x175003_1), (by first | rfl | (simp; done) | (simp [*]; done)), (by first | rfl | (simp; done) | (simp [*]; done)), (by first | rfl | (simp; done) | (simp [*]; done)), H', ⟨by have := HK1.out; omega⟩, ⟨by (with_reducible repeat (first | refine blk_drewN ?_ _ | refine blk_drew ?_ | refine blk_alloc ?_ _)); refine blk_far ?_ NB172_174.out _; (with_reducible repeat (first | refine blk_drewN ?_ _ | refine blk_drew ?_ | refine blk_alloc ?_ _)); exact BK172.out⟩, ⟨by (with_reducible repeat (first | refine blk_drewN ?_ _ | refine blk_drew ?_ | refine blk_alloc ?_ _)); refine blk_put (cs := #[.int .i64 (wrap64 (Int.tdiv (wrap64 (a0)) t173)), .int .u8 x175001_1, .int .u8 x175002_1, .int .u8 x175003_1, .int .i32 0]) ?_ 1 _ rfl; (with_reducible repeat (first | refine blk_drewN ?_ _ | refine blk_drew ?_ | refine blk_alloc ?_ _)); exact BK174.out⟩, ⟨by (with_reducible repeat (first | refine blk_drewN ?_ _ | refine blk_drew ?_ | refine blk_alloc ?_ _)); refine blk_far ?_ NB180_174.out _; (with_reducible repeat (first | refine blk_drewN ?_ _ | refine blk_drew ?_ | refine blk_alloc ?_ _)); exact BK180.out⟩, ⟨by repeat (first | (with_reducible first | exact HB.out | apply below_alloc | apply pw_below_drewN | apply below_drew1 | refine below_set ?_ GE172.out | refine below_set ?_ GE174.out | refine below_set ?_ GE180.out) | exact HB.out)⟩⟩
               · rw [if_neg c23] at H
                 have c23b0 : ((bt t182 x12_1) == 68) = false := beq_eq_false_iff_ne.mpr c23
                 have c23b1 : ((bt t182 x12_1) != 68) = true := bne_iff_ne.mpr c23
                 by_cases c27 : (bt t182 x12_1) = 65
                 · rw [if_pos c27] at H
                   have c27b0 : ((bt t182 x12_1) == 65) = true := beq_iff_eq.mpr c27
                   have c27b1 : ((bt t182 x12_1) != 65) = false := bne_eq_false_iff_eq.mpr c27
                   clear c27
                   have H' := Aside0.mk H
                   clear H
                   have p22 : 0 ≤ (x12_1 : Int) := of_decide_eq_true (by first | (with_reducible assumption) | assumption)
                   have q22 : x12_1 < (t182.size : Int) := of_decide_eq_true (by first | (with_reducible assumption) | assumption)
                   have hx22 := bt_at t182 x12_1
                   replace p22 := eq_true p22
                   replace q22 := eq_true q22
                   have hnb28 := NB174_172.out
                   have hnc28 := NB172_174.out
                   have hnb29 := NB174_180.out
                   have hnc29 := NB180_174.out
                   have hcz30_0 : wr.cell? ⟨gb174, 0, none⟩ = some (.int .i64 (wrap64 (Int.tdiv (wrap64 (a0)) t173))) := (blk_cell BK174.out 0).trans rfl
                   have hcz30_1 : wr.cell? ⟨gb174, 1, none⟩ = some (.int .u8 x175001_1) := (blk_cell BK174.out 1).trans rfl
                   have hcz30_2 : wr.cell? ⟨gb174, 2, none⟩ = some (.int .u8 x175002_1) := (blk_cell BK174.out 2).trans rfl
                   have hcz30_3 : wr.cell? ⟨gb174, 3, none⟩ = some (.int .u8 x175003_1) := (blk_cell BK174.out 3).trans rfl
                   have hcz30_4 : wr.cell? ⟨gb174, 4, none⟩ = some (.int .i32 0) := (blk_cell BK174.out 4).trans rfl
                   have hfz30_0 := blk_frozen BK174.out 0
                   have hfz30_1 := blk_frozen BK174.out 1
                   have hfz30_2 := blk_frozen BK174.out 2
                   have hfz30_3 := blk_frozen BK174.out 3
                   have hfz30_4 := blk_frozen BK174.out 4
                   go_wp2
                   go_roundg k1
                   case measure => have := HK1.out; omega
                   case rel => exact ⟨(Int.tmod x8_1 x11_1), (wrap64 (Int.tdiv x11_1 16)), (wrap64 (x12_1 + 1)), (x175001_1), ((wrap64 (Int.tdiv x8_1 x11_1)) % 256), (x175003_1), (by first | rfl | (simp; done) | (simp [*]; done)), (by first | rfl | (simp; done) | (simp [*]; done)), (by first | rfl | (simp; done) | (simp [*]; done)), H', ⟨by have := HK1.out; omega⟩, ⟨by (with_reducible repeat (first | refine blk_drewN ?_ _ | refine blk_drew ?_ | refine blk_alloc ?_ _)); refine blk_far ?_ NB172_174.out _; (with_reducible repeat (first | refine blk_drewN ?_ _ | refine blk_drew ?_ | refine blk_alloc ?_ _)); exact BK172.out⟩, ⟨by (with_reducible repeat (first | refine blk_drewN ?_ _ | refine blk_drew ?_ | refine blk_alloc ?_ _)); refine blk_put (cs := #[.int .i64 (wrap64 (Int.tdiv (wrap64 (a0)) t173)), .int .u8 x175001_1, .int .u8 x175002_1, .int .u8 x175003_1, .int .i32 0]) ?_ 2 _ rfl; (with_reducible repeat (first | refine blk_drewN ?_ _ | refine blk_drew ?_ | refine blk_alloc ?_ _)); exact BK174.out⟩, ⟨by (with_reducible repeat (first | refine blk_drewN ?_ _ | refine blk_drew ?_ | refine blk_alloc ?_ _)); refine blk_far ?_ NB180_174.out _; (with_reducible repeat (first | refine blk_drewN ?_ _ | refine blk_drew ?_ | refine blk_alloc ?_ _)); exact BK180.out⟩, ⟨by repeat (first | (with_reducible first | exact HB.out | apply below_alloc | apply pw_below_drewN | apply below_drew1 | refine below_set ?_ GE172.out | refine below_set ?_ GE174.out | refine below_set ?_ GE180.out) | exact HB.out)⟩⟩
                 · rw [if_neg c27] at H
                   have c27b0 : ((bt t182 x12_1) == 65) = false := beq_eq_false_iff_ne.mpr c27
                   have c27b1 : ((bt t182 x12_1) != 65) = true := bne_iff_ne.mpr c27
                   have H' := Aside0.mk H
                   clear H
                   have p22 : 0 ≤ (x12_1 : Int) := of_decide_eq_true (by first | (with_reducible assumption) | assumption)
                   have q22 : x12_1 < (t182.size : Int) := of_decide_eq_true (by first | (with_reducible assumption) | assumption)
                   have hx22 := bt_at t182 x12_1
                   replace p22 := eq_true p22
                   replace q22 := eq_true q22
                   have hnb31 := NB174_172.out
                   have hnc31 := NB172_174.out
                   have hnb32 := NB174_180.out
                   have hnc32 := NB180_174.out
                   have hcz33_0 : wr.cell? ⟨gb174, 0, none⟩ = some (.int .i64 (wrap64 (Int.tdiv (wrap64 (a0)) t173))) := (blk_cell BK174.out 0).trans rfl
                   have hcz33_1 : wr.cell? ⟨gb174, 1, none⟩ = some (.int .u8 x175001_1) := (blk_cell BK174.out 1).trans rfl
                   have hcz33_2 : wr.cell? ⟨gb174, 2, none⟩ = some (.int .u8 x175002_1) := (blk_cell BK174.out 2).trans rfl
                   have hcz33_3 : wr.cell? ⟨gb174, 3, none⟩ = some (.int .u8 x175003_1) := (blk_cell BK174.out 3).trans rfl
                   have hcz33_4 : wr.cell? ⟨gb174, 4, none⟩ = some (.int .i32 0) := (blk_cell BK174.out 4).trans rfl
                   have hfz33_0 := blk_frozen BK174.out 0
                   have hfz33_1 := blk_frozen BK174.out 1
                   have hfz33_2 := blk_frozen BK174.out 2
                   have hfz33_3 := blk_frozen BK174.out 3
                   have hfz33_4 := blk_frozen BK174.out 4
                   go_wp2
                   go_roundg k1
                   case measure => have := HK1.out; omega
                   case rel => exact ⟨(Int.tmod x8_1 x11_1), (wrap64 (Int.tdiv x11_1 16)), (wrap64 (x12_1 + 1)), (x175001_1), (x175002_1), ((wrap64 (Int.tdiv x8_1 x11_1)) % 256), (by first | rfl | (simp; done) | (simp [*]; done)), (by first | rfl | (simp; done) | (simp [*]; done)), (by first | rfl | (simp; done) | (simp [*]; done)), H', ⟨by have := HK1.out; omega⟩, ⟨by (with_reducible repeat (first | refine blk_drewN ?_ _ | refine blk_drew ?_ | refine blk_alloc ?_ _)); refine blk_far ?_ NB172_174.out _; (with_reducible repeat (first | refine blk_drewN ?_ _ | refine blk_drew ?_ | refine blk_alloc ?_ _)); exact BK172.out⟩, ⟨by (with_reducible repeat (first | refine blk_drewN ?_ _ | refine blk_drew ?_ | refine blk_alloc ?_ _)); refine blk_put (cs := #[.int .i64 (wrap64 (Int.tdiv (wrap64 (a0)) t173)), .int .u8 x175001_1, .int .u8 x175002_1, .int .u8 x175003_1, .int .i32 0]) ?_ 3 _ rfl; (with_reducible repeat (first | refine blk_drewN ?_ _ | refine blk_drew ?_ | refine blk_alloc ?_ _)); exact BK174.out⟩, ⟨by (with_reducible repeat (first | refine blk_drewN ?_ _ | refine blk_drew ?_ | refine blk_alloc ?_ _)); refine blk_far ?_ NB180_174.out _; (with_reducible repeat (first | refine blk_drewN ?_ _ | refine blk_drew ?_ | refine blk_alloc ?_ _)); exact BK180.out⟩, ⟨by repeat (first | (with_reducible first | exact HB.out | apply below_alloc | apply pw_below_drewN | apply below_drew1 | refine below_set ?_ GE172.out | refine below_set ?_ GE174.out | refine below_set ?_ GE180.out) | exact HB.out)⟩⟩
             · rw [if_neg c21] at H
               exact absurd H (by simp)
         · rw [if_neg c19] at H
           have c19b0 : decide (x12_1 < (t182.size : Int)) = false := decide_eq_false c19
           clear c19
           replace H := Option.bind_eq_some_iff.mp H
           obtain ⟨t185, A340, H⟩ := H
           replace H : (if x8_1 ≥ t185 then (some (0, 0, 0, 0, 0, 103)) else (if t177 = 115 then ((q_power.f k1 (wrap64 (t183 - 1))).bind fun t186 => (q_Decode.j1 k1 x8_1 t183 (decide (x8_1 ≥ t186)) (wrap64 (Int.tdiv (wrap64 (a0)) t173)) x175001_1 x175002_1 x175003_1 0 t175 t176 t177 t178)) else (q_Decode.j1 k1 x8_1 t183 false (wrap64 (Int.tdiv (wrap64 (a0)) t173)) x175001_1 x175002_1 x175003_1 0 t175 t176 t177 t178))) = some (r1, r2, r3, r4, r5, r6) := H
           have A34 := Aside0.mk A340
           clear A340
           by_cases c35 : x8_1 ≥ t185
           · rw [if_pos c35] at H
             have c35b0 : decide (t185 ≤ x8_1) = true := decide_eq_true c35
             clear c35
             simp only [Option.some.injEq, Prod.mk.injEq] at H
             obtain ⟨rfl, rfl, rfl, rfl, rfl, rfl⟩ := H
             go_wp2_with (first | ((with_reducible refine gate_callee (f := 74) rfl ?_); refine goesL_ (some 70) rfl rfl Tryz.func74 (by kernel_rfl) rfl #[.int .i64 t183] rfl (by (try simp only [List.map_toArray, List.map_cons, List.map_nil]); first | done | rfl | (simp only [List.length_drop, List.length_take]; rfl)) ?_; (with_reducible refine (q_power.calls k1 t183 t185 _ A34.out).mono ?_); rintro e w' ⟨rfl, ⟨nd, rfl⟩⟩; refine ⟨_, rfl, ?_⟩; (try (rw [drewN_self wr]; generalize hq_ : World.drewN wr _ = wr; have n0_ : Aside0 (wr.heap[gb172]? = some (.cells #[.int .i64 0, .int .u8 0, .int .u8 0, .int .u8 0, .int .i32 0] 96 (0, 0))) := ⟨by rw [← hq_]; exact (by (with_reducible repeat (first | refine blk_drewN ?_ _ | refine blk_drew ?_ | refine blk_alloc ?_ _)); exact BK172.out)⟩; have n1_ : Aside0 (wr.heap[gb174]? = some (.cells #[.int .i64 (wrap64 (Int.tdiv (wrap64 (a0)) t173)), .int .u8 x175001_1, .int .u8 x175002_1, .int .u8 x175003_1, .int .i32 0] 96 (0, 0))) := ⟨by rw [← hq_]; exact (by (with_reducible repeat (first | refine blk_drewN ?_ _ | refine blk_drew ?_ | refine blk_alloc ?_ _)); exact BK174.out)⟩; have n2_ : Aside0 (wr.heap[gb180]? = some (.cells #[.string t175, .int .i64 t176, .int .u8 t177, .int .u8 t178] 167 (0, 0))) := ⟨by rw [← hq_]; exact (by (with_reducible repeat (first | refine blk_drewN ?_ _ | refine blk_drew ?_ | refine blk_alloc ?_ _)); exact BK180.out)⟩; have n3_ : Aside0 (Below w.heap.size w wr) := ⟨by rw [← hq_]; exact (by repeat (first | (with_reducible first | exact HB.out | apply below_alloc | apply pw_below_drewN | apply below_drew1 | refine below_set ?_ GE172.out | refine below_set ?_ GE174.out | refine below_set ?_ GE180.out) | exact HB.out))⟩; clear BK172 BK174 BK180 HB hq_; have BK172 := n0_; have BK174 := n1_; have BK180 := n2_; have HB := n3_; clear n0_ n1_ n2_ n3_)); have hnb36 := NB172_174.out; have hnc36 := NB174_172.out; have hnb37 := NB172_180.out; have hnc37 := NB180_172.out; have hcz38_0 : wr.cell? ⟨gb172, 0, none⟩ = some (.int .i64 0) := (blk_cell BK172.out 0).trans rfl; have hcz38_1 : wr.cell? ⟨gb172, 1, none⟩ = some (.int .u8 0) := (blk_cell BK172.out 1).trans rfl; have hcz38_2 : wr.cell? ⟨gb172, 2, none⟩ = some (.int .u8 0) := (blk_cell BK172.out 2).trans rfl; have hcz38_3 : wr.cell? ⟨gb172, 3, none⟩ = some (.int .u8 0) := (blk_cell BK172.out 3).trans rfl; have hcz38_4 : wr.cell? ⟨gb172, 4, none⟩ = some (.int .i32 0) := (blk_cell BK172.out 4).trans rfl; have hfz38_0 := blk_frozen BK172.out 0; have hfz38_1 := blk_frozen BK172.out 1; have hfz38_2 := blk_frozen BK172.out 2; have hfz38_3 := blk_frozen BK172.out 3; have hfz38_4 := blk_frozen BK172.out 4))
             refine bodyPost_ret (results_ct rfl _ _ gb172 96 #[.int .i64 0, .int .u8 0, .int .u8 0, .int .u8 0, .int .i32 0] (0, 0) _ rfl (by (with_reducible repeat (first | refine blk_drewN ?_ _ | refine blk_drew ?_ | refine blk_alloc ?_ _)); refine blk_put (cs := #[.int .i64 0, .int .u8 0, .int .u8 0, .int .u8 0, .int .i32 0]) ?_ 4 _ rfl; (with_reducible repeat (first | refine blk_drewN ?_ _ | refine blk_drew ?_ | refine blk_alloc ?_ _)); refine blk_put (cs := #[.int .i64 0, .int .u8 0, .int .u8 0, .int .u8 0, .int .i32 0]) ?_ 3 _ rfl; (with_reducible repeat (first | refine blk_drewN ?_ _ | refine blk_drew ?_ | refine blk_alloc ?_ _)); refine blk_put (cs := #[.int .i64 0, .int .u8 0, .int .u8 0, .int .u8 0, .int .i32 0]) ?_ 2 _ rfl; (with_reducible repeat (first | refine blk_drewN ?_ _ | refine blk_drew ?_ | refine blk_alloc ?_ _)); refine blk_put (cs := #[.int .i64 0, .int .u8 0, .int .u8 0, .int .u8 0, .int .i32 0]) ?_ 1 _ rfl; (with_reducible repeat (first | refine blk_drewN ?_ _ | refine blk_drew ?_ | refine blk_alloc ?_ _)); refine blk_put (cs := #[.int .i64 0, .int .u8 0, .int .u8 0, .int .u8 0, .int .i32 0]) ?_ 0 _ rfl; (with_reducible repeat (first | refine blk_drewN ?_ _ | refine blk_drew ?_ | refine blk_alloc ?_ _)); exact BK172.out) Tryz.underlying96 rfl (by kernel_rfl)) rfl ?_
             exact ⟨by first | rfl | (simp [errW_none, errW_some] <;> rfl) | (simp [*, errW_none, errW_some] <;> rfl), by repeat (first | (with_reducible first | exact HB.out | apply below_alloc | apply pw_below_drewN | apply below_drew1 | refine below_set ?_ GE172.out | refine below_set ?_ GE174.out | refine below_set ?_ GE180.out) | exact HB.out)⟩
           · rw [if_neg c35] at H
             have c35b0 : decide (t185 ≤ x8_1) = false := decide_eq_false c35
             clear c35
             have HC39 := Aside0.mk H
             clear H
             go_upto_region 23 with (first | ((with_reducible refine gate_callee (f := 74) rfl ?_); refine goesL_ (some 70) rfl rfl Tryz.func74 (by kernel_rfl) rfl #[.int .i64 t183] rfl (by (try simp only [List.map_toArray, List.map_cons, List.map_nil]); first | done | rfl | (simp only [List.length_drop, List.length_take]; rfl)) ?_; (with_reducible refine (q_power.calls k1 t183 t185 _ A34.out).mono ?_); rintro e w' ⟨rfl, ⟨nd, rfl⟩⟩; refine ⟨_, rfl, ?_⟩))
             (try simp only [Act.put, List.setIfInBounds_toArray, List.set_cons_zero, List.set_cons_succ])
             go_cut [82] (fun v82 wc => ∃ (kq : Nat) (x82_38 : Bool), v82 = .bool x82_38 ∧ Aside0 (q_Decode.j1 kq x8_1 t183 x82_38 (wrap64 (Int.tdiv (wrap64 (a0)) t173)) x175001_1 x175002_1 x175003_1 0 t175 t176 t177 t178 = some (r1, r2, r3, r4, r5, r6)) ∧ Aside0 (kq ≤ k1) ∧ Aside0 (wc.heap[gb172]? = some (.cells #[.int .i64 0, .int .u8 0, .int .u8 0, .int .u8 0, .int .i32 0] 96 (0, 0))) ∧ Aside0 (wc.heap[gb174]? = some (.cells #[.int .i64 (wrap64 (Int.tdiv (wrap64 (a0)) t173)), .int .u8 x175001_1, .int .u8 x175002_1, .int .u8 x175003_1, .int .i32 0] 96 (0, 0))) ∧ Aside0 (wc.heap[gb180]? = some (.cells #[.string t175, .int .i64 t176, .int .u8 t177, .int .u8 t178] 167 (0, 0))) ∧ Aside0 (Below w.heap.size w wc))
             case first =>
              have H := HC39.out
              clear HC39
              by_cases c40 : t177 = 115
              · rw [if_pos c40] at H
                have c40b0 : (t177 == 115) = true := beq_iff_eq.mpr c40
                have c40b1 : (t177 != 115) = false := bne_eq_false_iff_eq.mpr c40
                clear c40
                (first | rw [c40b0] | (simp only [i64_w, i32_w]; rw [c40b0]) | skip)
                replace H := Option.bind_eq_some_iff.mp H
                obtain ⟨t186, A410, H⟩ := H
                replace H : (q_Decode.j1 k1 x8_1 t183 (decide (x8_1 ≥ t186)) (wrap64 (Int.tdiv (wrap64 (a0)) t173)) x175001_1 x175002_1 x175003_1 0 t175 t176 t177 t178) = some (r1, r2, r3, r4, r5, r6) := H
                have A41 := Aside0.mk A410
                clear A410
                have H' := Aside0.mk H
                clear H
                have hnb42 := NB180_172.out
                have hnc42 := NB172_180.out
                have hnb43 := NB180_174.out
                have hnc43 := NB174_180.out
                have hcz44_0 : wr.cell? ⟨gb180, 0, none⟩ = some (.string t175) := (blk_cell BK180.out 0).trans rfl
                have hcz44_1 : wr.cell? ⟨gb180, 1, none⟩ = some (.int .i64 t176) := (blk_cell BK180.out 1).trans rfl
                have hcz44_2 : wr.cell? ⟨gb180, 2, none⟩ = some (.int .u8 t177) := (blk_cell BK180.out 2).trans rfl
                have hcz44_3 : wr.cell? ⟨gb180, 3, none⟩ = some (.int .u8 t178) := (blk_cell BK180.out 3).trans rfl
                have hfz44_0 := blk_frozen BK180.out 0
                have hfz44_1 := blk_frozen BK180.out 1
                have hfz44_2 := blk_frozen BK180.out 2
                have hfz44_3 := blk_frozen BK180.out 3
                go_wp2_with (first | (go_at_call 74; (with_reducible refine (q_power.calls k1 (wrap64 (t183 - 1)) t186 _ A41.out).mono ?_); rintro e w' ⟨rfl, ⟨nd, rfl⟩⟩))
                go_meet
                case rel => exact ⟨_, (decide (x8_1 ≥ t186)), (by first | rfl | (simp; done) | (simp [*]; done)), H', ⟨by have := HK1.out; first | omega | exact Nat.le_refl _⟩, ⟨by (with_reducible repeat (first | refine blk_drewN ?_ _ | refine blk_drew ?_ | refine blk_alloc ?_ _)); exact BK172.out⟩, ⟨by (with_reducible repeat (first | refine blk_drewN ?_ _ | refine blk_drew ?_ | refine blk_alloc ?_ _)); exact BK174.out⟩, ⟨by (with_reducible repeat (first | refine blk_drewN ?_ _ | refine blk_drew ?_ | refine blk_alloc ?_ _)); exact BK180.out⟩, ⟨by repeat (first | (with_reducible first | exact HB.out | apply below_alloc | apply pw_below_drewN | apply below_drew1 | refine below_set ?_ GE172.out | refine below_set ?_ GE174.out | refine below_set ?_ GE180.out) | exact HB.out)⟩⟩
              · rw [if_neg c40] at H
                have c40b0 : (t177 == 115) = false := beq_eq_false_iff_ne.mpr c40
                have c40b1 : (t177 != 115) = true := bne_iff_ne.mpr c40
                (first | rw [c40b0] | (simp only [i64_w, i32_w]; rw [c40b0]) | skip)
                have H' := Aside0.mk H
                clear H
                have hnb45 := NB180_172.out
                have hnc45 := NB172_180.out
                have hnb46 := NB180_174.out
                have hnc46 := NB174_180.out
                have hcz47_0 : wr.cell? ⟨gb180, 0, none⟩ = some (.string t175) := (blk_cell BK180.out 0).trans rfl
                have hcz47_1 : wr.cell? ⟨gb180, 1, none⟩ = some (.int .i64 t176) := (blk_cell BK180.out 1).trans rfl
                have hcz47_2 : wr.cell? ⟨gb180, 2, none⟩ = some (.int .u8 t177) := (blk_cell BK180.out 2).trans rfl
                have hcz47_3 : wr.cell? ⟨gb180, 3, none⟩ = some (.int .u8 t178) := (blk_cell BK180.out 3).trans rfl
                have hfz47_0 := blk_frozen BK180.out 0
                have hfz47_1 := blk_frozen BK180.out 1
                have hfz47_2 := blk_frozen BK180.out 2
                have hfz47_3 := blk_frozen BK180.out 3
                go_wp2
                go_meet
                case rel => exact ⟨_, (false), (by first | rfl | (simp; done) | (simp [*]; done)), H', ⟨by have := HK1.out; first | omega | exact Nat.le_refl _⟩, ⟨by (with_reducible repeat (first | refine blk_drewN ?_ _ | refine blk_drew ?_ | refine blk_alloc ?_ _)); exact BK172.out⟩, ⟨by (with_reducible repeat (first | refine blk_drewN ?_ _ | refine blk_drew ?_ | refine blk_alloc ?_ _)); exact BK174.out⟩, ⟨by (with_reducible repeat (first | refine blk_drewN ?_ _ | refine blk_drew ?_ | refine blk_alloc ?_ _)); exact BK180.out⟩, ⟨by repeat (first | (with_reducible first | exact HB.out | apply below_alloc | apply pw_below_drewN | apply below_drew1 | refine below_set ?_ GE172.out | refine below_set ?_ GE174.out | refine below_set ?_ GE180.out) | exact HB.out)⟩⟩
             case rest =>
              clear HC39
              try clear c1
              try clear c2
              try clear p2
              try clear q2
              try clear hx2
              try clear c3
              try clear c3b0
              try clear c3b1
              try clear c4
              try clear c5
              try clear p6
              try clear c7
              try clear c7b0
              try clear c7b1
              try clear c12
              try clear c16
              try clear c17
              try clear c19
              try clear c19b0
              try clear c20
              try clear c20b0
              try clear c20b1
              try clear c21
              try clear c21b0
              try clear p22
              try clear q22
              try clear hx22
              try clear c23
              try clear c23b0
              try clear c23b1
              try clear c24
              try clear c25
              try clear c27
              try clear c27b0
              try clear c27b1
              try clear c28
              try clear c29
              try clear c31
              try clear c32
              try clear c35
              try clear c35b0
              try clear c36
              try clear c37
              try clear c39
              try clear c40
              try clear c40b0
              try clear c40b1
              try clear c42
              try clear c43
              try clear c45
              try clear c46
              try clear hcz13_0
              try clear hcz13_1
              try clear hcz13_2
              try clear hcz13_3
              try clear hcz13_4
              try clear hcz18_0
              try clear hcz18_1
              try clear hcz18_2
              try clear hcz18_3
              try clear hcz26_0
              try clear hcz26_1
              try clear hcz26_2
              try clear hcz26_3
              try clear hcz26_4
              try clear hcz30_0
              try clear hcz30_1
              try clear hcz30_2
              try clear hcz30_3
              try clear hcz30_4
              try clear hcz33_0
              try clear hcz33_1
              try clear hcz33_2
              try clear hcz33_3
              try clear hcz33_4
              try clear hcz38_0
              try clear hcz38_1
              try clear hcz38_2
              try clear hcz38_3
              try clear hcz38_4
              try clear hcz44_0
              try clear hcz44_1
              try clear hcz44_2
              try clear hcz44_3
              try clear hcz47_0
              try clear hcz47_1
              try clear hcz47_2
              try clear hcz47_3
              try clear hfz13_0
              try clear hfz13_1
              try clear hfz13_2
              try clear hfz13_3
              try clear hfz13_4
              try clear hfz18_0
              try clear hfz18_1
              try clear hfz18_2
              try clear hfz18_3
              try clear hfz26_0
              try clear hfz26_1
              try clear hfz26_2
              try clear hfz26_3
              try clear hfz26_4
              try clear hfz30_0
              try clear hfz30_1
              try clear hfz30_2
              try clear hfz30_3
              try clear hfz30_4
              try clear hfz33_0
              try clear hfz33_1
              try clear hfz33_2
              try clear hfz33_3
              try clear hfz33_4
              try clear hfz38_0
              try clear hfz38_1
              try clear hfz38_2
              try clear hfz38_3
              try clear hfz38_4
              try clear hfz44_0
              try clear hfz44_1
              try clear hfz44_2
              try clear hfz44_3
              try clear hfz47_0
              try clear hfz47_1
              try clear hfz47_2
              try clear hfz47_3
              try clear p2
              try clear p22
              try clear p6
              try clear q22
              obtain ⟨kq, x82_38, rfl, HA, HJ38, BK172, BK174, BK180, HB⟩ := hcut
              cases kq with
              | zero => exact absurd HA.out (by simp [q_Decode.j1])
              | succ kj38 =>
               have H := HA.out
               clear HA
               simp only [q_Decode.j1] at H
               by_cases c48 : x82_38 = true
               · subst c48
                 have H1 : ((q_power.f kj38 t183).bind fun t187 => ((q_takes.f kj38 t177 t183 (wrap64 (x8_1 - t187))).bind fun t188 => (if t188 = true then (some ((wrap64 (Int.tdiv (wrap64 (a0)) t173)), x175001_1, x175002_1, x175003_1, wrap32 (wrap64 (x8_1 - t187)), 0)) else (some (0, 0, 0, 0, 0, 102))))) = some (r1, r2, r3, r4, r5, r6) := by rw [if_pos rfl] at H; exact H
                 clear H
                 have H := H1
                 clear H1
                 replace H := Option.bind_eq_some_iff.mp H
                 obtain ⟨t187, A490, H⟩ := H
                 replace H : ((q_takes.f kj38 t177 t183 (wrap64 (x8_1 - t187))).bind fun t188 => (if t188 = true then (some ((wrap64 (Int.tdiv (wrap64 (a0)) t173)), x175001_1, x175002_1, x175003_1, wrap32 (wrap64 (x8_1 - t187)), 0)) else (some (0, 0, 0, 0, 0, 102)))) = some (r1, r2, r3, r4, r5, r6) := H
                 have A49 := Aside0.mk A490
                 clear A490
                 replace H := Option.bind_eq_some_iff.mp H
                 obtain ⟨t188, A500, H⟩ := H
                 replace H : (if t188 = true then (some ((wrap64 (Int.tdiv (wrap64 (a0)) t173)), x175001_1, x175002_1, x175003_1, wrap32 (wrap64 (x8_1 - t187)), 0)) else (some (0, 0, 0, 0, 0, 102))) = some (r1, r2, r3, r4, r5, r6) := H
                 have A50 := Aside0.mk A500
                 clear A500
                 by_cases c51 : t188 = true
                 · subst c51
                   have H1 : (some ((wrap64 (Int.tdiv (wrap64 (a0)) t173)), x175001_1, x175002_1, x175003_1, wrap32 (wrap64 (x8_1 - t187)), 0)) = some (r1, r2, r3, r4, r5, r6) := by rw [if_pos rfl] at H; exact H
                   clear H
                   have H := H1
                   clear H1
                   simp only [Option.some.injEq, Prod.mk.injEq] at H
                   obtain ⟨rfl, rfl, rfl, rfl, rfl, rfl⟩ := H
                   go_wp2_with (first | ((with_reducible refine gate_callee (f := 74) rfl ?_); refine goesL_ (some 85) rfl rfl Tryz.func74 (by kernel_rfl) rfl #[.int .i64 t183] rfl (by (try simp only [List.map_toArray, List.map_cons, List.map_nil]); first | done | rfl | (simp only [List.length_drop, List.length_take]; rfl)) ?_; (with_reducible refine (q_power.calls kj38 t183 t187 _ A49.out).mono ?_); rintro e w' ⟨rfl, ⟨nd, rfl⟩⟩; refine ⟨_, rfl, ?_⟩; (try (rw [drewN_self wc]; generalize hq_ : World.drewN wc _ = wc; have n0_ : Aside0 (wc.heap[gb172]? = some (.cells #[.int .i64 0, .int .u8 0, .int .u8 0, .int .u8 0, .int .i32 0] 96 (0, 0))) := ⟨by rw [← hq_]; exact (by (with_reducible repeat (first | refine blk_drewN ?_ _ | refine blk_drew ?_ | refine blk_alloc ?_ _)); exact BK172.out)⟩; have n1_ : Aside0 (wc.heap[gb174]? = some (.cells #[.int .i64 (wrap64 (Int.tdiv (wrap64 (a0)) t173)), .int .u8 x175001_1, .int .u8 x175002_1, .int .u8 x175003_1, .int .i32 0] 96 (0, 0))) := ⟨by rw [← hq_]; exact (by (with_reducible repeat (first | refine blk_drewN ?_ _ | refine blk_drew ?_ | refine blk_alloc ?_ _)); exact BK174.out)⟩; have n2_ : Aside0 (wc.heap[gb180]? = some (.cells #[.string t175, .int .i64 t176, .int .u8 t177, .int .u8 t178] 167 (0, 0))) := ⟨by rw [← hq_]; exact (by (with_reducible repeat (first | refine blk_drewN ?_ _ | refine blk_drew ?_ | refine blk_alloc ?_ _)); exact BK180.out)⟩; have n3_ : Aside0 (Below w.heap.size w wc) := ⟨by rw [← hq_]; exact (by repeat (first | (with_reducible first | exact HB.out | apply below_alloc | apply pw_below_drewN | apply below_drew1 | refine below_set ?_ GE172.out | refine below_set ?_ GE174.out | refine below_set ?_ GE180.out) | exact HB.out))⟩; clear BK172 BK174 BK180 HB hq_; have BK172 := n0_; have BK174 := n1_; have BK180 := n2_; have HB := n3_; clear n0_ n1_ n2_ n3_)); have hnb52 := NB180_172.out; have hnc52 := NB172_180.out; have hnb53 := NB180_174.out; have hnc53 := NB174_180.out; have hcz54_0 : wc.cell? ⟨gb180, 0, none⟩ = some (.string t175) := (blk_cell BK180.out 0).trans rfl; have hcz54_1 : wc.cell? ⟨gb180, 1, none⟩ = some (.int .i64 t176) := (blk_cell BK180.out 1).trans rfl; have hcz54_2 : wc.cell? ⟨gb180, 2, none⟩ = some (.int .u8 t177) := (blk_cell BK180.out 2).trans rfl; have hcz54_3 : wc.cell? ⟨gb180, 3, none⟩ = some (.int .u8 t178) := (blk_cell BK180.out 3).trans rfl; have hfz54_0 := blk_frozen BK180.out 0; have hfz54_1 := blk_frozen BK180.out 1; have hfz54_2 := blk_frozen BK180.out 2; have hfz54_3 := blk_frozen BK180.out 3) | ((with_reducible refine gate_callee (f := 77) rfl ?_); refine goesL_ (some 91) rfl rfl Tryz.func77 (by kernel_rfl) rfl #[.int .u8 t177, .int .i64 t183, .int .i64 (wrap64 (x8_1 - t187))] rfl (by (try simp only [List.map_toArray, List.map_cons, List.map_nil]); first | done | rfl | (simp only [List.length_drop, List.length_take]; rfl)) ?_; (with_reducible refine (q_takes.calls kj38 t177 t183 (wrap64 (x8_1 - t187)) true _ A50.out).mono ?_); rintro e w' ⟨rfl, ⟨nd, rfl⟩⟩; refine ⟨_, rfl, ?_⟩; (try (rw [drewN_self wc]; generalize hq_ : World.drewN wc _ = wc; have n0_ : Aside0 (wc.heap[gb172]? = some (.cells #[.int .i64 0, .int .u8 0, .int .u8 0, .int .u8 0, .int .i32 0] 96 (0, 0))) := ⟨by rw [← hq_]; exact (by (with_reducible repeat (first | refine blk_drewN ?_ _ | refine blk_drew ?_ | refine blk_alloc ?_ _)); exact BK172.out)⟩; have n1_ : Aside0 (wc.heap[gb174]? = some (.cells #[.int .i64 (wrap64 (Int.tdiv (wrap64 (a0)) t173)), .int .u8 x175001_1, .int .u8 x175002_1, .int .u8 x175003_1, .int .i32 0] 96 (0, 0))) := ⟨by rw [← hq_]; exact (by (with_reducible repeat (first | refine blk_drewN ?_ _ | refine blk_drew ?_ | refine blk_alloc ?_ _)); exact BK174.out)⟩; have n2_ : Aside0 (wc.heap[gb180]? = some (.cells #[.string t175, .int .i64 t176, .int .u8 t177, .int .u8 t178] 167 (0, 0))) := ⟨by rw [← hq_]; exact (by (with_reducible repeat (first | refine blk_drewN ?_ _ | refine blk_drew ?_ | refine blk_alloc ?_ _)); exact BK180.out)⟩; have n3_ : Aside0 (Below w.heap.size w wc) := ⟨by rw [← hq_]; exact (by repeat (first | (with_reducible first | exact HB.out | apply below_alloc | apply pw_below_drewN | apply below_drew1 | refine below_set ?_ GE172.out | refine below_set ?_ GE174.out | refine below_set ?_ GE180.out) | exact HB.out))⟩; clear BK172 BK174 BK180 HB hq_; have BK172 := n0_; have BK174 := n1_; have BK180 := n2_; have HB := n3_; clear n0_ n1_ n2_ n3_)); have hnb55 := NB174_172.out; have hnc55 := NB172_174.out; have hcz56_0 : wc.cell? ⟨gb174, 0, none⟩ = some (.int .i64 (wrap64 (Int.tdiv (wrap64 (a0)) t173))) := (blk_cell BK174.out 0).trans rfl; have hcz56_1 : wc.cell? ⟨gb174, 1, none⟩ = some (.int .u8 x175001_1) := (blk_cell BK174.out 1).trans rfl; have hcz56_2 : wc.cell? ⟨gb174, 2, none⟩ = some (.int .u8 x175002_1) := (blk_cell BK174.out 2).trans rfl; have hcz56_3 : wc.cell? ⟨gb174, 3, none⟩ = some (.int .u8 x175003_1) := (blk_cell BK174.out 3).trans rfl; have hcz56_4 : wc.cell? ⟨gb174, 4, none⟩ = some (.int .i32 0) := (blk_cell BK174.out 4).trans rfl; have hfz56_0 := blk_frozen BK174.out 0; have hfz56_1 := blk_frozen BK174.out 1; have hfz56_2 := blk_frozen BK174.out 2; have hfz56_3 := blk_frozen BK174.out 3; have hfz56_4 := blk_frozen BK174.out 4; have hcz57_0 : wc.cell? ⟨gb172, 0, none⟩ = some (.int .i64 0) := (blk_cell BK172.out 0).trans rfl; have hcz57_1 : wc.cell? ⟨gb172, 1, none⟩ = some (.int .u8 0) := (blk_cell BK172.out 1).trans rfl; have hcz57_2 : wc.cell? ⟨gb172, 2, none⟩ = some (.int .u8 0) := (blk_cell BK172.out 2).trans rfl; have hcz57_3 : wc.cell? ⟨gb172, 3, none⟩ = some (.int .u8 0) := (blk_cell BK172.out 3).trans rfl; have hcz57_4 : wc.cell? ⟨gb172, 4, none⟩ = some (.int .i32 0) := (blk_cell BK172.out 4).trans rfl; have hfz57_0 := blk_frozen BK172.out 0; have hfz57_1 := blk_frozen BK172.out 1; have hfz57_2 := blk_frozen BK172.out 2; have hfz57_3 := blk_frozen BK172.out 3; have hfz57_4 := blk_frozen BK172.out 4))
                   refine bodyPost_ret (results_ct rfl _ _ gb172 96 #[.int .i64 (wrap64 (Int.tdiv (wrap64 (a0)) t173)), .int .u8 x175001_1, .int .u8 x175002_1, .int .u8 x175003_1, .int .i32 (wrap32 (wrap64 (x8_1 - t187)))] (0, 0) _ rfl (by (with_reducible repeat (first | refine blk_drewN ?_ _ | refine blk_drew ?_ | refine blk_alloc ?_ _)); refine blk_put (cs := #[.int .i64 (wrap64 (Int.tdiv (wrap64 (a0)) t173)), .int .u8 x175001_1, .int .u8 x175002_1, .int .u8 x175003_1, .int .i32 0]) ?_ 4 _ rfl; (with_reducible repeat (first | refine blk_drewN ?_ _ | refine blk_drew ?_ | refine blk_alloc ?_ _)); refine blk_put (cs := #[.int .i64 (wrap64 (Int.tdiv (wrap64 (a0)) t173)), .int .u8 x175001_1, .int .u8 x175002_1, .int .u8 0, .int .i32 0]) ?_ 3 _ rfl; (with_reducible repeat (first | refine blk_drewN ?_ _ | refine blk_drew ?_ | refine blk_alloc ?_ _)); refine blk_put (cs := #[.int .i64 (wrap64 (Int.tdiv (wrap64 (a0)) t173)), .int .u8 x175001_1, .int .u8 0, .int .u8 0, .int .i32 0]) ?_ 2 _ rfl; (with_reducible repeat (first | refine blk_drewN ?_ _ | refine blk_drew ?_ | refine blk_alloc ?_ _)); refine blk_put (cs := #[.int .i64 (wrap64 (Int.tdiv (wrap64 (a0)) t173)), .int .u8 0, .int .u8 0, .int .u8 0, .int .i32 0]) ?_ 1 _ rfl; (with_reducible repeat (first | refine blk_drewN ?_ _ | refine blk_drew ?_ | refine blk_alloc ?_ _)); refine blk_put (cs := #[.int .i64 0, .int .u8 0, .int .u8 0, .int .u8 0, .int .i32 0]) ?_ 0 _ rfl; (with_reducible repeat (first | refine blk_drewN ?_ _ | refine blk_drew ?_ | refine blk_alloc ?_ _)); refine blk_far ?_ NB172_174.out _; (with_reducible repeat (first | refine blk_drewN ?_ _ | refine blk_drew ?_ | refine blk_alloc ?_ _)); exact BK172.out) Tryz.underlying96 rfl (by kernel_rfl)) rfl ?_
                   exact ⟨by first | rfl | (simp [errW_none, errW_some] <;> rfl) | (simp [*, errW_none, errW_some] <;> rfl), by repeat (first | (with_reducible first | exact HB.out | apply below_alloc | apply pw_below_drewN | apply below_drew1 | refine below_set ?_ GE172.out | refine below_set ?_ GE174.out | refine below_set ?_ GE180.out) | exact HB.out)⟩
                 · replace c51 := Bool.eq_false_iff.mpr c51
                   subst c51
                   have H1 : (some (0, 0, 0, 0, 0, 102)) = some (r1, r2, r3, r4, r5, r6) := by rw [if_neg (show ¬ (false = true) by decide)] at H; exact H
                   clear H
                   have H := H1
                   clear H1
                   simp only [Option.some.injEq, Prod.mk.injEq] at H
                   obtain ⟨rfl, rfl, rfl, rfl, rfl, rfl⟩ := H
                   go_wp2_with (first | ((with_reducible refine gate_callee (f := 74) rfl ?_); refine goesL_ (some 85) rfl rfl Tryz.func74 (by kernel_rfl) rfl #[.int .i64 t183] rfl (by (try simp only [List.map_toArray, List.map_cons, List.map_nil]); first | done | rfl | (simp only [List.length_drop, List.length_take]; rfl)) ?_; (with_reducible refine (q_power.calls kj38 t183 t187 _ A49.out).mono ?_); rintro e w' ⟨rfl, ⟨nd, rfl⟩⟩; refine ⟨_, rfl, ?_⟩; (try (rw [drewN_self wc]; generalize hq_ : World.drewN wc _ = wc; have n0_ : Aside0 (wc.heap[gb172]? = some (.cells #[.int .i64 0, .int .u8 0, .int .u8 0, .int .u8 0, .int .i32 0] 96 (0, 0))) := ⟨by rw [← hq_]; exact (by (with_reducible repeat (first | refine blk_drewN ?_ _ | refine blk_drew ?_ | refine blk_alloc ?_ _)); exact BK172.out)⟩; have n1_ : Aside0 (wc.heap[gb174]? = some (.cells #[.int .i64 (wrap64 (Int.tdiv (wrap64 (a0)) t173)), .int .u8 x175001_1, .int .u8 x175002_1, .int .u8 x175003_1, .int .i32 0] 96 (0, 0))) := ⟨by rw [← hq_]; exact (by (with_reducible repeat (first | refine blk_drewN ?_ _ | refine blk_drew ?_ | refine blk_alloc ?_ _)); exact BK174.out)⟩; have n2_ : Aside0 (wc.heap[gb180]? = some (.cells #[.string t175, .int .i64 t176, .int .u8 t177, .int .u8 t178] 167 (0, 0))) := ⟨by rw [← hq_]; exact (by (with_reducible repeat (first | refine blk_drewN ?_ _ | refine blk_drew ?_ | refine blk_alloc ?_ _)); exact BK180.out)⟩; have n3_ : Aside0 (Below w.heap.size w wc) := ⟨by rw [← hq_]; exact (by repeat (first | (with_reducible first | exact HB.out | apply below_alloc | apply pw_below_drewN | apply below_drew1 | refine below_set ?_ GE172.out | refine below_set ?_ GE174.out | refine below_set ?_ GE180.out) | exact HB.out))⟩; clear BK172 BK174 BK180 HB hq_; have BK172 := n0_; have BK174 := n1_; have BK180 := n2_; have HB := n3_; clear n0_ n1_ n2_ n3_)); have hnb58 := NB180_172.out; have hnc58 := NB172_180.out; have hnb59 := NB180_174.out; have hnc59 := NB174_180.out; have hcz60_0 : wc.cell? ⟨gb180, 0, none⟩ = some (.string t175) := (blk_cell BK180.out 0).trans rfl; have hcz60_1 : wc.cell? ⟨gb180, 1, none⟩ = some (.int .i64 t176) := (blk_cell BK180.out 1).trans rfl; have hcz60_2 : wc.cell? ⟨gb180, 2, none⟩ = some (.int .u8 t177) := (blk_cell BK180.out 2).trans rfl; have hcz60_3 : wc.cell? ⟨gb180, 3, none⟩ = some (.int .u8 t178) := (blk_cell BK180.out 3).trans rfl; have hfz60_0 := blk_frozen BK180.out 0; have hfz60_1 := blk_frozen BK180.out 1; have hfz60_2 := blk_frozen BK180.out 2; have hfz60_3 := blk_frozen BK180.out 3) | ((with_reducible refine gate_callee (f := 77) rfl ?_); refine goesL_ (some 91) rfl rfl Tryz.func77 (by kernel_rfl) rfl #[.int .u8 t177, .int .i64 t183, .int .i64 (wrap64 (x8_1 - t187))] rfl (by (try simp only [List.map_toArray, List.map_cons, List.map_nil]); first | done | rfl | (simp only [List.length_drop, List.length_take]; rfl)) ?_; (with_reducible refine (q_takes.calls kj38 t177 t183 (wrap64 (x8_1 - t187)) false _ A50.out).mono ?_); rintro e w' ⟨rfl, ⟨nd, rfl⟩⟩; refine ⟨_, rfl, ?_⟩; (try (rw [drewN_self wc]; generalize hq_ : World.drewN wc _ = wc; have n0_ : Aside0 (wc.heap[gb172]? = some (.cells #[.int .i64 0, .int .u8 0, .int .u8 0, .int .u8 0, .int .i32 0] 96 (0, 0))) := ⟨by rw [← hq_]; exact (by (with_reducible repeat (first | refine blk_drewN ?_ _ | refine blk_drew ?_ | refine blk_alloc ?_ _)); exact BK172.out)⟩; have n1_ : Aside0 (wc.heap[gb174]? = some (.cells #[.int .i64 (wrap64 (Int.tdiv (wrap64 (a0)) t173)), .int .u8 x175001_1, .int .u8 x175002_1, .int .u8 x175003_1, .int .i32 0] 96 (0, 0))) := ⟨by rw [← hq_]; exact (by (with_reducible repeat (first | refine blk_drewN ?_ _ | refine blk_drew ?_ | refine blk_alloc ?_ _)); exact BK174.out)⟩; have n2_ : Aside0 (wc.heap[gb180]? = some (.cells #[.string t175, .int .i64 t176, .int .u8 t177, .int .u8 t178] 167 (0, 0))) := ⟨by rw [← hq_]; exact (by (with_reducible repeat (first | refine blk_drewN ?_ _ | refine blk_drew ?_ | refine blk_alloc ?_ _)); exact BK180.out)⟩; have n3_ : Aside0 (Below w.heap.size w wc) := ⟨by rw [← hq_]; exact (by repeat (first | (with_reducible first | exact HB.out | apply below_alloc | apply pw_below_drewN | apply below_drew1 | refine below_set ?_ GE172.out | refine below_set ?_ GE174.out | refine below_set ?_ GE180.out) | exact HB.out))⟩; clear BK172 BK174 BK180 HB hq_; have BK172 := n0_; have BK174 := n1_; have BK180 := n2_; have HB := n3_; clear n0_ n1_ n2_ n3_)); have hnb61 := NB172_174.out; have hnc61 := NB174_172.out; have hcz62_0 : wc.cell? ⟨gb172, 0, none⟩ = some (.int .i64 0) := (blk_cell BK172.out 0).trans rfl; have hcz62_1 : wc.cell? ⟨gb172, 1, none⟩ = some (.int .u8 0) := (blk_cell BK172.out 1).trans rfl; have hcz62_2 : wc.cell? ⟨gb172, 2, none⟩ = some (.int .u8 0) := (blk_cell BK172.out 2).trans rfl; have hcz62_3 : wc.cell? ⟨gb172, 3, none⟩ = some (.int .u8 0) := (blk_cell BK172.out 3).trans rfl; have hcz62_4 : wc.cell? ⟨gb172, 4, none⟩ = some (.int .i32 0) := (blk_cell BK172.out 4).trans rfl; have hfz62_0 := blk_frozen BK172.out 0; have hfz62_1 := blk_frozen BK172.out 1; have hfz62_2 := blk_frozen BK172.out 2; have hfz62_3 := blk_frozen BK172.out 3; have hfz62_4 := blk_frozen BK172.out 4))
                   refine bodyPost_ret (results_ct rfl _ _ gb172 96 #[.int .i64 0, .int .u8 0, .int .u8 0, .int .u8 0, .int .i32 0] (0, 0) _ rfl (by (with_reducible repeat (first | refine blk_drewN ?_ _ | refine blk_drew ?_ | refine blk_alloc ?_ _)); refine blk_put (cs := #[.int .i64 0, .int .u8 0, .int .u8 0, .int .u8 0, .int .i32 0]) ?_ 4 _ rfl; (with_reducible repeat (first | refine blk_drewN ?_ _ | refine blk_drew ?_ | refine blk_alloc ?_ _)); refine blk_put (cs := #[.int .i64 0, .int .u8 0, .int .u8 0, .int .u8 0, .int .i32 0]) ?_ 3 _ rfl; (with_reducible repeat (first | refine blk_drewN ?_ _ | refine blk_drew ?_ | refine blk_alloc ?_ _)); refine blk_put (cs := #[.int .i64 0, .int .u8 0, .int .u8 0, .int .u8 0, .int .i32 0]) ?_ 2 _ rfl; (with_reducible repeat (first | refine blk_drewN ?_ _ | refine blk_drew ?_ | refine blk_alloc ?_ _)); refine blk_put (cs := #[.int .i64 0, .int .u8 0, .int .u8 0, .int .u8 0, .int .i32 0]) ?_ 1 _ rfl; (with_reducible repeat (first | refine blk_drewN ?_ _ | refine blk_drew ?_ | refine blk_alloc ?_ _)); refine blk_put (cs := #[.int .i64 0, .int .u8 0, .int .u8 0, .int .u8 0, .int .i32 0]) ?_ 0 _ rfl; (with_reducible repeat (first | refine blk_drewN ?_ _ | refine blk_drew ?_ | refine blk_alloc ?_ _)); exact BK172.out) Tryz.underlying96 rfl (by kernel_rfl)) rfl ?_
                   exact ⟨by first | rfl | (simp [errW_none, errW_some] <;> rfl) | (simp [*, errW_none, errW_some] <;> rfl), by repeat (first | (with_reducible first | exact HB.out | apply below_alloc | apply pw_below_drewN | apply below_drew1 | refine below_set ?_ GE172.out | refine below_set ?_ GE174.out | refine below_set ?_ GE180.out) | exact HB.out)⟩
               · replace c48 := Bool.eq_false_iff.mpr c48
                 subst c48
                 have H1 : ((q_takes.f kj38 t177 t183 x8_1).bind fun t189 => (if t189 = true then (some ((wrap64 (Int.tdiv (wrap64 (a0)) t173)), x175001_1, x175002_1, x175003_1, wrap32 (x8_1), 0)) else (some (0, 0, 0, 0, 0, 102)))) = some (r1, r2, r3, r4, r5, r6) := by rw [if_neg (show ¬ (false = true) by decide)] at H; exact H
                 clear H
                 have H := H1
                 clear H1
                 replace H := Option.bind_eq_some_iff.mp H
                 obtain ⟨t189, A630, H⟩ := H
                 replace H : (if t189 = true then (some ((wrap64 (Int.tdiv (wrap64 (a0)) t173)), x175001_1, x175002_1, x175003_1, wrap32 (x8_1), 0)) else (some (0, 0, 0, 0, 0, 102))) = some (r1, r2, r3, r4, r5, r6) := H
                 have A63 := Aside0.mk A630
                 clear A630
                 by_cases c64 : t189 = true
                 · subst c64
                   have H1 : (some ((wrap64 (Int.tdiv (wrap64 (a0)) t173)), x175001_1, x175002_1, x175003_1, wrap32 (x8_1), 0)) = some (r1, r2, r3, r4, r5, r6) := by rw [if_pos rfl] at H; exact H
                   clear H
                   have H := H1
                   clear H1
                   simp only [Option.some.injEq, Prod.mk.injEq] at H
                   obtain ⟨rfl, rfl, rfl, rfl, rfl, rfl⟩ := H
                   have hnb65 := NB180_172.out
                   have hnc65 := NB172_180.out
                   have hnb66 := NB180_174.out
                   have hnc66 := NB174_180.out
                   have hcz67_0 : wc.cell? ⟨gb180, 0, none⟩ = some (.string t175) := (blk_cell BK180.out 0).trans rfl
                   have hcz67_1 : wc.cell? ⟨gb180, 1, none⟩ = some (.int .i64 t176) := (blk_cell BK180.out 1).trans rfl
                   have hcz67_2 : wc.cell? ⟨gb180, 2, none⟩ = some (.int .u8 t177) := (blk_cell BK180.out 2).trans rfl
                   have hcz67_3 : wc.cell? ⟨gb180, 3, none⟩ = some (.int .u8 t178) := (blk_cell BK180.out 3).trans rfl
                   have hfz67_0 := blk_frozen BK180.out 0
                   have hfz67_1 := blk_frozen BK180.out 1
                   have hfz67_2 := blk_frozen BK180.out 2
                   have hfz67_3 := blk_frozen BK180.out 3
                   go_wp2_with (first | ((with_reducible refine gate_callee (f := 77) rfl ?_); refine goesL_ (some 91) rfl rfl Tryz.func77 (by kernel_rfl) rfl #[.int .u8 t177, .int .i64 t183, .int .i64 x8_1] rfl (by (try simp only [List.map_toArray, List.map_cons, List.map_nil]); first | done | rfl | (simp only [List.length_drop, List.length_take]; rfl)) ?_; (with_reducible refine (q_takes.calls kj38 t177 t183 x8_1 true _ A63.out).mono ?_); rintro e w' ⟨rfl, ⟨nd, rfl⟩⟩; refine ⟨_, rfl, ?_⟩; (try (rw [drewN_self wc]; generalize hq_ : World.drewN wc _ = wc; have n0_ : Aside0 (wc.heap[gb172]? = some (.cells #[.int .i64 0, .int .u8 0, .int .u8 0, .int .u8 0, .int .i32 0] 96 (0, 0))) := ⟨by rw [← hq_]; exact (by (with_reducible repeat (first | refine blk_drewN ?_ _ | refine blk_drew ?_ | refine blk_alloc ?_ _)); exact BK172.out)⟩; have n1_ : Aside0 (wc.heap[gb174]? = some (.cells #[.int .i64 (wrap64 (Int.tdiv (wrap64 (a0)) t173)), .int .u8 x175001_1, .int .u8 x175002_1, .int .u8 x175003_1, .int .i32 0] 96 (0, 0))) := ⟨by rw [← hq_]; exact (by (with_reducible repeat (first | refine blk_drewN ?_ _ | refine blk_drew ?_ | refine blk_alloc ?_ _)); exact BK174.out)⟩; have n2_ : Aside0 (wc.heap[gb180]? = some (.cells #[.string t175, .int .i64 t176, .int .u8 t177, .int .u8 t178] 167 (0, 0))) := ⟨by rw [← hq_]; exact (by (with_reducible repeat (first | refine blk_drewN ?_ _ | refine blk_drew ?_ | refine blk_alloc ?_ _)); exact BK180.out)⟩; have n3_ : Aside0 (Below w.heap.size w wc) := ⟨by rw [← hq_]; exact (by repeat (first | (with_reducible first | exact HB.out | apply below_alloc | apply pw_below_drewN | apply below_drew1 | refine below_set ?_ GE172.out | refine below_set ?_ GE174.out | refine below_set ?_ GE180.out) | exact HB.out))⟩; clear BK172 BK174 BK180 HB hq_; have BK172 := n0_; have BK174 := n1_; have BK180 := n2_; have HB := n3_; clear n0_ n1_ n2_ n3_)); have hnb68 := NB174_172.out; have hnc68 := NB172_174.out; have hcz69_0 : wc.cell? ⟨gb174, 0, none⟩ = some (.int .i64 (wrap64 (Int.tdiv (wrap64 (a0)) t173))) := (blk_cell BK174.out 0).trans rfl; have hcz69_1 : wc.cell? ⟨gb174, 1, none⟩ = some (.int .u8 x175001_1) := (blk_cell BK174.out 1).trans rfl; have hcz69_2 : wc.cell? ⟨gb174, 2, none⟩ = some (.int .u8 x175002_1) := (blk_cell BK174.out 2).trans rfl; have hcz69_3 : wc.cell? ⟨gb174, 3, none⟩ = some (.int .u8 x175003_1) := (blk_cell BK174.out 3).trans rfl; have hcz69_4 : wc.cell? ⟨gb174, 4, none⟩ = some (.int .i32 0) := (blk_cell BK174.out 4).trans rfl; have hfz69_0 := blk_frozen BK174.out 0; have hfz69_1 := blk_frozen BK174.out 1; have hfz69_2 := blk_frozen BK174.out 2; have hfz69_3 := blk_frozen BK174.out 3; have hfz69_4 := blk_frozen BK174.out 4; have hcz70_0 : wc.cell? ⟨gb172, 0, none⟩ = some (.int .i64 0) := (blk_cell BK172.out 0).trans rfl; have hcz70_1 : wc.cell? ⟨gb172, 1, none⟩ = some (.int .u8 0) := (blk_cell BK172.out 1).trans rfl; have hcz70_2 : wc.cell? ⟨gb172, 2, none⟩ = some (.int .u8 0) := (blk_cell BK172.out 2).trans rfl; have hcz70_3 : wc.cell? ⟨gb172, 3, none⟩ = some (.int .u8 0) := (blk_cell BK172.out 3).trans rfl; have hcz70_4 : wc.cell? ⟨gb172, 4, none⟩ = some (.int .i32 0) := (blk_cell BK172.out 4).trans rfl; have hfz70_0 := blk_frozen BK172.out 0; have hfz70_1 := blk_frozen BK172.out 1; have hfz70_2 := blk_frozen BK172.out 2; have hfz70_3 := blk_frozen BK172.out 3; have hfz70_4 := blk_frozen BK172.out 4))
                   refine bodyPost_ret (results_ct rfl _ _ gb172 96 #[.int .i64 (wrap64 (Int.tdiv (wrap64 (a0)) t173)), .int .u8 x175001_1, .int .u8 x175002_1, .int .u8 x175003_1, .int .i32 (wrap32 (x8_1))] (0, 0) _ rfl (by (with_reducible repeat (first | refine blk_drewN ?_ _ | refine blk_drew ?_ | refine blk_alloc ?_ _)); refine blk_put (cs := #[.int .i64 (wrap64 (Int.tdiv (wrap64 (a0)) t173)), .int .u8 x175001_1, .int .u8 x175002_1, .int .u8 x175003_1, .int .i32 0]) ?_ 4 _ rfl; (with_reducible repeat (first | refine blk_drewN ?_ _ | refine blk_drew ?_ | refine blk_alloc ?_ _)); refine blk_put (cs := #[.int .i64 (wrap64 (Int.tdiv (wrap64 (a0)) t173)), .int .u8 x175001_1, .int .u8 x175002_1, .int .u8 0, .int .i32 0]) ?_ 3 _ rfl; (with_reducible repeat (first | refine blk_drewN ?_ _ | refine blk_drew ?_ | refine blk_alloc ?_ _)); refine blk_put (cs := #[.int .i64 (wrap64 (Int.tdiv (wrap64 (a0)) t173)), .int .u8 x175001_1, .int .u8 0, .int .u8 0, .int .i32 0]) ?_ 2 _ rfl; (with_reducible repeat (first | refine blk_drewN ?_ _ | refine blk_drew ?_ | refine blk_alloc ?_ _)); refine blk_put (cs := #[.int .i64 (wrap64 (Int.tdiv (wrap64 (a0)) t173)), .int .u8 0, .int .u8 0, .int .u8 0, .int .i32 0]) ?_ 1 _ rfl; (with_reducible repeat (first | refine blk_drewN ?_ _ | refine blk_drew ?_ | refine blk_alloc ?_ _)); refine blk_put (cs := #[.int .i64 0, .int .u8 0, .int .u8 0, .int .u8 0, .int .i32 0]) ?_ 0 _ rfl; (with_reducible repeat (first | refine blk_drewN ?_ _ | refine blk_drew ?_ | refine blk_alloc ?_ _)); refine blk_far ?_ NB172_174.out _; (with_reducible repeat (first | refine blk_drewN ?_ _ | refine blk_drew ?_ | refine blk_alloc ?_ _)); exact BK172.out) Tryz.underlying96 rfl (by kernel_rfl)) rfl ?_
                   exact ⟨by first | rfl | (simp [errW_none, errW_some] <;> rfl) | (simp [*, errW_none, errW_some] <;> rfl), by repeat (first | (with_reducible first | exact HB.out | apply below_alloc | apply pw_below_drewN | apply below_drew1 | refine below_set ?_ GE172.out | refine below_set ?_ GE174.out | refine below_set ?_ GE180.out) | exact HB.out)⟩
                 · replace c64 := Bool.eq_false_iff.mpr c64
                   subst c64
                   have H1 : (some (0, 0, 0, 0, 0, 102)) = some (r1, r2, r3, r4, r5, r6) := by rw [if_neg (show ¬ (false = true) by decide)] at H; exact H
                   clear H
                   have H := H1
                   clear H1
                   simp only [Option.some.injEq, Prod.mk.injEq] at H
                   obtain ⟨rfl, rfl, rfl, rfl, rfl, rfl⟩ := H
                   have hnb71 := NB180_172.out
                   have hnc71 := NB172_180.out
                   have hnb72 := NB180_174.out
                   have hnc72 := NB174_180.out
                   have hcz73_0 : wc.cell? ⟨gb180, 0, none⟩ = some (.string t175) := (blk_cell BK180.out 0).trans rfl
                   have hcz73_1 : wc.cell? ⟨gb180, 1, none⟩ = some (.int .i64 t176) := (blk_cell BK180.out 1).trans rfl
                   have hcz73_2 : wc.cell? ⟨gb180, 2, none⟩ = some (.int .u8 t177) := (blk_cell BK180.out 2).trans rfl
                   have hcz73_3 : wc.cell? ⟨gb180, 3, none⟩ = some (.int .u8 t178) := (blk_cell BK180.out 3).trans rfl
                   have hfz73_0 := blk_frozen BK180.out 0
                   have hfz73_1 := blk_frozen BK180.out 1
                   have hfz73_2 := blk_frozen BK180.out 2
                   have hfz73_3 := blk_frozen BK180.out 3
                   go_wp2_with (first | ((with_reducible refine gate_callee (f := 77) rfl ?_); refine goesL_ (some 91) rfl rfl Tryz.func77 (by kernel_rfl) rfl #[.int .u8 t177, .int .i64 t183, .int .i64 x8_1] rfl (by (try simp only [List.map_toArray, List.map_cons, List.map_nil]); first | done | rfl | (simp only [List.length_drop, List.length_take]; rfl)) ?_; (with_reducible refine (q_takes.calls kj38 t177 t183 x8_1 false _ A63.out).mono ?_); rintro e w' ⟨rfl, ⟨nd, rfl⟩⟩; refine ⟨_, rfl, ?_⟩; (try (rw [drewN_self wc]; generalize hq_ : World.drewN wc _ = wc; have n0_ : Aside0 (wc.heap[gb172]? = some (.cells #[.int .i64 0, .int .u8 0, .int .u8 0, .int .u8 0, .int .i32 0] 96 (0, 0))) := ⟨by rw [← hq_]; exact (by (with_reducible repeat (first | refine blk_drewN ?_ _ | refine blk_drew ?_ | refine blk_alloc ?_ _)); exact BK172.out)⟩; have n1_ : Aside0 (wc.heap[gb174]? = some (.cells #[.int .i64 (wrap64 (Int.tdiv (wrap64 (a0)) t173)), .int .u8 x175001_1, .int .u8 x175002_1, .int .u8 x175003_1, .int .i32 0] 96 (0, 0))) := ⟨by rw [← hq_]; exact (by (with_reducible repeat (first | refine blk_drewN ?_ _ | refine blk_drew ?_ | refine blk_alloc ?_ _)); exact BK174.out)⟩; have n2_ : Aside0 (wc.heap[gb180]? = some (.cells #[.string t175, .int .i64 t176, .int .u8 t177, .int .u8 t178] 167 (0, 0))) := ⟨by rw [← hq_]; exact (by (with_reducible repeat (first | refine blk_drewN ?_ _ | refine blk_drew ?_ | refine blk_alloc ?_ _)); exact BK180.out)⟩; have n3_ : Aside0 (Below w.heap.size w wc) := ⟨by rw [← hq_]; exact (by repeat (first | (with_reducible first | exact HB.out | apply below_alloc | apply pw_below_drewN | apply below_drew1 | refine below_set ?_ GE172.out | refine below_set ?_ GE174.out | refine below_set ?_ GE180.out) | exact HB.out))⟩; clear BK172 BK174 BK180 HB hq_; have BK172 := n0_; have BK174 := n1_; have BK180 := n2_; have HB := n3_; clear n0_ n1_ n2_ n3_)); have hnb74 := NB172_174.out; have hnc74 := NB174_172.out; have hcz75_0 : wc.cell? ⟨gb172, 0, none⟩ = some (.int .i64 0) := (blk_cell BK172.out 0).trans rfl; have hcz75_1 : wc.cell? ⟨gb172, 1, none⟩ = some (.int .u8 0) := (blk_cell BK172.out 1).trans rfl; have hcz75_2 : wc.cell? ⟨gb172, 2, none⟩ = some (.int .u8 0) := (blk_cell BK172.out 2).trans rfl; have hcz75_3 : wc.cell? ⟨gb172, 3, none⟩ = some (.int .u8 0) := (blk_cell BK172.out 3).trans rfl; have hcz75_4 : wc.cell? ⟨gb172, 4, none⟩ = some (.int .i32 0) := (blk_cell BK172.out 4).trans rfl; have hfz75_0 := blk_frozen BK172.out 0; have hfz75_1 := blk_frozen BK172.out 1; have hfz75_2 := blk_frozen BK172.out 2; have hfz75_3 := blk_frozen BK172.out 3; have hfz75_4 := blk_frozen BK172.out 4))
                   refine bodyPost_ret (results_ct rfl _ _ gb172 96 #[.int .i64 0, .int .u8 0, .int .u8 0, .int .u8 0, .int .i32 0] (0, 0) _ rfl (by (with_reducible repeat (first | refine blk_drewN ?_ _ | refine blk_drew ?_ | refine blk_alloc ?_ _)); refine blk_put (cs := #[.int .i64 0, .int .u8 0, .int .u8 0, .int .u8 0, .int .i32 0]) ?_ 4 _ rfl; (with_reducible repeat (first | refine blk_drewN ?_ _ | refine blk_drew ?_ | refine blk_alloc ?_ _)); refine blk_put (cs := #[.int .i64 0, .int .u8 0, .int .u8 0, .int .u8 0, .int .i32 0]) ?_ 3 _ rfl; (with_reducible repeat (first | refine blk_drewN ?_ _ | refine blk_drew ?_ | refine blk_alloc ?_ _)); refine blk_put (cs := #[.int .i64 0, .int .u8 0, .int .u8 0, .int .u8 0, .int .i32 0]) ?_ 2 _ rfl; (with_reducible repeat (first | refine blk_drewN ?_ _ | refine blk_drew ?_ | refine blk_alloc ?_ _)); refine blk_put (cs := #[.int .i64 0, .int .u8 0, .int .u8 0, .int .u8 0, .int .i32 0]) ?_ 1 _ rfl; (with_reducible repeat (first | refine blk_drewN ?_ _ | refine blk_drew ?_ | refine blk_alloc ?_ _)); refine blk_put (cs := #[.int .i64 0, .int .u8 0, .int .u8 0, .int .u8 0, .int .i32 0]) ?_ 0 _ rfl; (with_reducible repeat (first | refine blk_drewN ?_ _ | refine blk_drew ?_ | refine blk_alloc ?_ _)); exact BK172.out) Tryz.underlying96 rfl (by kernel_rfl)) rfl ?_
                   exact ⟨by first | rfl | (simp [errW_none, errW_some] <;> rfl) | (simp [*, errW_none, errW_some] <;> rfl), by repeat (first | (with_reducible first | exact HB.out | apply below_alloc | apply pw_below_drewN | apply below_drew1 | refine below_set ?_ GE172.out | refine below_set ?_ GE174.out | refine below_set ?_ GE180.out) | exact HB.out)⟩
   · replace c5 := Bool.eq_false_iff.mpr c5
     subst c5
     have H1 : (some (0, 0, 0, 0, 0, 100)) = some (r1, r2, r3, r4, r5, r6) := by rw [if_neg (show ¬ (false = true) by decide)] at H; exact H
     clear H
     have H := H1
     clear H1
     simp only [Option.some.injEq, Prod.mk.injEq] at H
     obtain ⟨rfl, rfl, rfl, rfl, rfl, rfl⟩ := H
     go_enter Tryz.func39, Tryz.ntmps39
     go_wp2_with (first | ((with_reducible refine gate_dst (N := 2) rfl ?_); refine box_event ?hg (N := 2) ?hd (cs := #[.int .i64 0, .int .u8 0, .int .u8 0, .int .u8 0, .int .i32 0]) (t := 96) ?hr ?_; (case hd => rfl); (case hg => rfl); (case hr => first | (go_simp; done) | (go_simp; rfl)); intro gb172 hg w76 hbox hb; have n0_ := Aside0.mk (below_step (by repeat (first | (with_reducible first | exact HB.out | apply below_alloc | apply pw_below_drewN | apply below_drew1) | exact HB.out)) hb); have n1_ := Aside0.mk (hbox); have n2_ := Aside0.mk ((by rw [hg]; exact (below_size (by repeat (first | (with_reducible first | exact HB.out | apply below_alloc | apply pw_below_drewN | apply below_drew1) | exact HB.out))) : w.heap.size ≤ gb172)); have n3_ := Aside0.mk ((by rw [hg]; exact (below_size (by repeat (first | (with_reducible first | exact HB.out | apply below_alloc | apply pw_below_drewN | apply below_drew1) | exact HB.out))) : w.heap.size ≤ gb172)); clear HB; have HB := n0_; have BK172 := n1_; have GW172 := n2_; have GE172 := n3_; clear n0_ n1_ n2_ n3_; clear hb hbox hg) | ((with_reducible refine gate_callee (f := 74) rfl ?_); refine goesL_ (some 18) rfl rfl Tryz.func74 (by kernel_rfl) rfl #[.int .i64 26] rfl (by (try simp only [List.map_toArray, List.map_cons, List.map_nil]); first | done | rfl | (simp only [List.length_drop, List.length_take]; rfl)) ?_; (with_reducible refine (q_power.calls k 26 t173 _ A2.out).mono ?_); rintro e w' ⟨rfl, ⟨nd, rfl⟩⟩; refine ⟨_, rfl, ?_⟩; (try (rw [drewN_self w76]; generalize hq_ : World.drewN w76 _ = w76; have n0_ : Aside0 (w76.heap[gb172]? = some (.cells #[.int .i64 0, .int .u8 0, .int .u8 0, .int .u8 0, .int .i32 0] 96 (0, 0))) := ⟨by rw [← hq_]; exact (by (with_reducible repeat (first | refine blk_drewN ?_ _ | refine blk_drew ?_ | refine blk_alloc ?_ _)); exact BK172.out)⟩; have n1_ : Aside0 (Below w.heap.size w w76) := ⟨by rw [← hq_]; exact (by repeat (first | (with_reducible first | exact HB.out | apply below_alloc | apply pw_below_drewN | apply below_drew1 | refine below_set ?_ GE172.out) | exact HB.out))⟩; clear BK172 HB hq_; have BK172 := n0_; have HB := n1_; clear n0_ n1_))) | ((with_reducible refine gate_dst (N := 5) rfl ?_); refine box_event ?hg (N := 5) ?hd (cs := #[.int .i64 0, .int .u8 0, .int .u8 0, .int .u8 0, .int .i32 0]) (t := 96) ?hr ?_; (case hd => rfl); (case hg => rfl); (case hr => first | (go_simp; done) | (go_simp; rfl)); intro gb174 hg w77 hbox hb; have n0_ := Aside0.mk (blk_below (g := gb172) (o := .cells #[.int .i64 0, .int .u8 0, .int .u8 0, .int .u8 0, .int .i32 0] 96 (0, 0)) (by (with_reducible repeat (first | refine blk_drewN ?_ _ | refine blk_drew ?_ | refine blk_alloc ?_ _)); exact BK172.out) hb); have n1_ := Aside0.mk (below_step (by repeat (first | (with_reducible first | exact HB.out | apply below_alloc | apply pw_below_drewN | apply below_drew1 | refine below_set ?_ GE172.out) | exact HB.out)) hb); have n2_ := Aside0.mk (hbox); have n3_ := Aside0.mk ((by rw [hg]; exact (below_size (by repeat (first | (with_reducible first | exact HB.out | apply below_alloc | apply pw_below_drewN | apply below_drew1 | refine below_set ?_ GE172.out) | exact HB.out))) : w.heap.size ≤ gb174)); have n4_ := Aside0.mk ((by rw [hg]; exact (below_size (by repeat (first | (with_reducible first | exact HB.out | apply below_alloc | apply pw_below_drewN | apply below_drew1 | refine below_set ?_ GE172.out) | exact HB.out))) : w.heap.size ≤ gb174)); have n5_ := Aside0.mk ((by rw [hg]; exact Nat.ne_of_lt (blk_lt (g := gb172) (o := .cells #[.int .i64 0, .int .u8 0, .int .u8 0, .int .u8 0, .int .i32 0] 96 (0, 0)) (by (with_reducible repeat (first | refine blk_drewN ?_ _ | refine blk_drew ?_ | refine blk_alloc ?_ _)); exact BK172.out)) : gb172 ≠ gb174)); have n6_ := Aside0.mk ((by rw [hg]; exact Nat.ne_of_gt (blk_lt (g := gb172) (o := .cells #[.int .i64 0, .int .u8 0, .int .u8 0, .int .u8 0, .int .i32 0] 96 (0, 0)) (by (with_reducible repeat (first | refine blk_drewN ?_ _ | refine blk_drew ?_ | refine blk_alloc ?_ _)); exact BK172.out)) : gb174 ≠ gb172)); clear BK172; clear HB; have BK172 := n0_; have HB := n1_; have BK174 := n2_; have GW174 := n3_; have GE174 := n4_; have NB172_174 := n5_; have NB174_172 := n6_; clear n0_ n1_ n2_ n3_ n4_ n5_ n6_; clear hb hbox hg; have hnb78 := NB174_172.out; have hnc78 := NB172_174.out; have hcz79_0 : w77.cell? ⟨gb174, 0, none⟩ = some (.int .i64 0) := (blk_cell BK174.out 0).trans rfl; have hcz79_1 : w77.cell? ⟨gb174, 1, none⟩ = some (.int .u8 0) := (blk_cell BK174.out 1).trans rfl; have hcz79_2 : w77.cell? ⟨gb174, 2, none⟩ = some (.int .u8 0) := (blk_cell BK174.out 2).trans rfl; have hcz79_3 : w77.cell? ⟨gb174, 3, none⟩ = some (.int .u8 0) := (blk_cell BK174.out 3).trans rfl; have hcz79_4 : w77.cell? ⟨gb174, 4, none⟩ = some (.int .i32 0) := (blk_cell BK174.out 4).trans rfl; have hfz79_0 := blk_frozen BK174.out 0; have hfz79_1 := blk_frozen BK174.out 1; have hfz79_2 := blk_frozen BK174.out 2; have hfz79_3 := blk_frozen BK174.out 3; have hfz79_4 := blk_frozen BK174.out 4) | ((with_reducible refine gate_callee (f := 75) rfl ?_); refine goesL_ (some 24) rfl rfl Tryz.func75 (by kernel_rfl) rfl #[.int .i64 (wrap64 (Int.tdiv (wrap64 (a0)) t173))] rfl (by (try simp only [List.map_toArray, List.map_cons, List.map_nil]); first | done | rfl | (simp only [List.length_drop, List.length_take]; rfl)) ?_; (with_reducible refine (q_Of.calls k (wrap64 (Int.tdiv (wrap64 (a0)) t173)) t175 t176 t177 t178 false _ A4.out).mono ?_); rintro e w80 ⟨rfl, hb⟩; refine ⟨_, rfl, ?_⟩; have n0_ := Aside0.mk (blk_below (g := gb172) (o := .cells #[.int .i64 0, .int .u8 0, .int .u8 0, .int .u8 0, .int .i32 0] 96 (0, 0)) (by (with_reducible repeat (first | refine blk_drewN ?_ _ | refine blk_drew ?_ | refine blk_alloc ?_ _)); refine blk_far ?_ NB172_174.out _; (with_reducible repeat (first | refine blk_drewN ?_ _ | refine blk_drew ?_ | refine blk_alloc ?_ _)); refine blk_far ?_ NB172_174.out _; (with_reducible repeat (first | refine blk_drewN ?_ _ | refine blk_drew ?_ | refine blk_alloc ?_ _)); refine blk_far ?_ NB172_174.out _; (with_reducible repeat (first | refine blk_drewN ?_ _ | refine blk_drew ?_ | refine blk_alloc ?_ _)); refine blk_far ?_ NB172_174.out _; (with_reducible repeat (first | refine blk_drewN ?_ _ | refine blk_drew ?_ | refine blk_alloc ?_ _)); refine blk_far ?_ NB172_174.out _; (with_reducible repeat (first | refine blk_drewN ?_ _ | refine blk_drew ?_ | refine blk_alloc ?_ _)); exact BK172.out) hb); have n1_ := Aside0.mk (blk_below (g := gb174) (o := .cells #[.int .i64 (wrap64 (Int.tdiv (wrap64 (a0)) t173)), .int .u8 0, .int .u8 0, .int .u8 0, .int .i32 0] 96 (0, 0)) (by (with_reducible repeat (first | refine blk_drewN ?_ _ | refine blk_drew ?_ | refine blk_alloc ?_ _)); refine blk_put (cs := #[.int .i64 (wrap64 (Int.tdiv (wrap64 (a0)) t173)), .int .u8 0, .int .u8 0, .int .u8 0, .int .i32 0]) ?_ 4 _ rfl; (with_reducible repeat (first | refine blk_drewN ?_ _ | refine blk_drew ?_ | refine blk_alloc ?_ _)); refine blk_put (cs := #[.int .i64 (wrap64 (Int.tdiv (wrap64 (a0)) t173)), .int .u8 0, .int .u8 0, .int .u8 0, .int .i32 0]) ?_ 3 _ rfl; (with_reducible repeat (first | refine blk_drewN ?_ _ | refine blk_drew ?_ | refine blk_alloc ?_ _)); refine blk_put (cs := #[.int .i64 (wrap64 (Int.tdiv (wrap64 (a0)) t173)), .int .u8 0, .int .u8 0, .int .u8 0, .int .i32 0]) ?_ 2 _ rfl; (with_reducible repeat (first | refine blk_drewN ?_ _ | refine blk_drew ?_ | refine blk_alloc ?_ _)); refine blk_put (cs := #[.int .i64 (wrap64 (Int.tdiv (wrap64 (a0)) t173)), .int .u8 0, .int .u8 0, .int .u8 0, .int .i32 0]) ?_ 1 _ rfl; (with_reducible repeat (first | refine blk_drewN ?_ _ | refine blk_drew ?_ | refine blk_alloc ?_ _)); refine blk_put (cs := #[.int .i64 0, .int .u8 0, .int .u8 0, .int .u8 0, .int .i32 0]) ?_ 0 _ rfl; (with_reducible repeat (first | refine blk_drewN ?_ _ | refine blk_drew ?_ | refine blk_alloc ?_ _)); exact BK174.out) hb); have n2_ := Aside0.mk (below_step (by repeat (first | (with_reducible first | exact HB.out | apply below_alloc | apply pw_below_drewN | apply below_drew1 | refine below_set ?_ GE172.out | refine below_set ?_ GE174.out) | exact HB.out)) hb); clear BK172; clear BK174; clear HB; have BK172 := n0_; have BK174 := n1_; have HB := n2_; clear n0_ n1_ n2_; (try clear hb); (try clear hb2); (try clear hk); (try clear hi)) | ((with_reducible refine gate_dst (N := 6) rfl ?_); refine box_event ?hg (N := 6) ?hd (cs := #[.string (⟨#[]⟩ : ByteArray), .int .i64 0, .int .u8 0, .int .u8 0]) (t := 167) ?hr ?_; (case hd => rfl); (case hg => rfl); (case hr => first | (go_simp; done) | (go_simp; rfl)); intro gb180 hg w81 hbox hb; have n0_ := Aside0.mk (blk_below (g := gb172) (o := .cells #[.int .i64 0, .int .u8 0, .int .u8 0, .int .u8 0, .int .i32 0] 96 (0, 0)) (by (with_reducible repeat (first | refine blk_drewN ?_ _ | refine blk_drew ?_ | refine blk_alloc ?_ _)); exact BK172.out) hb); have n1_ := Aside0.mk (blk_below (g := gb174) (o := .cells #[.int .i64 (wrap64 (Int.tdiv (wrap64 (a0)) t173)), .int .u8 0, .int .u8 0, .int .u8 0, .int .i32 0] 96 (0, 0)) (by (with_reducible repeat (first | refine blk_drewN ?_ _ | refine blk_drew ?_ | refine blk_alloc ?_ _)); exact BK174.out) hb); have n2_ := Aside0.mk (below_step (by repeat (first | (with_reducible first | exact HB.out | apply below_alloc | apply pw_below_drewN | apply below_drew1 | refine below_set ?_ GE172.out | refine below_set ?_ GE174.out) | exact HB.out)) hb); have n3_ := Aside0.mk (hbox); have n4_ := Aside0.mk ((by rw [hg]; exact (below_size (by repeat (first | (with_reducible first | exact HB.out | apply below_alloc | apply pw_below_drewN | apply below_drew1 | refine below_set ?_ GE172.out | refine below_set ?_ GE174.out) | exact HB.out))) : w.heap.size ≤ gb180)); have n5_ := Aside0.mk ((by rw [hg]; exact (below_size (by repeat (first | (with_reducible first | exact HB.out | apply below_alloc | apply pw_below_drewN | apply below_drew1 | refine below_set ?_ GE172.out | refine below_set ?_ GE174.out) | exact HB.out))) : w.heap.size ≤ gb180)); have n6_ := Aside0.mk ((by rw [hg]; exact Nat.ne_of_lt (blk_lt (g := gb172) (o := .cells #[.int .i64 0, .int .u8 0, .int .u8 0, .int .u8 0, .int .i32 0] 96 (0, 0)) (by (with_reducible repeat (first | refine blk_drewN ?_ _ | refine blk_drew ?_ | refine blk_alloc ?_ _)); exact BK172.out)) : gb172 ≠ gb180)); have n7_ := Aside0.mk ((by rw [hg]; exact Nat.ne_of_gt (blk_lt (g := gb172) (o := .cells #[.int .i64 0, .int .u8 0, .int .u8 0, .int .u8 0, .int .i32 0] 96 (0, 0)) (by (with_reducible repeat (first | refine blk_drewN ?_ _ | refine blk_drew ?_ | refine blk_alloc ?_ _)); exact BK172.out)) : gb180 ≠ gb172)); have n8_ := Aside0.mk ((by rw [hg]; exact Nat.ne_of_lt (blk_lt (g := gb174) (o := .cells #[.int .i64 (wrap64 (Int.tdiv (wrap64 (a0)) t173)), .int .u8 0, .int .u8 0, .int .u8 0, .int .i32 0] 96 (0, 0)) (by (with_reducible repeat (first | refine blk_drewN ?_ _ | refine blk_drew ?_ | refine blk_alloc ?_ _)); exact BK174.out)) : gb174 ≠ gb180)); have n9_ := Aside0.mk ((by rw [hg]; exact Nat.ne_of_gt (blk_lt (g := gb174) (o := .cells #[.int .i64 (wrap64 (Int.tdiv (wrap64 (a0)) t173)), .int .u8 0, .int .u8 0, .int .u8 0, .int .i32 0] 96 (0, 0)) (by (with_reducible repeat (first | refine blk_drewN ?_ _ | refine blk_drew ?_ | refine blk_alloc ?_ _)); exact BK174.out)) : gb180 ≠ gb174)); clear BK172; clear BK174; clear HB; have BK172 := n0_; have BK174 := n1_; have HB := n2_; have BK180 := n3_; have GW180 := n4_; have GE180 := n5_; have NB172_180 := n6_; have NB180_172 := n7_; have NB174_180 := n8_; have NB180_174 := n9_; clear n0_ n1_ n2_ n3_ n4_ n5_ n6_ n7_ n8_ n9_; clear hb hbox hg; have hnb82 := NB180_172.out; have hnc82 := NB172_180.out; have hnb83 := NB180_174.out; have hnc83 := NB174_180.out; have hcz84_0 : w81.cell? ⟨gb180, 0, none⟩ = some (.string (⟨#[]⟩ : ByteArray)) := (blk_cell BK180.out 0).trans rfl; have hcz84_1 : w81.cell? ⟨gb180, 1, none⟩ = some (.int .i64 0) := (blk_cell BK180.out 1).trans rfl; have hcz84_2 : w81.cell? ⟨gb180, 2, none⟩ = some (.int .u8 0) := (blk_cell BK180.out 2).trans rfl; have hcz84_3 : w81.cell? ⟨gb180, 3, none⟩ = some (.int .u8 0) := (blk_cell BK180.out 3).trans rfl; have hfz84_0 := blk_frozen BK180.out 0; have hfz84_1 := blk_frozen BK180.out 1; have hfz84_2 := blk_frozen BK180.out 2; have hfz84_3 := blk_frozen BK180.out 3; have hcz85_0 : w81.cell? ⟨gb172, 0, none⟩ = some (.int .i64 0) := (blk_cell BK172.out 0).trans rfl; have hcz85_1 : w81.cell? ⟨gb172, 1, none⟩ = some (.int .u8 0) := (blk_cell BK172.out 1).trans rfl; have hcz85_2 : w81.cell? ⟨gb172, 2, none⟩ = some (.int .u8 0) := (blk_cell BK172.out 2).trans rfl; have hcz85_3 : w81.cell? ⟨gb172, 3, none⟩ = some (.int .u8 0) := (blk_cell BK172.out 3).trans rfl; have hcz85_4 : w81.cell? ⟨gb172, 4, none⟩ = some (.int .i32 0) := (blk_cell BK172.out 4).trans rfl; have hfz85_0 := blk_frozen BK172.out 0; have hfz85_1 := blk_frozen BK172.out 1; have hfz85_2 := blk_frozen BK172.out 2; have hfz85_3 := blk_frozen BK172.out 3; have hfz85_4 := blk_frozen BK172.out 4))
     refine bodyPost_ret (results_ct rfl _ _ gb172 96 #[.int .i64 0, .int .u8 0, .int .u8 0, .int .u8 0, .int .i32 0] (0, 0) _ rfl (by (with_reducible repeat (first | refine blk_drewN ?_ _ | refine blk_drew ?_ | refine blk_alloc ?_ _)); refine blk_put (cs := #[.int .i64 0, .int .u8 0, .int .u8 0, .int .u8 0, .int .i32 0]) ?_ 4 _ rfl; (with_reducible repeat (first | refine blk_drewN ?_ _ | refine blk_drew ?_ | refine blk_alloc ?_ _)); refine blk_put (cs := #[.int .i64 0, .int .u8 0, .int .u8 0, .int .u8 0, .int .i32 0]) ?_ 3 _ rfl; (with_reducible repeat (first | refine blk_drewN ?_ _ | refine blk_drew ?_ | refine blk_alloc ?_ _)); refine blk_put (cs := #[.int .i64 0, .int .u8 0, .int .u8 0, .int .u8 0, .int .i32 0]) ?_ 2 _ rfl; (with_reducible repeat (first | refine blk_drewN ?_ _ | refine blk_drew ?_ | refine blk_alloc ?_ _)); refine blk_put (cs := #[.int .i64 0, .int .u8 0, .int .u8 0, .int .u8 0, .int .i32 0]) ?_ 1 _ rfl; (with_reducible repeat (first | refine blk_drewN ?_ _ | refine blk_drew ?_ | refine blk_alloc ?_ _)); refine blk_put (cs := #[.int .i64 0, .int .u8 0, .int .u8 0, .int .u8 0, .int .i32 0]) ?_ 0 _ rfl; (with_reducible repeat (first | refine blk_drewN ?_ _ | refine blk_drew ?_ | refine blk_alloc ?_ _)); refine blk_far ?_ NB172_180.out _; (with_reducible repeat (first | refine blk_drewN ?_ _ | refine blk_drew ?_ | refine blk_alloc ?_ _)); refine blk_far ?_ NB172_180.out _; (with_reducible repeat (first | refine blk_drewN ?_ _ | refine blk_drew ?_ | refine blk_alloc ?_ _)); refine blk_far ?_ NB172_180.out _; (with_reducible repeat (first | refine blk_drewN ?_ _ | refine blk_drew ?_ | refine blk_alloc ?_ _)); refine blk_far ?_ NB172_180.out _; (with_reducible repeat (first | refine blk_drewN ?_ _ | refine blk_drew ?_ | refine blk_alloc ?_ _)); exact BK172.out) Tryz.underlying96 rfl (by kernel_rfl)) rfl ?_
     exact ⟨by first | rfl | (simp [errW_none, errW_some] <;> rfl) | (simp [*, errW_none, errW_some] <;> rfl), by repeat (first | (with_reducible first | exact HB.out | apply below_alloc | apply pw_below_drewN | apply below_drew1 | refine below_set ?_ GE172.out | refine below_set ?_ GE174.out | refine below_set ?_ GE180.out) | exact HB.out)⟩
end Go.Proofs.YtabmlbnnhhpaoaaGreatDoor.PAsmLines
