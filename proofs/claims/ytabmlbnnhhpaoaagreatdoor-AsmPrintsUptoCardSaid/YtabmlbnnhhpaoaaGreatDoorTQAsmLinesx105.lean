/- What this claim needs of QAsmLinesx105. -/
import Derived.Test.YtabmlbnnhhpaoaaGreatDoorTQAsmLinesx0
import Derived.Test.YtabmlbnnhhpaoaaGreatDoorTQAsmLinesx98
import Derived.Test.YtabmlbnnhhpaoaaGreatDoorTQAsmLinesx99
import Derived.Test.YtabmlbnnhhpaoaaGreatDoorTMRefOfG
import Derived.Test.YtabmlbnnhhpaoaaGreatDoorTQAsmLinesx100
import Derived.Test.YtabmlbnnhhpaoaaGreatDoorTQAsmLinesx101
import Derived.Test.YtabmlbnnhhpaoaaGreatDoorTQAsmLinesx103
import Derived.Test.YtabmlbnnhhpaoaaGreatDoorTQAsmLinesx104
set_option linter.unusedSimpArgs false
set_option linter.unusedVariables false
set_option maxHeartbeats 8000000
set_option maxRecDepth 100000
namespace Go.Proofs.YtabmlbnnhhpaoaaGreatDoor.PAsmLines
open Go.RowKit Go.Proofs.YtabmlbnnhhpaoaaGreatDoorW.PrintWords Go.Proofs.YtabmlbnnhhpaoaaGreatDoorW.PrintLast Go.Proofs.YtabmlbnnhhpaoaaGreatDoorW.PrintMore
attribute [local go_sem] max2_int min2_int max_two min_two max_three min_three max_four min_four   -- for this text's walks alone
mutual
def q_Encode.l0 : Nat → ByteArray → Int → Int → Int → Int → Int → Int → Int → Int → Int → ByteArray → Int → Int → Int → Option (Int × Int)
 | 0, _, _, _, _, _, _, _, _, _, _, _, _, _, _ => none
 | k + 1, x6, x7, x8, x9, x10, x192000, x192001, x192002, x192003, x192004, x198000, x198001, x198002, x198003 => if x10 < (x6.size : Int) then (if 0 ≤ x10 then ((q_register.f x192000 x192001 x192002 x192003 x192004 (bt x6 x10)).bind fun t202 => (q_Encode.l0 k x6 x7 (wrap64 (x8 + (wrap64 (x9 * t202)))) (wrap64 (Int.tdiv x9 16)) (wrap64 (x10 + 1)) x192000 x192001 x192002 x192003 x192004 x198000 x198001 x198002 x198003)) else (none)) else (q_Encode.l1 k x6 x7 x8 (⟨#[68, 65, 66]⟩ : ByteArray) 0 x192000 x192001 x192002 x192003 x192004 x198000 x198001 x198002 x198003)
def q_Encode.l1 : Nat → ByteArray → Int → Int → ByteArray → Int → Int → Int → Int → Int → Int → ByteArray → Int → Int → Int → Option (Int × Int)
 | 0, _, _, _, _, _, _, _, _, _, _, _, _, _, _ => none
 | k + 1, x6, x7, x8, x11, x12, x192000, x192001, x192002, x192003, x192004, x198000, x198001, x198002, x198003 => if x12 < 3 then (if 0 ≤ x12 then (if x12 < (x11.size : Int) then ((q_register.f x192000 x192001 x192002 x192003 x192004 (bt x11 x12)).bind fun t203 => ((q_has.f k x6 (bt x11 x12)).bind fun t204 => (if t203 > 15 then (some (0, 101)) else (if t203 > 0 then (if t204 = true then (q_Encode.l1 k x6 x7 x8 x11 (wrap64 (x12 + 1)) x192000 x192001 x192002 x192003 x192004 x198000 x198001 x198002 x198003) else (some (0, 101))) else (q_Encode.l1 k x6 x7 x8 x11 (wrap64 (x12 + 1)) x192000 x192001 x192002 x192003 x192004 x198000 x198001 x198002 x198003))))) else (none)) else (none)) else ((q_takes.f k x198002 x7 (wrap64 (x192004))).bind fun t205 => (if t205 = true then (if (wrap64 (x192004)) < 0 then ((q_power.f k x7).bind fun t206 => (some ((wrap64 (x8 + (wrap64 ((wrap64 (x192004)) + t206)))) % 4294967296, 0))) else (some ((wrap64 (x8 + (wrap64 (x192004)))) % 4294967296, 0))) else (some (0, 102))))
end
def q_Encode.f (k : Nat) (a0_0 : Int) (a0_1 : Int) (a0_2 : Int) (a0_3 : Int) (a0_4 : Int) : Option (Int × Int) := (q_Of.f k a0_0).bind fun bt192 => (if bt192.2.2.2.2 = true then ((q_Fields.f bt192.2.1).bind fun bt198 => ((q_power.f k 26).bind fun t200 => ((q_power.f k 22).bind fun t201 => (q_Encode.l0 k bt198.1 bt198.2 (wrap64 (a0_0 * t200)) t201 0 a0_0 a0_1 a0_2 a0_3 a0_4 bt192.1 bt192.2.1 bt192.2.2.1 bt192.2.2.2.1)))) else (some (0, 100)))
def q_Encode.T10 : Bool × List (List Nat × List Nat) := (true, [([], []), ([], []), ([], []), ([], []), ([], []), ([3, 4], [3, 4]), ([2, 5], [2, 5]), ([1, 6], [1, 6]), ([0, 7], [0, 7]), ([8, 6, 0, 1, 2, 3, 4, 5, 6, 7, 8], [0, 8])])
def q_Encode.B10 : List Nat := [0, 0, 0, 0, 0, 24, 60, 126, 255, 511]
theorem q_Encode.tab10 : rtab .any (opsOf Tryz.f46 10) = q_Encode.T10 := by kernel_rfl
theorem q_Encode.bits10 : waitsOk q_Encode.T10.2 q_Encode.B10 = true := by kernel_rfl
theorem q_Encode.calls (k : Nat) (a0_0 : Int) (a0_1 : Int) (a0_2 : Int) (a0_3 : Int) (a0_4 : Int) (r1 : Int) (r2 : Int) (w : World) (h : q_Encode.f k a0_0 a0_1 a0_2 a0_3 a0_4 = some (r1, r2)) :
 Calls Tryz.prog 46 #[.agg #[.int .i64 a0_0, .int .u8 a0_1, .int .u8 a0_2, .int .u8 a0_3, .int .i32 a0_4]] w fun e w' => e = .returned (.tuple #[.int .u32 r1, .int .i64 r2]) ∧ Below w.heap.size w w' := by
 have hu96 := Tryz.underlying96
 have hu167 := Tryz.underlying167
 have HB := Aside0.mk (Below.refl w.heap.size w)
 have H : ((q_Of.f k a0_0).bind fun bt192 => (if bt192.2.2.2.2 = true then ((q_Fields.f bt192.2.1).bind fun bt198 => ((q_power.f k 26).bind fun t200 => ((q_power.f k 22).bind fun t201 => (q_Encode.l0 k bt198.1 bt198.2 (wrap64 (a0_0 * t200)) t201 0 a0_0 a0_1 a0_2 a0_3 a0_4 bt192.1 bt192.2.1 bt192.2.2.1 bt192.2.2.2.1)))) else (some (0, 100)))) = some (r1, r2) := h
 clear h
 replace H := Option.bind_eq_some_iff.mp H
 obtain ⟨⟨t192, t193, t194, t195, t196⟩, A20, H⟩ := H
 replace H : (if t196 = true then ((q_Fields.f t193).bind fun bt198 => ((q_power.f k 26).bind fun t200 => ((q_power.f k 22).bind fun t201 => (q_Encode.l0 k bt198.1 bt198.2 (wrap64 (a0_0 * t200)) t201 0 a0_0 a0_1 a0_2 a0_3 a0_4 t192 t193 t194 t195)))) else (some (0, 100))) = some (r1, r2) := H
 have A2 := Aside0.mk A20
 clear A20
 by_cases c3 : t196 = true
 · subst c3
   have H1 : ((q_Fields.f t193).bind fun bt198 => ((q_power.f k 26).bind fun t200 => ((q_power.f k 22).bind fun t201 => (q_Encode.l0 k bt198.1 bt198.2 (wrap64 (a0_0 * t200)) t201 0 a0_0 a0_1 a0_2 a0_3 a0_4 t192 t193 t194 t195)))) = some (r1, r2) := by rw [if_pos rfl] at H; exact H
   clear H
   have H := H1
   clear H1
   replace H := Option.bind_eq_some_iff.mp H
   obtain ⟨⟨t198, t199⟩, A40, H⟩ := H
   replace H : ((q_power.f k 26).bind fun t200 => ((q_power.f k 22).bind fun t201 => (q_Encode.l0 k t198 t199 (wrap64 (a0_0 * t200)) t201 0 a0_0 a0_1 a0_2 a0_3 a0_4 t192 t193 t194 t195))) = some (r1, r2) := H
   have A4 := Aside0.mk A40
   clear A40
   replace H := Option.bind_eq_some_iff.mp H
   obtain ⟨t200, A50, H⟩ := H
   replace H : ((q_power.f k 22).bind fun t201 => (q_Encode.l0 k t198 t199 (wrap64 (a0_0 * t200)) t201 0 a0_0 a0_1 a0_2 a0_3 a0_4 t192 t193 t194 t195)) = some (r1, r2) := H
   have A5 := Aside0.mk A50
   clear A50
   replace H := Option.bind_eq_some_iff.mp H
   obtain ⟨t201, A60, H⟩ := H
   replace H : (q_Encode.l0 k t198 t199 (wrap64 (a0_0 * t200)) t201 0 a0_0 a0_1 a0_2 a0_3 a0_4 t192 t193 t194 t195) = some (r1, r2) := H
   have A6 := Aside0.mk A60
   clear A60
   have H' := Aside0.mk H
   clear H
   go_enter Tryz.func46, Tryz.ntmps46
   try go_wp2_with (first | ((with_reducible refine gate_dst (N := 1) rfl ?_); refine box_event ?hg (N := 1) ?hd (cs := #[.int .i64 a0_0, .int .u8 a0_1, .int .u8 a0_2, .int .u8 a0_3, .int .i32 a0_4]) (t := 96) ?hr ?_; (case hd => rfl); (case hg => rfl); (case hr => first | (go_simp; done) | (go_simp; rfl)); intro gb191 hg w7 hbox hb; have n0_ := Aside0.mk (below_step (by repeat (first | (with_reducible first | exact HB.out | apply below_alloc | apply pw_below_drewN | apply below_drew1) | exact HB.out)) hb); have n1_ := Aside0.mk (hbox); have n2_ := Aside0.mk ((by rw [hg]; exact (below_size (by repeat (first | (with_reducible first | exact HB.out | apply below_alloc | apply pw_below_drewN | apply below_drew1) | exact HB.out))) : w.heap.size ≤ gb191)); have n3_ := Aside0.mk ((by rw [hg]; exact (below_size (by repeat (first | (with_reducible first | exact HB.out | apply below_alloc | apply pw_below_drewN | apply below_drew1) | exact HB.out))) : w.heap.size ≤ gb191)); clear HB; have HB := n0_; have BK191 := n1_; have GW191 := n2_; have GE191 := n3_; clear n0_ n1_ n2_ n3_; clear hb hbox hg; have hcz8_0 : w7.cell? ⟨gb191, 0, none⟩ = some (.int .i64 a0_0) := (blk_cell BK191.out 0).trans rfl; have hcz8_1 : w7.cell? ⟨gb191, 1, none⟩ = some (.int .u8 a0_1) := (blk_cell BK191.out 1).trans rfl; have hcz8_2 : w7.cell? ⟨gb191, 2, none⟩ = some (.int .u8 a0_2) := (blk_cell BK191.out 2).trans rfl; have hcz8_3 : w7.cell? ⟨gb191, 3, none⟩ = some (.int .u8 a0_3) := (blk_cell BK191.out 3).trans rfl; have hcz8_4 : w7.cell? ⟨gb191, 4, none⟩ = some (.int .i32 a0_4) := (blk_cell BK191.out 4).trans rfl; have hfz8_0 := blk_frozen BK191.out 0; have hfz8_1 := blk_frozen BK191.out 1; have hfz8_2 := blk_frozen BK191.out 2; have hfz8_3 := blk_frozen BK191.out 3; have hfz8_4 := blk_frozen BK191.out 4) | ((with_reducible refine gate_callee (f := 75) rfl ?_); refine goesL_ (some 20) rfl rfl Tryz.func75 (by kernel_rfl) rfl #[.int .i64 a0_0] rfl (by (try simp only [List.map_toArray, List.map_cons, List.map_nil]); first | done | rfl | (simp only [List.length_drop, List.length_take]; rfl)) ?_; (with_reducible refine (q_Of.calls k a0_0 t192 t193 t194 t195 true _ A2.out).mono ?_); rintro e w9 ⟨rfl, hb⟩; refine ⟨_, rfl, ?_⟩; have n0_ := Aside0.mk (blk_below (g := gb191) (o := .cells #[.int .i64 a0_0, .int .u8 a0_1, .int .u8 a0_2, .int .u8 a0_3, .int .i32 a0_4] 96 (0, 0)) (by (with_reducible repeat (first | refine blk_drewN ?_ _ | refine blk_drew ?_ | refine blk_alloc ?_ _)); exact BK191.out) hb); have n1_ := Aside0.mk (below_step (by repeat (first | (with_reducible first | exact HB.out | apply below_alloc | apply pw_below_drewN | apply below_drew1 | refine below_set ?_ GE191.out) | exact HB.out)) hb); clear BK191; clear HB; have BK191 := n0_; have HB := n1_; clear n0_ n1_; (try clear hb); (try clear hb2); (try clear hk); (try clear hi)) | ((with_reducible refine gate_dst (N := 4) rfl ?_); refine box_event ?hg (N := 4) ?hd (cs := #[.string (⟨#[]⟩ : ByteArray), .int .i64 0, .int .u8 0, .int .u8 0]) (t := 167) ?hr ?_; (case hd => rfl); (case hg => rfl); (case hr => first | (go_simp; done) | (go_simp; rfl)); intro gb197 hg w10 hbox hb; have n0_ := Aside0.mk (blk_below (g := gb191) (o := .cells #[.int .i64 a0_0, .int .u8 a0_1, .int .u8 a0_2, .int .u8 a0_3, .int .i32 a0_4] 96 (0, 0)) (by (with_reducible repeat (first | refine blk_drewN ?_ _ | refine blk_drew ?_ | refine blk_alloc ?_ _)); exact BK191.out) hb); have n1_ := Aside0.mk (below_step (by repeat (first | (with_reducible first | exact HB.out | apply below_alloc | apply pw_below_drewN | apply below_drew1 | refine below_set ?_ GE191.out) | exact HB.out)) hb); have n2_ := Aside0.mk (hbox); have n3_ := Aside0.mk ((by rw [hg]; exact (below_size (by repeat (first | (with_reducible first | exact HB.out | apply below_alloc | apply pw_below_drewN | apply below_drew1 | refine below_set ?_ GE191.out) | exact HB.out))) : w.heap.size ≤ gb197)); have n4_ := Aside0.mk ((by rw [hg]; exact (below_size (by repeat (first | (with_reducible first | exact HB.out | apply below_alloc | apply pw_below_drewN | apply below_drew1 | refine below_set ?_ GE191.out) | exact HB.out))) : w.heap.size ≤ gb197)); have n5_ := Aside0.mk ((by rw [hg]; exact Nat.ne_of_lt (blk_lt (g := gb191) (o := .cells #[.int .i64 a0_0, .int .u8 a0_1, .int .u8 a0_2, .int .u8 a0_3, .int .i32 a0_4] 96 (0, 0)) (by (with_reducible repeat (first | refine blk_drewN ?_ _ | refine blk_drew ?_ | refine blk_alloc ?_ _)); exact BK191.out)) : gb191 ≠ gb197)); have n6_ := Aside0.mk ((by rw [hg]; exact Nat.ne_of_gt (blk_lt (g := gb191) (o := .cells #[.int .i64 a0_0, .int .u8 a0_1, .int .u8 a0_2, .int .u8 a0_3, .int .i32 a0_4] 96 (0, 0)) (by (with_reducible repeat (first | refine blk_drewN ?_ _ | refine blk_drew ?_ | refine blk_alloc ?_ _)); exact BK191.out)) : gb197 ≠ gb191)); clear BK191; clear HB; have BK191 := n0_; have HB := n1_; have BK197 := n2_; have GW197 := n3_; have GE197 := n4_; have NB191_197 := n5_; have NB197_191 := n6_; clear n0_ n1_ n2_ n3_ n4_ n5_ n6_; clear hb hbox hg; have hnb11 := NB197_191.out; have hnc11 := NB191_197.out; have hcz12_0 : w10.cell? ⟨gb197, 0, none⟩ = some (.string (⟨#[]⟩ : ByteArray)) := (blk_cell BK197.out 0).trans rfl; have hcz12_1 : w10.cell? ⟨gb197, 1, none⟩ = some (.int .i64 0) := (blk_cell BK197.out 1).trans rfl; have hcz12_2 : w10.cell? ⟨gb197, 2, none⟩ = some (.int .u8 0) := (blk_cell BK197.out 2).trans rfl; have hcz12_3 : w10.cell? ⟨gb197, 3, none⟩ = some (.int .u8 0) := (blk_cell BK197.out 3).trans rfl; have hfz12_0 := blk_frozen BK197.out 0; have hfz12_1 := blk_frozen BK197.out 1; have hfz12_2 := blk_frozen BK197.out 2; have hfz12_3 := blk_frozen BK197.out 3) | ((with_reducible refine gate_callee (f := 76) rfl ?_); refine goesL_ (some 28) rfl rfl Tryz.func76 (by kernel_rfl) rfl #[.int .i64 t193] rfl (by (try simp only [List.map_toArray, List.map_cons, List.map_nil]); first | done | rfl | (simp only [List.length_drop, List.length_take]; rfl)) ?_; (with_reducible refine (q_Fields.calls t193 t198 t199 _ A4.out).mono ?_); rintro e w' ⟨rfl, ⟨nd, rfl⟩⟩; refine ⟨_, rfl, ?_⟩))
   have n0_ : Aside0 (((((w10.setCell ⟨gb197, 0, none⟩ (.string t192)).setCell ⟨gb197, 1, none⟩ (.int .i64 t193)).setCell ⟨gb197, 2, none⟩ (.int .u8 t194)).setCell ⟨gb197, 3, none⟩ (.int .u8 t195)).heap[gb191]? = some (.cells #[.int .i64 a0_0, .int .u8 a0_1, .int .u8 a0_2, .int .u8 a0_3, .int .i32 a0_4] 96 (0, 0))) := ⟨by (with_reducible repeat (first | refine blk_drewN ?_ _ | refine blk_drew ?_ | refine blk_alloc ?_ _)); refine blk_far ?_ NB191_197.out _; (with_reducible repeat (first | refine blk_drewN ?_ _ | refine blk_drew ?_ | refine blk_alloc ?_ _)); refine blk_far ?_ NB191_197.out _; (with_reducible repeat (first | refine blk_drewN ?_ _ | refine blk_drew ?_ | refine blk_alloc ?_ _)); refine blk_far ?_ NB191_197.out _; (with_reducible repeat (first | refine blk_drewN ?_ _ | refine blk_drew ?_ | refine blk_alloc ?_ _)); refine blk_far ?_ NB191_197.out _; (with_reducible repeat (first | refine blk_drewN ?_ _ | refine blk_drew ?_ | refine blk_alloc ?_ _)); exact BK191.out⟩
   have n1_ : Aside0 (((((w10.setCell ⟨gb197, 0, none⟩ (.string t192)).setCell ⟨gb197, 1, none⟩ (.int .i64 t193)).setCell ⟨gb197, 2, none⟩ (.int .u8 t194)).setCell ⟨gb197, 3, none⟩ (.int .u8 t195)).heap[gb197]? = some (.cells #[.string t192, .int .i64 t193, .int .u8 t194, .int .u8 t195] 167 (0, 0))) := ⟨by (with_reducible repeat (first | refine blk_drewN ?_ _ | refine blk_drew ?_ | refine blk_alloc ?_ _)); refine blk_put (cs := #[.string t192, .int .i64 t193, .int .u8 t194, .int .u8 0]) ?_ 3 _ rfl; (with_reducible repeat (first | refine blk_drewN ?_ _ | refine blk_drew ?_ | refine blk_alloc ?_ _)); refine blk_put (cs := #[.string t192, .int .i64 t193, .int .u8 0, .int .u8 0]) ?_ 2 _ rfl; (with_reducible repeat (first | refine blk_drewN ?_ _ | refine blk_drew ?_ | refine blk_alloc ?_ _)); refine blk_put (cs := #[.string t192, .int .i64 0, .int .u8 0, .int .u8 0]) ?_ 1 _ rfl; (with_reducible repeat (first | refine blk_drewN ?_ _ | refine blk_drew ?_ | refine blk_alloc ?_ _)); refine blk_put (cs := #[.string (⟨#[]⟩ : ByteArray), .int .i64 0, .int .u8 0, .int .u8 0]) ?_ 0 _ rfl; (with_reducible repeat (first | refine blk_drewN ?_ _ | refine blk_drew ?_ | refine blk_alloc ?_ _)); exact BK197.out⟩
   have n2_ : Aside0 (Below w.heap.size w ((((w10.setCell ⟨gb197, 0, none⟩ (.string t192)).setCell ⟨gb197, 1, none⟩ (.int .i64 t193)).setCell ⟨gb197, 2, none⟩ (.int .u8 t194)).setCell ⟨gb197, 3, none⟩ (.int .u8 t195))) := ⟨by repeat (first | (with_reducible first | exact HB.out | apply below_alloc | apply pw_below_drewN | apply below_drew1 | refine below_set ?_ GE191.out | refine below_set ?_ GE197.out) | exact HB.out)⟩
   (try clear BK191)
   (try clear BK197)
   (try clear HB)
   generalize ((((w10.setCell ⟨gb197, 0, none⟩ (.string t192)).setCell ⟨gb197, 1, none⟩ (.int .i64 t193)).setCell ⟨gb197, 2, none⟩ (.int .u8 t194)).setCell ⟨gb197, 3, none⟩ (.int .u8 t195)) = w13 at n0_ n1_ n2_ ⊢
   have BK191 := n0_
   have BK197 := n1_
   have HB := n2_
   clear n0_ n1_ n2_
   (try (rw [drewN_self w13]; generalize hq_ : World.drewN w13 _ = w13; have n0_ : Aside0 (w13.heap[gb191]? = some (.cells #[.int .i64 a0_0, .int .u8 a0_1, .int .u8 a0_2, .int .u8 a0_3, .int .i32 a0_4] 96 (0, 0))) := ⟨by rw [← hq_]; exact (by (with_reducible repeat (first | refine blk_drewN ?_ _ | refine blk_drew ?_ | refine blk_alloc ?_ _)); exact BK191.out)⟩; have n1_ : Aside0 (w13.heap[gb197]? = some (.cells #[.string t192, .int .i64 t193, .int .u8 t194, .int .u8 t195] 167 (0, 0))) := ⟨by rw [← hq_]; exact (by (with_reducible repeat (first | refine blk_drewN ?_ _ | refine blk_drew ?_ | refine blk_alloc ?_ _)); exact BK197.out)⟩; have n2_ : Aside0 (Below w.heap.size w w13) := ⟨by rw [← hq_]; exact (by repeat (first | (with_reducible first | exact HB.out | apply below_alloc | apply pw_below_drewN | apply below_drew1 | refine below_set ?_ GE191.out | refine below_set ?_ GE197.out) | exact HB.out))⟩; clear BK191 BK197 HB hq_; have BK191 := n0_; have BK197 := n1_; have HB := n2_; clear n0_ n1_ n2_))
   have n0_ := Aside0.mk (blk_drew BK191.out)
   have n1_ := Aside0.mk (blk_drew BK197.out)
   have n2_ := Aside0.mk (below_drew1 HB.out)
   clear BK191
   clear BK197
   clear HB
   have BK191 := n0_
   have BK197 := n1_
   have HB := n2_
   clear n0_ n1_ n2_
   refine start_ (n := 5) (S := fun w' => w'.cell? ⟨gb191, 0, none⟩ = some (.int .i64 a0_0) ∧ w'.cell? ⟨gb191, 1, none⟩ = some (.int .u8 a0_1) ∧ w'.cell? ⟨gb191, 2, none⟩ = some (.int .u8 a0_2) ∧ w'.cell? ⟨gb191, 3, none⟩ = some (.int .u8 a0_3) ∧ w'.cell? ⟨gb191, 4, none⟩ = some (.int .i32 a0_4)) (ds := []) #[false, false, false, false, false] (by kernel_rfl) rfl rfl ⟨(blk_cell BK191.out 0).trans rfl, (blk_cell BK191.out 1).trans rfl, (blk_cell BK191.out 2).trans rfl, (blk_cell BK191.out 3).trans rfl, (blk_cell BK191.out 4).trans rfl⟩ (fun hHeld => ?_)
   generalize w13.drew = w14 at BK191 BK197 HB hHeld ⊢
   refine pure_ (i := 0) (N := some 31) (v := ?_) (a' := ?_) #[true, false, false, false, false] rfl rfl (by kernel_rfl) (fun _ _ _ h => h) (Or.inl ⟨by rfl, ?_⟩) ?_ ?_
   rotate_left
   · intro w'
     go_simp
     with_reducible rfl
   rotate_left
   · simp only [Act.put, List.setIfInBounds_toArray, List.set_cons_zero, List.set_cons_succ, i64_w, i32_w]
     rfl
   refine take_ (i := 1) (N := some 32) (v := ?_) (a' := ?_) #[true, true, false, false, false] rfl rfl (by kernel_rfl) (fun _ _ _ h => h) (Or.inl ⟨by rfl, ?_⟩) hHeld ?_ ?_
   rotate_left
   · rintro w' ⟨s0, s1, s2, s3, s4⟩
     go_simp
     with_reducible rfl
   rotate_left
   · simp only [Act.put, List.setIfInBounds_toArray, List.set_cons_zero, List.set_cons_succ, i64_w, i32_w]
     rfl
   refine one_ (i := 2) (N := some 33) #[true, true, true, false, false] rfl rfl (by kernel_rfl) (by decide) (fun K hK => ?_)
   refine goes_ Tryz.func74 (by kernel_rfl) rfl #[.int .i64 26] (by rfl) rfl rfl (by (try simp only [List.map_toArray, List.map_cons, List.map_nil]); first | done | rfl | (simp only [List.length_drop, List.length_take]; rfl)) ?_
   with_reducible refine (q_power.calls k 26 t200 _ A5.out).mono ?_
   rintro e w' ⟨rfl, ⟨nd, rfl⟩⟩
   refine ⟨_, rfl, ?_⟩
   refine hK.out _ _ ⟨(blk_cell BK191.out 0).trans rfl, (blk_cell BK191.out 1).trans rfl, (blk_cell BK191.out 2).trans rfl, (blk_cell BK191.out 3).trans rfl, (blk_cell BK191.out 4).trans rfl⟩ (fun hHeld => ?_)
   clear hK K
   refine norm_ (a' := ?_) ?_ ?_
   rotate_left
   · show Act.put _ (some 33) _ = _
     simp only [Act.put, List.setIfInBounds_toArray, List.set_cons_zero, List.set_cons_succ, i64_w, i32_w]
     rfl
   refine pure_ (i := 3) (N := some 34) (v := ?_) (a' := ?_) #[true, true, true, true, false] rfl rfl (by kernel_rfl) (fun _ _ _ h => h) (Or.inl ⟨by rfl, ?_⟩) ?_ ?_
   rotate_left
   · intro w'
     go_simp
     with_reducible rfl
   rotate_left
   · simp only [Act.put, List.setIfInBounds_toArray, List.set_cons_zero, List.set_cons_succ, i64_w, i32_w]
     rfl
   refine pure_ (i := 4) (N := some 8) (v := ?_) (a' := ?_) #[true, true, true, true, true] rfl rfl (by kernel_rfl) (fun _ _ _ h => h) (Or.inl ⟨by rfl, ?_⟩) ?_ ?_
   rotate_left
   · intro w'
     go_simp
     with_reducible rfl
   rotate_left
   · simp only [Act.put, List.setIfInBounds_toArray, List.set_cons_zero, List.set_cons_succ, i64_w, i32_w]
     rfl
   refine done_ (by kernel_rfl) ?_
   try go_wp2_with (first | ((with_reducible refine gate_callee (f := 74) rfl ?_); refine goesL_ (some 35) rfl rfl Tryz.func74 (by kernel_rfl) rfl #[.int .i64 22] rfl (by (try simp only [List.map_toArray, List.map_cons, List.map_nil]); first | done | rfl | (simp only [List.length_drop, List.length_take]; rfl)) ?_; (with_reducible refine (q_power.calls k 22 t201 _ A6.out).mono ?_); rintro e w' ⟨rfl, ⟨nd, rfl⟩⟩; refine ⟨_, rfl, ?_⟩))
   go_loopg [8, 9, 10] k (fun kq v8 v9 v10 w' => ∃ (x8_1 : Int) (x9_1 : Int) (x10_1 : Int), v8 = .int .i64 x8_1 ∧ v9 = .int .i64 x9_1 ∧ v10 = .int .i64 x10_1 ∧ Aside0 (q_Encode.l0 kq t198 t199 x8_1 x9_1 x10_1 a0_0 a0_1 a0_2 a0_3 a0_4 t192 t193 t194 t195 = some (r1, r2)) ∧ Aside0 (kq ≤ k) ∧ Aside0 (w'.heap[gb191]? = some (.cells #[.int .i64 a0_0, .int .u8 a0_1, .int .u8 a0_2, .int .u8 a0_3, .int .i32 a0_4] 96 (0, 0))) ∧ Aside0 (w'.heap[gb197]? = some (.cells #[.string t192, .int .i64 t193, .int .u8 t194, .int .u8 t195] 167 (0, 0))) ∧ Aside0 (Below w.heap.size w w'))
   case atStart => exact ⟨(wrap64 (a0_0 * t200)), (t201), (0), (by first | rfl | (simp; done) | (simp [*]; done)), (by first | rfl | (simp; done) | (simp [*]; done)), (by first | rfl | (simp; done) | (simp [*]; done)), H', ⟨Nat.le_refl _⟩, ⟨by (with_reducible repeat (first | refine blk_drewN ?_ _ | refine blk_drew ?_ | refine blk_alloc ?_ _)); exact BK191.out⟩, ⟨by (with_reducible repeat (first | refine blk_drewN ?_ _ | refine blk_drew ?_ | refine blk_alloc ?_ _)); exact BK197.out⟩, ⟨by repeat (first | (with_reducible first | exact HB.out | apply below_alloc | apply pw_below_drewN | apply below_drew1 | refine below_set ?_ GE191.out | refine below_set ?_ GE197.out) | exact HB.out)⟩⟩
   case round =>
    clear H'
    try clear c1
    try clear p2
    try clear c3
    try clear c4
    try clear p6
    try clear c7
    try clear c11
    try clear hcz12_0
    try clear hcz12_1
    try clear hcz12_2
    try clear hcz12_3
    try clear hcz8_0
    try clear hcz8_1
    try clear hcz8_2
    try clear hcz8_3
    try clear hcz8_4
    try clear hfz12_0
    try clear hfz12_1
    try clear hfz12_2
    try clear hfz12_3
    try clear hfz8_0
    try clear hfz8_1
    try clear hfz8_2
    try clear hfz8_3
    try clear hfz8_4
    obtain ⟨x8_1, x9_1, x10_1, rfl, rfl, rfl, HA, HK1, BK191, BK197, HB⟩ := hrel
    cases gk with
    | zero => exact absurd HA.out (by simp [q_Encode.l0])
    | succ k1 =>
     have H := HA.out
     clear HA
     simp only [q_Encode.l0] at H
     by_cases c15 : x10_1 < (t198.size : Int)
     · rw [if_pos c15] at H
       have c15b0 : decide (x10_1 < (t198.size : Int)) = true := decide_eq_true c15
       clear c15
       by_cases c16 : 0 ≤ x10_1
       · rw [if_pos c16] at H
         have c16b0 : decide (0 ≤ x10_1) = true := decide_eq_true c16
         clear c16
         replace H := Option.bind_eq_some_iff.mp H
         obtain ⟨t202, A180, H⟩ := H
         replace H : (q_Encode.l0 k1 t198 t199 (wrap64 (x8_1 + (wrap64 (x9_1 * t202)))) (wrap64 (Int.tdiv x9_1 16)) (wrap64 (x10_1 + 1)) a0_0 a0_1 a0_2 a0_3 a0_4 t192 t193 t194 t195) = some (r1, r2) := H
         have A18 := Aside0.mk A180
         clear A180
         have H' := Aside0.mk H
         clear H
         try go_wp2
         have n0_ := Aside0.mk (blk_drew BK191.out)
         have n1_ := Aside0.mk (blk_drew BK197.out)
         have n2_ := Aside0.mk (below_drew1 HB.out)
         clear BK191
         clear BK197
         clear HB
         have BK191 := n0_
         have BK197 := n1_
         have HB := n2_
         clear n0_ n1_ n2_
         have p17 : 0 ≤ (x10_1 : Int) := of_decide_eq_true (by first | (with_reducible assumption) | assumption)
         have q17 : x10_1 < (t198.size : Int) := of_decide_eq_true (by first | (with_reducible assumption) | assumption)
         have hx17 := bt_at t198 x10_1
         replace p17 := eq_true p17
         replace q17 := eq_true q17
         refine start_ (n := 10) (S := fun w' => w'.cell? ⟨gb191, 0, none⟩ = some (.int .i64 a0_0) ∧ w'.cell? ⟨gb191, 1, none⟩ = some (.int .u8 a0_1) ∧ w'.cell? ⟨gb191, 2, none⟩ = some (.int .u8 a0_2) ∧ w'.cell? ⟨gb191, 3, none⟩ = some (.int .u8 a0_3) ∧ w'.cell? ⟨gb191, 4, none⟩ = some (.int .i32 a0_4)) (ds := []) #[false, false, false, false, false, false, false, false, false, false] (by kernel_rfl) rfl rfl ⟨(blk_cell BK191.out 0).trans rfl, (blk_cell BK191.out 1).trans rfl, (blk_cell BK191.out 2).trans rfl, (blk_cell BK191.out 3).trans rfl, (blk_cell BK191.out 4).trans rfl⟩ (fun hHeld => ?_); refine with_tabW q_Encode.tab10 q_Encode.bits10 (fun HT_ HW_ => ?_)
         generalize wr.drew = w19 at BK191 BK197 HB hHeld ⊢
         refine pure_ (i := 0) (N := some 42) (v := ?_) (a' := ?_) #[true, false, false, false, false, false, false, false, false, false] rfl rfl (any_of HT_.out (by kernel_rfl)) (fun _ _ _ h => h) (Or.inl ⟨by rfl, ?_⟩) ?_ ?_
         rotate_left
         · intro w'
           go_simp
           with_reducible rfl
         rotate_left
         · simp only [Act.put, List.setIfInBounds_toArray, List.set_cons_zero, List.set_cons_succ, i64_w, i32_w]
           rfl
         refine pure_ (i := 1) (N := some 43) (v := ?_) (a' := ?_) #[true, true, false, false, false, false, false, false, false, false] rfl rfl (any_of HT_.out (by kernel_rfl)) (fun _ _ _ h => h) (Or.inl ⟨by rfl, ?_⟩) ?_ ?_
         rotate_left
         · intro w'
           go_simp
           with_reducible rfl
         rotate_left
         · simp only [Act.put, List.setIfInBounds_toArray, List.set_cons_zero, List.set_cons_succ, i64_w, i32_w]
           rfl
         refine pure_ (i := 3) (N := some 45) (v := ?_) (a' := ?_) #[true, true, false, true, false, false, false, false, false, false] rfl rfl (any_of HT_.out (by kernel_rfl)) (fun _ _ _ h => h) (Or.inl ⟨by rfl, ?_⟩) ?_ ?_
         rotate_left
         · intro w'
           go_simp
           with_reducible rfl
         rotate_left
         · simp only [Act.put, List.setIfInBounds_toArray, List.set_cons_zero, List.set_cons_succ, i64_w, i32_w]
           rfl
         refine pure_ (i := 4) (N := some 46) (v := ?_) (a' := ?_) #[true, true, false, true, true, false, false, false, false, false] rfl rfl (any_of HT_.out (by kernel_rfl)) (fun _ _ _ h => h) (Or.inl ⟨by rfl, ?_⟩) ?_ ?_
         rotate_left
         · intro w'
           go_simp
           with_reducible rfl
         rotate_left
         · simp only [Act.put, List.setIfInBounds_toArray, List.set_cons_zero, List.set_cons_succ, i64_w, i32_w]
           rfl
         refine take_ (i := 2) (N := some 44) (v := ?_) (a' := ?_) #[true, true, true, true, true, false, false, false, false, false] rfl rfl (take_ofW HT_.out HW_.out (by kernel_rfl)) (fun _ _ _ h => h) (Or.inl ⟨by rfl, ?_⟩) hHeld ?_ ?_
         rotate_left
         · rintro w' ⟨s0, s1, s2, s3, s4⟩
           go_simp
           with_reducible rfl
         rotate_left
         · simp only [Act.put, List.setIfInBounds_toArray, List.set_cons_zero, List.set_cons_succ, i64_w, i32_w]
           rfl
         refine take_ (i := 5) (N := some 47) (v := ?_) (a' := ?_) #[true, true, true, true, true, true, false, false, false, false] rfl rfl (take_ofW HT_.out HW_.out (by kernel_rfl)) (fun _ _ _ h => h) (Or.inl ⟨by rfl, ?_⟩) hHeld ?_ ?_
         rotate_left
         · rintro w' ⟨s0, s1, s2, s3, s4⟩
           go_simp
           with_reducible rfl
         rotate_left
         · simp only [Act.put, List.setIfInBounds_toArray, List.set_cons_zero, List.set_cons_succ, i64_w, i32_w]
           rfl
         refine one_ (i := 6) (N := some 48) #[true, true, true, true, true, true, true, false, false, false] rfl rfl (one_of HT_.out (by kernel_rfl)) (by decide) (fun K hK => ?_)
         refine goes_ Tryz.func79 (by kernel_rfl) rfl #[.agg #[.int .i64 a0_0, .int .u8 a0_1, .int .u8 a0_2, .int .u8 a0_3, .int .i32 a0_4], .int .u8 (bt t198 x10_1)] (by rfl) rfl rfl (by (try simp only [List.map_toArray, List.map_cons, List.map_nil]); first | done | rfl | (simp only [List.length_drop, List.length_take]; rfl)) ?_
         with_reducible refine (q_register.calls a0_0 a0_1 a0_2 a0_3 a0_4 (bt t198 x10_1) t202 _ A18.out).mono ?_
         rintro e w20 ⟨rfl, hb⟩
         refine ⟨_, rfl, ?_⟩
         have n0_ := Aside0.mk (blk_below (g := gb191) (o := .cells #[.int .i64 a0_0, .int .u8 a0_1, .int .u8 a0_2, .int .u8 a0_3, .int .i32 a0_4] 96 (0, 0)) (by (with_reducible repeat (first | refine blk_drewN ?_ _ | refine blk_drew ?_ | refine blk_alloc ?_ _)); exact BK191.out) hb)
         have n1_ := Aside0.mk (blk_below (g := gb197) (o := .cells #[.string t192, .int .i64 t193, .int .u8 t194, .int .u8 t195] 167 (0, 0)) (by (with_reducible repeat (first | refine blk_drewN ?_ _ | refine blk_drew ?_ | refine blk_alloc ?_ _)); exact BK197.out) hb)
         have n2_ := Aside0.mk (below_step (by repeat (first | (with_reducible first | exact HB.out | apply below_alloc | apply pw_below_drewN | apply below_drew1 | refine below_set ?_ GE191.out | refine below_set ?_ GE197.out) | exact HB.out)) hb)
         clear BK191
         clear BK197
         clear HB
         have BK191 := n0_
         have BK197 := n1_
         have HB := n2_
         clear n0_ n1_ n2_
         (try clear hb)
         (try clear hb2)
         (try clear hk)
         (try clear hi)
         refine hK.out _ _ ⟨(blk_cell BK191.out 0).trans rfl, (blk_cell BK191.out 1).trans rfl, (blk_cell BK191.out 2).trans rfl, (blk_cell BK191.out 3).trans rfl, (blk_cell BK191.out 4).trans rfl⟩ (fun hHeld => ?_)
         clear hK K
         refine norm_ (a' := ?_) ?_ ?_
         rotate_left
         · show Act.put _ (some 48) _ = _
           simp only [Act.put, List.setIfInBounds_toArray, List.set_cons_zero, List.set_cons_succ, i64_w, i32_w]
           rfl
         refine pure_ (i := 7) (N := some 49) (v := ?_) (a' := ?_) #[true, true, true, true, true, true, true, true, false, false] rfl rfl (any_of HT_.out (by kernel_rfl)) (fun _ _ _ h => h) (Or.inl ⟨by rfl, ?_⟩) ?_ ?_
         rotate_left
         · intro w'
           go_simp
           with_reducible rfl
         rotate_left
         · simp only [Act.put, List.setIfInBounds_toArray, List.set_cons_zero, List.set_cons_succ, i64_w, i32_w]
           rfl
         refine pure_ (i := 8) (N := some 50) (v := ?_) (a' := ?_) #[true, true, true, true, true, true, true, true, true, false] rfl rfl (any_of HT_.out (by kernel_rfl)) (fun _ _ _ h => h) (Or.inl ⟨by rfl, ?_⟩) ?_ ?_
         rotate_left
         · intro w'
           go_simp
           with_reducible rfl
         rotate_left
         · simp only [Act.put, List.setIfInBounds_toArray, List.set_cons_zero, List.set_cons_succ, i64_w, i32_w]
           rfl
         refine pure_ (i := 9) (N := some 8) (v := ?_) (a' := ?_) #[true, true, true, true, true, true, true, true, true, true] rfl rfl (any_of HT_.out (by kernel_rfl)) (fun _ _ _ h => h) (Or.inl ⟨by rfl, ?_⟩) ?_ ?_
         rotate_left
         · intro w'
           go_simp
           with_reducible rfl
         rotate_left
         · simp only [Act.put, List.setIfInBounds_toArray, List.set_cons_zero, List.set_cons_succ, i64_w, i32_w]
           rfl
         refine done_ (done_of HT_.out (by kernel_rfl)) ?_
         try go_wp2
         go_roundg k1
         case measure => have := HK1.out; omega
         case rel => exact ⟨(wrap64 (x8_1 + (wrap64 (x9_1 * t202)))), (wrap64 (Int.tdiv x9_1 16)), (wrap64 (x10_1 + 1)), (by first | rfl | (simp; done) | (simp [*]; done)), (by first | rfl | (simp; done) | (simp [*]; done)), (by first | rfl | (simp; done) | (simp [*]; done)), H', ⟨by have := HK1.out; omega⟩, ⟨by (with_reducible repeat (first | refine blk_drewN ?_ _ | refine blk_drew ?_ | refine blk_alloc ?_ _)); exact BK191.out⟩, ⟨by (with_reducible repeat (first | refine blk_drewN ?_ _ | refine blk_drew ?_ | refine blk_alloc ?_ _)); exact BK197.out⟩, ⟨by repeat (first | (with_reducible first | exact HB.out | apply below_alloc | apply pw_below_drewN | apply below_drew1 | refine below_set ?_ GE191.out | refine below_set ?_ GE197.out) | exact HB.out)⟩⟩
       · rw [if_neg c16] at H
         exact absurd H (by simp)
     · rw [if_neg c15] at H
       have c15b0 : decide (x10_1 < (t198.size : Int)) = false := decide_eq_false c15
       clear c15
       have H' := Aside0.mk H
       clear H
       go_wp2
       go_loopg [12] k1 (fun kq v12 w' => ∃ (x12_2 : Int), v12 = .int .i64 x12_2 ∧ Aside0 (q_Encode.l1 kq t198 t199 x8_1 (⟨#[68, 65, 66]⟩ : ByteArray) x12_2 a0_0 a0_1 a0_2 a0_3 a0_4 t192 t193 t194 t195 = some (r1, r2)) ∧ Aside0 (kq ≤ k1) ∧ Aside0 (w'.heap[gb191]? = some (.cells #[.int .i64 a0_0, .int .u8 a0_1, .int .u8 a0_2, .int .u8 a0_3, .int .i32 a0_4] 96 (0, 0))) ∧ Aside0 (w'.heap[gb197]? = some (.cells #[.string t192, .int .i64 t193, .int .u8 t194, .int .u8 t195] 167 (0, 0))) ∧ Aside0 (Below w.heap.size w w'))
       case atStart => exact ⟨(0), (by first | rfl | (simp; done) | (simp [*]; done)), H', ⟨Nat.le_refl _⟩, ⟨by (with_reducible repeat (first | refine blk_drewN ?_ _ | refine blk_drew ?_ | refine blk_alloc ?_ _)); exact BK191.out⟩, ⟨by (with_reducible repeat (first | refine blk_drewN ?_ _ | refine blk_drew ?_ | refine blk_alloc ?_ _)); exact BK197.out⟩, ⟨by repeat (first | (with_reducible first | exact HB.out | apply below_alloc | apply pw_below_drewN | apply below_drew1 | refine below_set ?_ GE191.out | refine below_set ?_ GE197.out) | exact HB.out)⟩⟩
       case round =>
        clear H'
        try clear c1
        try clear p1
        try clear q1
        try clear hx1
        try clear p2
        try clear c3
        try clear c4
        try clear p6
        try clear c7
        try clear c11
        try clear c15
        try clear c15b0
        try clear c16
        try clear c16b0
        try clear p17
        try clear q17
        try clear hx17
        try clear hcz12_0
        try clear hcz12_1
        try clear hcz12_2
        try clear hcz12_3
        try clear hcz8_0
        try clear hcz8_1
        try clear hcz8_2
        try clear hcz8_3
        try clear hcz8_4
        try clear hfz12_0
        try clear hfz12_1
        try clear hfz12_2
        try clear hfz12_3
        try clear hfz8_0
        try clear hfz8_1
        try clear hfz8_2
        try clear hfz8_3
        try clear hfz8_4
        try clear p17
        try clear p2
        try clear p6
        try clear q17
        obtain ⟨x12_2, rfl, HA, HK2, BK191, BK197, HB⟩ := hrel
        cases gk with
        | zero => exact absurd HA.out (by simp [q_Encode.l1])
        | succ k2 =>
         have H := HA.out
         clear HA
         simp only [q_Encode.l1] at H
         by_cases c21 : x12_2 < 3
         · rw [if_pos c21] at H
           have c21b0 : decide (x12_2 < 3) = true := decide_eq_true c21
           clear c21
           by_cases c22 : 0 ≤ x12_2
           · rw [if_pos c22] at H
             have c22b0 : decide (0 ≤ x12_2) = true := decide_eq_true c22
             clear c22
             by_cases c23 : x12_2 < ((⟨#[68, 65, 66]⟩ : ByteArray).size : Int)
             · rw [if_pos c23] at H
               have c23b0 : decide (x12_2 < ((⟨#[68, 65, 66]⟩ : ByteArray).size : Int)) = true := decide_eq_true c23
               clear c23
               replace H := Option.bind_eq_some_iff.mp H
               obtain ⟨t203, A250, H⟩ := H
               replace H : ((q_has.f k2 t198 (bt (⟨#[68, 65, 66]⟩ : ByteArray) x12_2)).bind fun t204 => (if t203 > 15 then (some (0, 101)) else (if t203 > 0 then (if t204 = true then (q_Encode.l1 k2 t198 t199 x8_1 (⟨#[68, 65, 66]⟩ : ByteArray) (wrap64 (x12_2 + 1)) a0_0 a0_1 a0_2 a0_3 a0_4 t192 t193 t194 t195) else (some (0, 101))) else (q_Encode.l1 k2 t198 t199 x8_1 (⟨#[68, 65, 66]⟩ : ByteArray) (wrap64 (x12_2 + 1)) a0_0 a0_1 a0_2 a0_3 a0_4 t192 t193 t194 t195)))) = some (r1, r2) := H
               have A25 := Aside0.mk A250
               clear A250
               replace H := Option.bind_eq_some_iff.mp H
               obtain ⟨t204, A270, H⟩ := H
               replace H : (if t203 > 15 then (some (0, 101)) else (if t203 > 0 then (if t204 = true then (q_Encode.l1 k2 t198 t199 x8_1 (⟨#[68, 65, 66]⟩ : ByteArray) (wrap64 (x12_2 + 1)) a0_0 a0_1 a0_2 a0_3 a0_4 t192 t193 t194 t195) else (some (0, 101))) else (q_Encode.l1 k2 t198 t199 x8_1 (⟨#[68, 65, 66]⟩ : ByteArray) (wrap64 (x12_2 + 1)) a0_0 a0_1 a0_2 a0_3 a0_4 t192 t193 t194 t195))) = some (r1, r2) := H
               have A27 := Aside0.mk A270
               clear A270
               by_cases c28 : t203 > 15
               · rw [if_pos c28] at H
                 have c28b0 : decide (15 < t203) = true := decide_eq_true c28
                 clear c28
                 simp only [Option.some.injEq, Prod.mk.injEq] at H
                 obtain ⟨rfl, rfl⟩ := H
                 try go_wp2
                 have n0_ := Aside0.mk (blk_drew BK191.out)
                 have n1_ := Aside0.mk (blk_drew BK197.out)
                 have n2_ := Aside0.mk (below_drew1 HB.out)
                 clear BK191
                 clear BK197
                 clear HB
                 have BK191 := n0_
                 have BK197 := n1_
                 have HB := n2_
                 clear n0_ n1_ n2_
                 have p24 : 0 ≤ (x12_2 : Int) := of_decide_eq_true (by first | (with_reducible assumption) | assumption)
                 have q24 : x12_2 < (3 : Int) := of_decide_eq_true (by first | (with_reducible assumption) | assumption)
                 have hx24 := bt_at (⟨#[68, 65, 66]⟩ : ByteArray) x12_2
                 replace p24 := eq_true p24
                 replace q24 := eq_true q24
                 refine start_ (n := 6) (S := fun w' => w'.cell? ⟨gb191, 0, none⟩ = some (.int .i64 a0_0) ∧ w'.cell? ⟨gb191, 1, none⟩ = some (.int .u8 a0_1) ∧ w'.cell? ⟨gb191, 2, none⟩ = some (.int .u8 a0_2) ∧ w'.cell? ⟨gb191, 3, none⟩ = some (.int .u8 a0_3) ∧ w'.cell? ⟨gb191, 4, none⟩ = some (.int .i32 a0_4)) (ds := []) #[false, false, false, false, false, false] (by kernel_rfl) rfl rfl ⟨(blk_cell BK191.out 0).trans rfl, (blk_cell BK191.out 1).trans rfl, (blk_cell BK191.out 2).trans rfl, (blk_cell BK191.out 3).trans rfl, (blk_cell BK191.out 4).trans rfl⟩ (fun hHeld => ?_)
                 generalize wr.drew = w29 at BK191 BK197 HB hHeld ⊢
                 refine pure_ (i := 1) (N := some 58) (v := ?_) (a' := ?_) #[false, true, false, false, false, false] rfl rfl (by kernel_rfl) (fun _ _ _ h => h) (Or.inl ⟨by rfl, ?_⟩) ?_ ?_
                 rotate_left
                 · intro w'
                   go_simp
                   with_reducible rfl
                 rotate_left
                 · simp only [Act.put, List.setIfInBounds_toArray, List.set_cons_zero, List.set_cons_succ, i64_w, i32_w]
                   rfl
                 refine pure_ (i := 2) (N := some 59) (v := ?_) (a' := ?_) #[false, true, true, false, false, false] rfl rfl (by kernel_rfl) (fun _ _ _ h => h) (Or.inl ⟨by rfl, ?_⟩) ?_ ?_
                 rotate_left
                 · intro w'
                   go_simp
                   with_reducible rfl
                 rotate_left
                 · simp only [Act.put, List.setIfInBounds_toArray, List.set_cons_zero, List.set_cons_succ, i64_w, i32_w]
                   rfl
                 refine take_ (i := 0) (N := some 57) (v := ?_) (a' := ?_) #[true, true, true, false, false, false] rfl rfl (by kernel_rfl) (fun _ _ _ h => h) (Or.inl ⟨by rfl, ?_⟩) hHeld ?_ ?_
                 rotate_left
                 · rintro w' ⟨s0, s1, s2, s3, s4⟩
                   go_simp
                   with_reducible rfl
                 rotate_left
                 · simp only [Act.put, List.setIfInBounds_toArray, List.set_cons_zero, List.set_cons_succ, i64_w, i32_w]
                   rfl
                 refine take_ (i := 3) (N := some 60) (v := ?_) (a' := ?_) #[true, true, true, true, false, false] rfl rfl (by kernel_rfl) (fun _ _ _ h => h) (Or.inl ⟨by rfl, ?_⟩) hHeld ?_ ?_
                 rotate_left
                 · rintro w' ⟨s0, s1, s2, s3, s4⟩
                   go_simp
                   with_reducible rfl
                 rotate_left
                 · simp only [Act.put, List.setIfInBounds_toArray, List.set_cons_zero, List.set_cons_succ, i64_w, i32_w]
                   rfl
                 refine one_ (i := 4) (N := some 61) #[true, true, true, true, true, false] rfl rfl (by kernel_rfl) (by decide) (fun K hK => ?_)
                 refine goes_ Tryz.func79 (by kernel_rfl) rfl #[.agg #[.int .i64 a0_0, .int .u8 a0_1, .int .u8 a0_2, .int .u8 a0_3, .int .i32 a0_4], .int .u8 (bt (⟨#[68, 65, 66]⟩ : ByteArray) x12_2)] (by rfl) rfl rfl (by (try simp only [List.map_toArray, List.map_cons, List.map_nil]); first | done | rfl | (simp only [List.length_drop, List.length_take]; rfl)) ?_
                 with_reducible refine (q_register.calls a0_0 a0_1 a0_2 a0_3 a0_4 (bt (⟨#[68, 65, 66]⟩ : ByteArray) x12_2) t203 _ A25.out).mono ?_
                 rintro e w30 ⟨rfl, hb⟩
                 refine ⟨_, rfl, ?_⟩
                 have n0_ := Aside0.mk (blk_below (g := gb191) (o := .cells #[.int .i64 a0_0, .int .u8 a0_1, .int .u8 a0_2, .int .u8 a0_3, .int .i32 a0_4] 96 (0, 0)) (by (with_reducible repeat (first | refine blk_drewN ?_ _ | refine blk_drew ?_ | refine blk_alloc ?_ _)); exact BK191.out) hb)
                 have n1_ := Aside0.mk (blk_below (g := gb197) (o := .cells #[.string t192, .int .i64 t193, .int .u8 t194, .int .u8 t195] 167 (0, 0)) (by (with_reducible repeat (first | refine blk_drewN ?_ _ | refine blk_drew ?_ | refine blk_alloc ?_ _)); exact BK197.out) hb)
                 have n2_ := Aside0.mk (below_step (by repeat (first | (with_reducible first | exact HB.out | apply below_alloc | apply pw_below_drewN | apply below_drew1 | refine below_set ?_ GE191.out | refine below_set ?_ GE197.out) | exact HB.out)) hb)
                 clear BK191
                 clear BK197
                 clear HB
                 have BK191 := n0_
                 have BK197 := n1_
                 have HB := n2_
                 clear n0_ n1_ n2_
                 (try clear hb)
                 (try clear hb2)
                 (try clear hk)
                 (try clear hi)
                 refine hK.out _ _ ⟨(blk_cell BK191.out 0).trans rfl, (blk_cell BK191.out 1).trans rfl, (blk_cell BK191.out 2).trans rfl, (blk_cell BK191.out 3).trans rfl, (blk_cell BK191.out 4).trans rfl⟩ (fun hHeld => ?_)
                 clear hK K
                 refine norm_ (a' := ?_) ?_ ?_
                 rotate_left
                 · show Act.put _ (some 61) _ = _
                   simp only [Act.put, List.setIfInBounds_toArray, List.set_cons_zero, List.set_cons_succ, i64_w, i32_w]
                   rfl
                 refine pure_ (i := 5) (N := some 13) (v := ?_) (a' := ?_) #[true, true, true, true, true, true] rfl rfl (by kernel_rfl) (fun _ _ _ h => h) (Or.inl ⟨by rfl, ?_⟩) ?_ ?_
                 rotate_left
                 · intro w'
                   go_simp
                   with_reducible rfl
                 rotate_left
                 · simp only [Act.put, List.setIfInBounds_toArray, List.set_cons_zero, List.set_cons_succ, i64_w, i32_w]
                   rfl
                 refine done_ (by kernel_rfl) ?_
                 have p26 : 0 ≤ (x12_2 : Int) := of_decide_eq_true (by first | (with_reducible assumption) | assumption)
                 have q26 : x12_2 < (3 : Int) := of_decide_eq_true (by first | (with_reducible assumption) | assumption)
                 have hx26 := bt_at (⟨#[68, 65, 66]⟩ : ByteArray) x12_2
                 replace p26 := eq_true p26
                 replace q26 := eq_true q26
                 try go_wp2_with (first | ((with_reducible refine gate_callee (f := 83) rfl ?_); refine goesL_ (some 66) rfl rfl Tryz.func83 (by kernel_rfl) rfl #[.string t198, .int .u8 (bt (⟨#[68, 65, 66]⟩ : ByteArray) x12_2)] rfl (by (try simp only [List.map_toArray, List.map_cons, List.map_nil]); first | done | rfl | (simp only [List.length_drop, List.length_take]; rfl)) ?_; (with_reducible refine (q_has.calls k2 t198 (bt (⟨#[68, 65, 66]⟩ : ByteArray) x12_2) t204 _ A27.out).mono ?_); rintro e w' ⟨rfl, ⟨nd, rfl⟩⟩; refine ⟨_, rfl, ?_⟩))
                 go_ret2
                 exact ⟨by first | rfl | (simp [errW_none, errW_some] <;> rfl) | (simp [*, errW_none, errW_some] <;> rfl), by repeat (first | (with_reducible first | exact HB.out | apply below_alloc | apply pw_below_drewN | apply below_drew1 | refine below_set ?_ GE191.out | refine below_set ?_ GE197.out) | exact HB.out)⟩
               · rw [if_neg c28] at H
                 have c28b0 : decide (15 < t203) = false := decide_eq_false c28
                 clear c28
                 by_cases c31 : t203 > 0
                 · rw [if_pos c31] at H
                   have c31b0 : decide (0 < t203) = true := decide_eq_true c31
                   clear c31
                   by_cases c32 : t204 = true
                   · subst c32
                     have H1 : (q_Encode.l1 k2 t198 t199 x8_1 (⟨#[68, 65, 66]⟩ : ByteArray) (wrap64 (x12_2 + 1)) a0_0 a0_1 a0_2 a0_3 a0_4 t192 t193 t194 t195) = some (r1, r2) := by rw [if_pos rfl] at H; exact H
                     clear H
                     have H := H1
                     clear H1
                     have H' := Aside0.mk H
                     clear H
                     try go_wp2
                     have n0_ := Aside0.mk (blk_drew BK191.out)
                     have n1_ := Aside0.mk (blk_drew BK197.out)
                     have n2_ := Aside0.mk (below_drew1 HB.out)
                     clear BK191
                     clear BK197
                     clear HB
                     have BK191 := n0_
                     have BK197 := n1_
                     have HB := n2_
                     clear n0_ n1_ n2_
                     have p24 : 0 ≤ (x12_2 : Int) := of_decide_eq_true (by first | (with_reducible assumption) | assumption)
                     have q24 : x12_2 < (3 : Int) := of_decide_eq_true (by first | (with_reducible assumption) | assumption)
                     have hx24 := bt_at (⟨#[68, 65, 66]⟩ : ByteArray) x12_2
                     replace p24 := eq_true p24
                     replace q24 := eq_true q24
                     refine start_ (n := 6) (S := fun w' => w'.cell? ⟨gb191, 0, none⟩ = some (.int .i64 a0_0) ∧ w'.cell? ⟨gb191, 1, none⟩ = some (.int .u8 a0_1) ∧ w'.cell? ⟨gb191, 2, none⟩ = some (.int .u8 a0_2) ∧ w'.cell? ⟨gb191, 3, none⟩ = some (.int .u8 a0_3) ∧ w'.cell? ⟨gb191, 4, none⟩ = some (.int .i32 a0_4)) (ds := []) #[false, false, false, false, false, false] (by kernel_rfl) rfl rfl ⟨(blk_cell BK191.out 0).trans rfl, (blk_cell BK191.out 1).trans rfl, (blk_cell BK191.out 2).trans rfl, (blk_cell BK191.out 3).trans rfl, (blk_cell BK191.out 4).trans rfl⟩ (fun hHeld => ?_)
                     generalize wr.drew = w33 at BK191 BK197 HB hHeld ⊢
                     refine pure_ (i := 1) (N := some 58) (v := ?_) (a' := ?_) #[false, true, false, false, false, false] rfl rfl (by kernel_rfl) (fun _ _ _ h => h) (Or.inl ⟨by rfl, ?_⟩) ?_ ?_
                     rotate_left
                     · intro w'
                       go_simp
                       with_reducible rfl
                     rotate_left
                     · simp only [Act.put, List.setIfInBounds_toArray, List.set_cons_zero, List.set_cons_succ, i64_w, i32_w]
                       rfl
                     refine pure_ (i := 2) (N := some 59) (v := ?_) (a' := ?_) #[false, true, true, false, false, false] rfl rfl (by kernel_rfl) (fun _ _ _ h => h) (Or.inl ⟨by rfl, ?_⟩) ?_ ?_
                     rotate_left
                     · intro w'
                       go_simp
                       with_reducible rfl
                     rotate_left
                     · simp only [Act.put, List.setIfInBounds_toArray, List.set_cons_zero, List.set_cons_succ, i64_w, i32_w]
                       rfl
                     refine take_ (i := 0) (N := some 57) (v := ?_) (a' := ?_) #[true, true, true, false, false, false] rfl rfl (by kernel_rfl) (fun _ _ _ h => h) (Or.inl ⟨by rfl, ?_⟩) hHeld ?_ ?_
                     rotate_left
                     · rintro w' ⟨s0, s1, s2, s3, s4⟩
                       go_simp
                       with_reducible rfl
                     rotate_left
                     · simp only [Act.put, List.setIfInBounds_toArray, List.set_cons_zero, List.set_cons_succ, i64_w, i32_w]
                       rfl
                     refine take_ (i := 3) (N := some 60) (v := ?_) (a' := ?_) #[true, true, true, true, false, false] rfl rfl (by kernel_rfl) (fun _ _ _ h => h) (Or.inl ⟨by rfl, ?_⟩) hHeld ?_ ?_
                     rotate_left
                     · rintro w' ⟨s0, s1, s2, s3, s4⟩
                       go_simp
                       with_reducible rfl
                     rotate_left
                     · simp only [Act.put, List.setIfInBounds_toArray, List.set_cons_zero, List.set_cons_succ, i64_w, i32_w]
                       rfl
                     refine one_ (i := 4) (N := some 61) #[true, true, true, true, true, false] rfl rfl (by kernel_rfl) (by decide) (fun K hK => ?_)
                     refine goes_ Tryz.func79 (by kernel_rfl) rfl #[.agg #[.int .i64 a0_0, .int .u8 a0_1, .int .u8 a0_2, .int .u8 a0_3, .int .i32 a0_4], .int .u8 (bt (⟨#[68, 65, 66]⟩ : ByteArray) x12_2)] (by rfl) rfl rfl (by (try simp only [List.map_toArray, List.map_cons, List.map_nil]); first | done | rfl | (simp only [List.length_drop, List.length_take]; rfl)) ?_
                     with_reducible refine (q_register.calls a0_0 a0_1 a0_2 a0_3 a0_4 (bt (⟨#[68, 65, 66]⟩ : ByteArray) x12_2) t203 _ A25.out).mono ?_
                     rintro e w34 ⟨rfl, hb⟩
                     refine ⟨_, rfl, ?_⟩
                     have n0_ := Aside0.mk (blk_below (g := gb191) (o := .cells #[.int .i64 a0_0, .int .u8 a0_1, .int .u8 a0_2, .int .u8 a0_3, .int .i32 a0_4] 96 (0, 0)) (by (with_reducible repeat (first | refine blk_drewN ?_ _ | refine blk_drew ?_ | refine blk_alloc ?_ _)); exact BK191.out) hb)
                     have n1_ := Aside0.mk (blk_below (g := gb197) (o := .cells #[.string t192, .int .i64 t193, .int .u8 t194, .int .u8 t195] 167 (0, 0)) (by (with_reducible repeat (first | refine blk_drewN ?_ _ | refine blk_drew ?_ | refine blk_alloc ?_ _)); exact BK197.out) hb)
                     have n2_ := Aside0.mk (below_step (by repeat (first | (with_reducible first | exact HB.out | apply below_alloc | apply pw_below_drewN | apply below_drew1 | refine below_set ?_ GE191.out | refine below_set ?_ GE197.out) | exact HB.out)) hb)
                     clear BK191
                     clear BK197
                     clear HB
                     have BK191 := n0_
                     have BK197 := n1_
                     have HB := n2_
                     clear n0_ n1_ n2_
                     (try clear hb)
                     (try clear hb2)
                     (try clear hk)
                     (try clear hi)
                     refine hK.out _ _ ⟨(blk_cell BK191.out 0).trans rfl, (blk_cell BK191.out 1).trans rfl, (blk_cell BK191.out 2).trans rfl, (blk_cell BK191.out 3).trans rfl, (blk_cell BK191.out 4).trans rfl⟩ (fun hHeld => ?_)
                     clear hK K
                     refine norm_ (a' := ?_) ?_ ?_
                     rotate_left
                     · show Act.put _ (some 61) _ = _
                       simp only [Act.put, List.setIfInBounds_toArray, List.set_cons_zero, List.set_cons_succ, i64_w, i32_w]
                       rfl
                     refine pure_ (i := 5) (N := some 13) (v := ?_) (a' := ?_) #[true, true, true, true, true, true] rfl rfl (by kernel_rfl) (fun _ _ _ h => h) (Or.inl ⟨by rfl, ?_⟩) ?_ ?_
                     rotate_left
                     · intro w'
                       go_simp
                       with_reducible rfl
                     rotate_left
                     · simp only [Act.put, List.setIfInBounds_toArray, List.set_cons_zero, List.set_cons_succ, i64_w, i32_w]
                       rfl
                     refine done_ (by kernel_rfl) ?_
                     have p26 : 0 ≤ (x12_2 : Int) := of_decide_eq_true (by first | (with_reducible assumption) | assumption)
                     have q26 : x12_2 < (3 : Int) := of_decide_eq_true (by first | (with_reducible assumption) | assumption)
                     have hx26 := bt_at (⟨#[68, 65, 66]⟩ : ByteArray) x12_2
                     replace p26 := eq_true p26
                     replace q26 := eq_true q26
                     try go_wp2_with (first | ((with_reducible refine gate_callee (f := 83) rfl ?_); refine goesL_ (some 66) rfl rfl Tryz.func83 (by kernel_rfl) rfl #[.string t198, .int .u8 (bt (⟨#[68, 65, 66]⟩ : ByteArray) x12_2)] rfl (by (try simp only [List.map_toArray, List.map_cons, List.map_nil]); first | done | rfl | (simp only [List.length_drop, List.length_take]; rfl)) ?_; (with_reducible refine (q_has.calls k2 t198 (bt (⟨#[68, 65, 66]⟩ : ByteArray) x12_2) true _ A27.out).mono ?_); rintro e w' ⟨rfl, ⟨nd, rfl⟩⟩; refine ⟨_, rfl, ?_⟩))
                     go_roundg k2
                     case measure => have := HK1.out; have := HK2.out; omega
                     case rel => exact ⟨(wrap64 (x12_2 + 1)), (by first | rfl | (simp; done) | (simp [*]; done)), H', ⟨by have := HK1.out; have := HK2.out; omega⟩, ⟨by (with_reducible repeat (first | refine blk_drewN ?_ _ | refine blk_drew ?_ | refine blk_alloc ?_ _)); exact BK191.out⟩, ⟨by (with_reducible repeat (first | refine blk_drewN ?_ _ | refine blk_drew ?_ | refine blk_alloc ?_ _)); exact BK197.out⟩, ⟨by repeat (first | (with_reducible first | exact HB.out | apply below_alloc | apply pw_below_drewN | apply below_drew1 | refine below_set ?_ GE191.out | refine below_set ?_ GE197.out) | exact HB.out)⟩⟩
                   · replace c32 := Bool.eq_false_iff.mpr c32
                     subst c32
                     have H1 : (some (0, 101)) = some (r1, r2) := by rw [if_neg (show ¬ (false = true) by decide)] at H; exact H
                     clear H
                     have H := H1
                     clear H1
                     simp only [Option.some.injEq, Prod.mk.injEq] at H
                     obtain ⟨rfl, rfl⟩ := H
                     try go_wp2
                     have n0_ := Aside0.mk (blk_drew BK191.out)
                     have n1_ := Aside0.mk (blk_drew BK197.out)
                     have n2_ := Aside0.mk (below_drew1 HB.out)
                     clear BK191
                     clear BK197
                     clear HB
                     have BK191 := n0_
                     have BK197 := n1_
                     have HB := n2_
                     clear n0_ n1_ n2_
                     have p24 : 0 ≤ (x12_2 : Int) := of_decide_eq_true (by first | (with_reducible assumption) | assumption)
                     have q24 : x12_2 < (3 : Int) := of_decide_eq_true (by first | (with_reducible assumption) | assumption)
                     have hx24 := bt_at (⟨#[68, 65, 66]⟩ : ByteArray) x12_2
                     replace p24 := eq_true p24
                     replace q24 := eq_true q24
                     refine start_ (n := 6) (S := fun w' => w'.cell? ⟨gb191, 0, none⟩ = some (.int .i64 a0_0) ∧ w'.cell? ⟨gb191, 1, none⟩ = some (.int .u8 a0_1) ∧ w'.cell? ⟨gb191, 2, none⟩ = some (.int .u8 a0_2) ∧ w'.cell? ⟨gb191, 3, none⟩ = some (.int .u8 a0_3) ∧ w'.cell? ⟨gb191, 4, none⟩ = some (.int .i32 a0_4)) (ds := []) #[false, false, false, false, false, false] (by kernel_rfl) rfl rfl ⟨(blk_cell BK191.out 0).trans rfl, (blk_cell BK191.out 1).trans rfl, (blk_cell BK191.out 2).trans rfl, (blk_cell BK191.out 3).trans rfl, (blk_cell BK191.out 4).trans rfl⟩ (fun hHeld => ?_)
                     generalize wr.drew = w35 at BK191 BK197 HB hHeld ⊢
                     refine pure_ (i := 1) (N := some 58) (v := ?_) (a' := ?_) #[false, true, false, false, false, false] rfl rfl (by kernel_rfl) (fun _ _ _ h => h) (Or.inl ⟨by rfl, ?_⟩) ?_ ?_
                     rotate_left
                     · intro w'
                       go_simp
                       with_reducible rfl
                     rotate_left
                     · simp only [Act.put, List.setIfInBounds_toArray, List.set_cons_zero, List.set_cons_succ, i64_w, i32_w]
                       rfl
                     refine pure_ (i := 2) (N := some 59) (v := ?_) (a' := ?_) #[false, true, true, false, false, false] rfl rfl (by kernel_rfl) (fun _ _ _ h => h) (Or.inl ⟨by rfl, ?_⟩) ?_ ?_
                     rotate_left
                     · intro w'
                       go_simp
                       with_reducible rfl
                     rotate_left
                     · simp only [Act.put, List.setIfInBounds_toArray, List.set_cons_zero, List.set_cons_succ, i64_w, i32_w]
                       rfl
                     refine take_ (i := 0) (N := some 57) (v := ?_) (a' := ?_) #[true, true, true, false, false, false] rfl rfl (by kernel_rfl) (fun _ _ _ h => h) (Or.inl ⟨by rfl, ?_⟩) hHeld ?_ ?_
                     rotate_left
                     · rintro w' ⟨s0, s1, s2, s3, s4⟩
                       go_simp
                       with_reducible rfl
                     rotate_left
                     · simp only [Act.put, List.setIfInBounds_toArray, List.set_cons_zero, List.set_cons_succ, i64_w, i32_w]
                       rfl
                     refine take_ (i := 3) (N := some 60) (v := ?_) (a' := ?_) #[true, true, true, true, false, false] rfl rfl (by kernel_rfl) (fun _ _ _ h => h) (Or.inl ⟨by rfl, ?_⟩) hHeld ?_ ?_
                     rotate_left
                     · rintro w' ⟨s0, s1, s2, s3, s4⟩
                       go_simp
                       with_reducible rfl
                     rotate_left
                     · simp only [Act.put, List.setIfInBounds_toArray, List.set_cons_zero, List.set_cons_succ, i64_w, i32_w]
                       rfl
                     refine one_ (i := 4) (N := some 61) #[true, true, true, true, true, false] rfl rfl (by kernel_rfl) (by decide) (fun K hK => ?_)
                     refine goes_ Tryz.func79 (by kernel_rfl) rfl #[.agg #[.int .i64 a0_0, .int .u8 a0_1, .int .u8 a0_2, .int .u8 a0_3, .int .i32 a0_4], .int .u8 (bt (⟨#[68, 65, 66]⟩ : ByteArray) x12_2)] (by rfl) rfl rfl (by (try simp only [List.map_toArray, List.map_cons, List.map_nil]); first | done | rfl | (simp only [List.length_drop, List.length_take]; rfl)) ?_
                     with_reducible refine (q_register.calls a0_0 a0_1 a0_2 a0_3 a0_4 (bt (⟨#[68, 65, 66]⟩ : ByteArray) x12_2) t203 _ A25.out).mono ?_
                     rintro e w36 ⟨rfl, hb⟩
                     refine ⟨_, rfl, ?_⟩
                     have n0_ := Aside0.mk (blk_below (g := gb191) (o := .cells #[.int .i64 a0_0, .int .u8 a0_1, .int .u8 a0_2, .int .u8 a0_3, .int .i32 a0_4] 96 (0, 0)) (by (with_reducible repeat (first | refine blk_drewN ?_ _ | refine blk_drew ?_ | refine blk_alloc ?_ _)); exact BK191.out) hb)
                     have n1_ := Aside0.mk (blk_below (g := gb197) (o := .cells #[.string t192, .int .i64 t193, .int .u8 t194, .int .u8 t195] 167 (0, 0)) (by (with_reducible repeat (first | refine blk_drewN ?_ _ | refine blk_drew ?_ | refine blk_alloc ?_ _)); exact BK197.out) hb)
                     have n2_ := Aside0.mk (below_step (by repeat (first | (with_reducible first | exact HB.out | apply below_alloc | apply pw_below_drewN | apply below_drew1 | refine below_set ?_ GE191.out | refine below_set ?_ GE197.out) | exact HB.out)) hb)
                     clear BK191
                     clear BK197
                     clear HB
                     have BK191 := n0_
                     have BK197 := n1_
                     have HB := n2_
                     clear n0_ n1_ n2_
                     (try clear hb)
                     (try clear hb2)
                     (try clear hk)
                     (try clear hi)
                     refine hK.out _ _ ⟨(blk_cell BK191.out 0).trans rfl, (blk_cell BK191.out 1).trans rfl, (blk_cell BK191.out 2).trans rfl, (blk_cell BK191.out 3).trans rfl, (blk_cell BK191.out 4).trans rfl⟩ (fun hHeld => ?_)
                     clear hK K
                     refine norm_ (a' := ?_) ?_ ?_
                     rotate_left
                     · show Act.put _ (some 61) _ = _
                       simp only [Act.put, List.setIfInBounds_toArray, List.set_cons_zero, List.set_cons_succ, i64_w, i32_w]
                       rfl
                     refine pure_ (i := 5) (N := some 13) (v := ?_) (a' := ?_) #[true, true, true, true, true, true] rfl rfl (by kernel_rfl) (fun _ _ _ h => h) (Or.inl ⟨by rfl, ?_⟩) ?_ ?_
                     rotate_left
                     · intro w'
                       go_simp
                       with_reducible rfl
                     rotate_left
                     · simp only [Act.put, List.setIfInBounds_toArray, List.set_cons_zero, List.set_cons_succ, i64_w, i32_w]
                       rfl
                     refine done_ (by kernel_rfl) ?_
                     have p26 : 0 ≤ (x12_2 : Int) := of_decide_eq_true (by first | (with_reducible assumption) | assumption)
                     have q26 : x12_2 < (3 : Int) := of_decide_eq_true (by first | (with_reducible assumption) | assumption)
                     have hx26 := bt_at (⟨#[68, 65, 66]⟩ : ByteArray) x12_2
                     replace p26 := eq_true p26
                     replace q26 := eq_true q26
                     try go_wp2_with (first | ((with_reducible refine gate_callee (f := 83) rfl ?_); refine goesL_ (some 66) rfl rfl Tryz.func83 (by kernel_rfl) rfl #[.string t198, .int .u8 (bt (⟨#[68, 65, 66]⟩ : ByteArray) x12_2)] rfl (by (try simp only [List.map_toArray, List.map_cons, List.map_nil]); first | done | rfl | (simp only [List.length_drop, List.length_take]; rfl)) ?_; (with_reducible refine (q_has.calls k2 t198 (bt (⟨#[68, 65, 66]⟩ : ByteArray) x12_2) false _ A27.out).mono ?_); rintro e w' ⟨rfl, ⟨nd, rfl⟩⟩; refine ⟨_, rfl, ?_⟩))
                     go_ret2
                     exact ⟨by first | rfl | (simp [errW_none, errW_some] <;> rfl) | (simp [*, errW_none, errW_some] <;> rfl), by repeat (first | (with_reducible first | exact HB.out | apply below_alloc | apply pw_below_drewN | apply below_drew1 | refine below_set ?_ GE191.out | refine below_set ?_ GE197.out) | exact HB.out)⟩
                 · rw [if_neg c31] at H
                   have c31b0 : decide (0 < t203) = false := decide_eq_false c31
                   clear c31
                   have H' := Aside0.mk H
                   clear H
                   try go_wp2
                   have n0_ := Aside0.mk (blk_drew BK191.out)
                   have n1_ := Aside0.mk (blk_drew BK197.out)
                   have n2_ := Aside0.mk (below_drew1 HB.out)
                   clear BK191
                   clear BK197
                   clear HB
                   have BK191 := n0_
                   have BK197 := n1_
                   have HB := n2_
                   clear n0_ n1_ n2_
                   have p24 : 0 ≤ (x12_2 : Int) := of_decide_eq_true (by first | (with_reducible assumption) | assumption)
                   have q24 : x12_2 < (3 : Int) := of_decide_eq_true (by first | (with_reducible assumption) | assumption)
                   have hx24 := bt_at (⟨#[68, 65, 66]⟩ : ByteArray) x12_2
                   replace p24 := eq_true p24
                   replace q24 := eq_true q24
                   refine start_ (n := 6) (S := fun w' => w'.cell? ⟨gb191, 0, none⟩ = some (.int .i64 a0_0) ∧ w'.cell? ⟨gb191, 1, none⟩ = some (.int .u8 a0_1) ∧ w'.cell? ⟨gb191, 2, none⟩ = some (.int .u8 a0_2) ∧ w'.cell? ⟨gb191, 3, none⟩ = some (.int .u8 a0_3) ∧ w'.cell? ⟨gb191, 4, none⟩ = some (.int .i32 a0_4)) (ds := []) #[false, false, false, false, false, false] (by kernel_rfl) rfl rfl ⟨(blk_cell BK191.out 0).trans rfl, (blk_cell BK191.out 1).trans rfl, (blk_cell BK191.out 2).trans rfl, (blk_cell BK191.out 3).trans rfl, (blk_cell BK191.out 4).trans rfl⟩ (fun hHeld => ?_)
                   generalize wr.drew = w37 at BK191 BK197 HB hHeld ⊢
                   refine pure_ (i := 1) (N := some 58) (v := ?_) (a' := ?_) #[false, true, false, false, false, false] rfl rfl (by kernel_rfl) (fun _ _ _ h => h) (Or.inl ⟨by rfl, ?_⟩) ?_ ?_
                   rotate_left
                   · intro w'
                     go_simp
                     with_reducible rfl
                   rotate_left
                   · simp only [Act.put, List.setIfInBounds_toArray, List.set_cons_zero, List.set_cons_succ, i64_w, i32_w]
                     rfl
                   refine pure_ (i := 2) (N := some 59) (v := ?_) (a' := ?_) #[false, true, true, false, false, false] rfl rfl (by kernel_rfl) (fun _ _ _ h => h) (Or.inl ⟨by rfl, ?_⟩) ?_ ?_
                   rotate_left
                   · intro w'
                     go_simp
                     with_reducible rfl
                   rotate_left
                   · simp only [Act.put, List.setIfInBounds_toArray, List.set_cons_zero, List.set_cons_succ, i64_w, i32_w]
                     rfl
                   refine take_ (i := 0) (N := some 57) (v := ?_) (a' := ?_) #[true, true, true, false, false, false] rfl rfl (by kernel_rfl) (fun _ _ _ h => h) (Or.inl ⟨by rfl, ?_⟩) hHeld ?_ ?_
                   rotate_left
                   · rintro w' ⟨s0, s1, s2, s3, s4⟩
                     go_simp
                     with_reducible rfl
                   rotate_left
                   · simp only [Act.put, List.setIfInBounds_toArray, List.set_cons_zero, List.set_cons_succ, i64_w, i32_w]
                     rfl
                   refine take_ (i := 3) (N := some 60) (v := ?_) (a' := ?_) #[true, true, true, true, false, false] rfl rfl (by kernel_rfl) (fun _ _ _ h => h) (Or.inl ⟨by rfl, ?_⟩) hHeld ?_ ?_
                   rotate_left
                   · rintro w' ⟨s0, s1, s2, s3, s4⟩
                     go_simp
                     with_reducible rfl
                   rotate_left
                   · simp only [Act.put, List.setIfInBounds_toArray, List.set_cons_zero, List.set_cons_succ, i64_w, i32_w]
                     rfl
                   refine one_ (i := 4) (N := some 61) #[true, true, true, true, true, false] rfl rfl (by kernel_rfl) (by decide) (fun K hK => ?_)
                   refine goes_ Tryz.func79 (by kernel_rfl) rfl #[.agg #[.int .i64 a0_0, .int .u8 a0_1, .int .u8 a0_2, .int .u8 a0_3, .int .i32 a0_4], .int .u8 (bt (⟨#[68, 65, 66]⟩ : ByteArray) x12_2)] (by rfl) rfl rfl (by (try simp only [List.map_toArray, List.map_cons, List.map_nil]); first | done | rfl | (simp only [List.length_drop, List.length_take]; rfl)) ?_
                   with_reducible refine (q_register.calls a0_0 a0_1 a0_2 a0_3 a0_4 (bt (⟨#[68, 65, 66]⟩ : ByteArray) x12_2) t203 _ A25.out).mono ?_
                   rintro e w38 ⟨rfl, hb⟩
                   refine ⟨_, rfl, ?_⟩
                   have n0_ := Aside0.mk (blk_below (g := gb191) (o := .cells #[.int .i64 a0_0, .int .u8 a0_1, .int .u8 a0_2, .int .u8 a0_3, .int .i32 a0_4] 96 (0, 0)) (by (with_reducible repeat (first | refine blk_drewN ?_ _ | refine blk_drew ?_ | refine blk_alloc ?_ _)); exact BK191.out) hb)
                   have n1_ := Aside0.mk (blk_below (g := gb197) (o := .cells #[.string t192, .int .i64 t193, .int .u8 t194, .int .u8 t195] 167 (0, 0)) (by (with_reducible repeat (first | refine blk_drewN ?_ _ | refine blk_drew ?_ | refine blk_alloc ?_ _)); exact BK197.out) hb)
                   have n2_ := Aside0.mk (below_step (by repeat (first | (with_reducible first | exact HB.out | apply below_alloc | apply pw_below_drewN | apply below_drew1 | refine below_set ?_ GE191.out | refine below_set ?_ GE197.out) | exact HB.out)) hb)
                   clear BK191
                   clear BK197
                   clear HB
                   have BK191 := n0_
                   have BK197 := n1_
                   have HB := n2_
                   clear n0_ n1_ n2_
                   (try clear hb)
                   (try clear hb2)
                   (try clear hk)
                   (try clear hi)
                   refine hK.out _ _ ⟨(blk_cell BK191.out 0).trans rfl, (blk_cell BK191.out 1).trans rfl, (blk_cell BK191.out 2).trans rfl, (blk_cell BK191.out 3).trans rfl, (blk_cell BK191.out 4).trans rfl⟩ (fun hHeld => ?_)
                   clear hK K
                   refine norm_ (a' := ?_) ?_ ?_
                   rotate_left
                   · show Act.put _ (some 61) _ = _
                     simp only [Act.put, List.setIfInBounds_toArray, List.set_cons_zero, List.set_cons_succ, i64_w, i32_w]
                     rfl
                   refine pure_ (i := 5) (N := some 13) (v := ?_) (a' := ?_) #[true, true, true, true, true, true] rfl rfl (by kernel_rfl) (fun _ _ _ h => h) (Or.inl ⟨by rfl, ?_⟩) ?_ ?_
                   rotate_left
                   · intro w'
                     go_simp
                     with_reducible rfl
                   rotate_left
                   · simp only [Act.put, List.setIfInBounds_toArray, List.set_cons_zero, List.set_cons_succ, i64_w, i32_w]
                     rfl
                   refine done_ (by kernel_rfl) ?_
                   have p26 : 0 ≤ (x12_2 : Int) := of_decide_eq_true (by first | (with_reducible assumption) | assumption)
                   have q26 : x12_2 < (3 : Int) := of_decide_eq_true (by first | (with_reducible assumption) | assumption)
                   have hx26 := bt_at (⟨#[68, 65, 66]⟩ : ByteArray) x12_2
                   replace p26 := eq_true p26
                   replace q26 := eq_true q26
                   try go_wp2_with (first | ((with_reducible refine gate_callee (f := 83) rfl ?_); refine goesL_ (some 66) rfl rfl Tryz.func83 (by kernel_rfl) rfl #[.string t198, .int .u8 (bt (⟨#[68, 65, 66]⟩ : ByteArray) x12_2)] rfl (by (try simp only [List.map_toArray, List.map_cons, List.map_nil]); first | done | rfl | (simp only [List.length_drop, List.length_take]; rfl)) ?_; (with_reducible refine (q_has.calls k2 t198 (bt (⟨#[68, 65, 66]⟩ : ByteArray) x12_2) t204 _ A27.out).mono ?_); rintro e w' ⟨rfl, ⟨nd, rfl⟩⟩; refine ⟨_, rfl, ?_⟩))
                   go_roundg k2
                   case measure => have := HK1.out; have := HK2.out; omega
                   case rel => exact ⟨(wrap64 (x12_2 + 1)), (by first | rfl | (simp; done) | (simp [*]; done)), H', ⟨by have := HK1.out; have := HK2.out; omega⟩, ⟨by (with_reducible repeat (first | refine blk_drewN ?_ _ | refine blk_drew ?_ | refine blk_alloc ?_ _)); exact BK191.out⟩, ⟨by (with_reducible repeat (first | refine blk_drewN ?_ _ | refine blk_drew ?_ | refine blk_alloc ?_ _)); exact BK197.out⟩, ⟨by repeat (first | (with_reducible first | exact HB.out | apply below_alloc | apply pw_below_drewN | apply below_drew1 | refine below_set ?_ GE191.out | refine below_set ?_ GE197.out) | exact HB.out)⟩⟩
             · rw [if_neg c23] at H
               exact absurd H (by simp)
           · rw [if_neg c22] at H
             exact absurd H (by simp)
         · rw [if_neg c21] at H
           have c21b0 : decide (x12_2 < 3) = false := decide_eq_false c21
           clear c21
           replace H := Option.bind_eq_some_iff.mp H
           obtain ⟨t205, A390, H⟩ := H
           replace H : (if t205 = true then (if (wrap64 (a0_4)) < 0 then ((q_power.f k2 t199).bind fun t206 => (some ((wrap64 (x8_1 + (wrap64 ((wrap64 (a0_4)) + t206)))) % 4294967296, 0))) else (some ((wrap64 (x8_1 + (wrap64 (a0_4)))) % 4294967296, 0))) else (some (0, 102))) = some (r1, r2) := H
           have A39 := Aside0.mk A390
           clear A390
           by_cases c40 : t205 = true
           · subst c40
             have H1 : (if (wrap64 (a0_4)) < 0 then ((q_power.f k2 t199).bind fun t206 => (some ((wrap64 (x8_1 + (wrap64 ((wrap64 (a0_4)) + t206)))) % 4294967296, 0))) else (some ((wrap64 (x8_1 + (wrap64 (a0_4)))) % 4294967296, 0))) = some (r1, r2) := by rw [if_pos rfl] at H; exact H
             clear H
             have H := H1
             clear H1
             by_cases c41 : (wrap64 (a0_4)) < 0
             · rw [if_pos c41] at H
               have c41b0 : decide ((wrap64 (a0_4)) < 0) = true := decide_eq_true c41
               clear c41
               replace H := Option.bind_eq_some_iff.mp H
               obtain ⟨t206, A420, H⟩ := H
               replace H : (some ((wrap64 (x8_1 + (wrap64 ((wrap64 (a0_4)) + t206)))) % 4294967296, 0)) = some (r1, r2) := H
               have A42 := Aside0.mk A420
               clear A420
               simp only [Option.some.injEq, Prod.mk.injEq] at H
               obtain ⟨rfl, rfl⟩ := H
               have hnb43 := NB191_197.out
               have hnc43 := NB197_191.out
               have hcz44_0 : wr.cell? ⟨gb191, 0, none⟩ = some (.int .i64 a0_0) := (blk_cell BK191.out 0).trans rfl
               have hcz44_1 : wr.cell? ⟨gb191, 1, none⟩ = some (.int .u8 a0_1) := (blk_cell BK191.out 1).trans rfl
               have hcz44_2 : wr.cell? ⟨gb191, 2, none⟩ = some (.int .u8 a0_2) := (blk_cell BK191.out 2).trans rfl
               have hcz44_3 : wr.cell? ⟨gb191, 3, none⟩ = some (.int .u8 a0_3) := (blk_cell BK191.out 3).trans rfl
               have hcz44_4 : wr.cell? ⟨gb191, 4, none⟩ = some (.int .i32 a0_4) := (blk_cell BK191.out 4).trans rfl
               have hfz44_0 := blk_frozen BK191.out 0
               have hfz44_1 := blk_frozen BK191.out 1
               have hfz44_2 := blk_frozen BK191.out 2
               have hfz44_3 := blk_frozen BK191.out 3
               have hfz44_4 := blk_frozen BK191.out 4
               have hcz45_0 : wr.cell? ⟨gb197, 0, none⟩ = some (.string t192) := (blk_cell BK197.out 0).trans rfl
               have hcz45_1 : wr.cell? ⟨gb197, 1, none⟩ = some (.int .i64 t193) := (blk_cell BK197.out 1).trans rfl
               have hcz45_2 : wr.cell? ⟨gb197, 2, none⟩ = some (.int .u8 t194) := (blk_cell BK197.out 2).trans rfl
               have hcz45_3 : wr.cell? ⟨gb197, 3, none⟩ = some (.int .u8 t195) := (blk_cell BK197.out 3).trans rfl
               have hfz45_0 := blk_frozen BK197.out 0
               have hfz45_1 := blk_frozen BK197.out 1
               have hfz45_2 := blk_frozen BK197.out 2
               have hfz45_3 := blk_frozen BK197.out 3
               go_wp2_with (first | ((with_reducible refine gate_callee (f := 77) rfl ?_); refine goesL_ (some 84) rfl rfl Tryz.func77 (by kernel_rfl) rfl #[.int .u8 t194, .int .i64 t199, .int .i64 (wrap64 (a0_4))] rfl (by (try simp only [List.map_toArray, List.map_cons, List.map_nil]); first | done | rfl | (simp only [List.length_drop, List.length_take]; rfl)) ?_; (with_reducible refine (q_takes.calls k2 t194 t199 (wrap64 (a0_4)) true _ A39.out).mono ?_); rintro e w' ⟨rfl, ⟨nd, rfl⟩⟩; refine ⟨_, rfl, ?_⟩) | ((with_reducible refine gate_callee (f := 74) rfl ?_); refine goesL_ (some 91) rfl rfl Tryz.func74 (by kernel_rfl) rfl #[.int .i64 t199] rfl (by (try simp only [List.map_toArray, List.map_cons, List.map_nil]); first | done | rfl | (simp only [List.length_drop, List.length_take]; rfl)) ?_; (with_reducible refine (q_power.calls k2 t199 t206 _ A42.out).mono ?_); rintro e w' ⟨rfl, ⟨nd, rfl⟩⟩; refine ⟨_, rfl, ?_⟩))
               go_ret2
               exact ⟨by first | rfl | (simp [errW_none, errW_some] <;> rfl) | (simp [*, errW_none, errW_some] <;> rfl), by repeat (first | (with_reducible first | exact HB.out | apply below_alloc | apply pw_below_drewN | apply below_drew1 | refine below_set ?_ GE191.out | refine below_set ?_ GE197.out) | exact HB.out)⟩
             · rw [if_neg c41] at H
               have c41b0 : decide ((wrap64 (a0_4)) < 0) = false := decide_eq_false c41
               clear c41
               simp only [Option.some.injEq, Prod.mk.injEq] at H
               obtain ⟨rfl, rfl⟩ := H
               have hnb46 := NB191_197.out
               have hnc46 := NB197_191.out
               have hcz47_0 : wr.cell? ⟨gb191, 0, none⟩ = some (.int .i64 a0_0) := (blk_cell BK191.out 0).trans rfl
               have hcz47_1 : wr.cell? ⟨gb191, 1, none⟩ = some (.int .u8 a0_1) := (blk_cell BK191.out 1).trans rfl
               have hcz47_2 : wr.cell? ⟨gb191, 2, none⟩ = some (.int .u8 a0_2) := (blk_cell BK191.out 2).trans rfl
               have hcz47_3 : wr.cell? ⟨gb191, 3, none⟩ = some (.int .u8 a0_3) := (blk_cell BK191.out 3).trans rfl
               have hcz47_4 : wr.cell? ⟨gb191, 4, none⟩ = some (.int .i32 a0_4) := (blk_cell BK191.out 4).trans rfl
               have hfz47_0 := blk_frozen BK191.out 0
               have hfz47_1 := blk_frozen BK191.out 1
               have hfz47_2 := blk_frozen BK191.out 2
               have hfz47_3 := blk_frozen BK191.out 3
               have hfz47_4 := blk_frozen BK191.out 4
               have hcz48_0 : wr.cell? ⟨gb197, 0, none⟩ = some (.string t192) := (blk_cell BK197.out 0).trans rfl
               have hcz48_1 : wr.cell? ⟨gb197, 1, none⟩ = some (.int .i64 t193) := (blk_cell BK197.out 1).trans rfl
               have hcz48_2 : wr.cell? ⟨gb197, 2, none⟩ = some (.int .u8 t194) := (blk_cell BK197.out 2).trans rfl
               have hcz48_3 : wr.cell? ⟨gb197, 3, none⟩ = some (.int .u8 t195) := (blk_cell BK197.out 3).trans rfl
               have hfz48_0 := blk_frozen BK197.out 0
               have hfz48_1 := blk_frozen BK197.out 1
               have hfz48_2 := blk_frozen BK197.out 2
               have hfz48_3 := blk_frozen BK197.out 3
               go_wp2_with (first | ((with_reducible refine gate_callee (f := 77) rfl ?_); refine goesL_ (some 84) rfl rfl Tryz.func77 (by kernel_rfl) rfl #[.int .u8 t194, .int .i64 t199, .int .i64 (wrap64 (a0_4))] rfl (by (try simp only [List.map_toArray, List.map_cons, List.map_nil]); first | done | rfl | (simp only [List.length_drop, List.length_take]; rfl)) ?_; (with_reducible refine (q_takes.calls k2 t194 t199 (wrap64 (a0_4)) true _ A39.out).mono ?_); rintro e w' ⟨rfl, ⟨nd, rfl⟩⟩; refine ⟨_, rfl, ?_⟩))
               go_ret2
               exact ⟨by first | rfl | (simp [errW_none, errW_some] <;> rfl) | (simp [*, errW_none, errW_some] <;> rfl), by repeat (first | (with_reducible first | exact HB.out | apply below_alloc | apply pw_below_drewN | apply below_drew1 | refine below_set ?_ GE191.out | refine below_set ?_ GE197.out) | exact HB.out)⟩
           · replace c40 := Bool.eq_false_iff.mpr c40
             subst c40
             have H1 : (some (0, 102)) = some (r1, r2) := by rw [if_neg (show ¬ (false = true) by decide)] at H; exact H
             clear H
             have H := H1
             clear H1
             simp only [Option.some.injEq, Prod.mk.injEq] at H
             obtain ⟨rfl, rfl⟩ := H
             have hnb49 := NB191_197.out
             have hnc49 := NB197_191.out
             have hcz50_0 : wr.cell? ⟨gb191, 0, none⟩ = some (.int .i64 a0_0) := (blk_cell BK191.out 0).trans rfl
             have hcz50_1 : wr.cell? ⟨gb191, 1, none⟩ = some (.int .u8 a0_1) := (blk_cell BK191.out 1).trans rfl
             have hcz50_2 : wr.cell? ⟨gb191, 2, none⟩ = some (.int .u8 a0_2) := (blk_cell BK191.out 2).trans rfl
             have hcz50_3 : wr.cell? ⟨gb191, 3, none⟩ = some (.int .u8 a0_3) := (blk_cell BK191.out 3).trans rfl
             have hcz50_4 : wr.cell? ⟨gb191, 4, none⟩ = some (.int .i32 a0_4) := (blk_cell BK191.out 4).trans rfl
             have hfz50_0 := blk_frozen BK191.out 0
             have hfz50_1 := blk_frozen BK191.out 1
             have hfz50_2 := blk_frozen BK191.out 2
             have hfz50_3 := blk_frozen BK191.out 3
             have hfz50_4 := blk_frozen BK191.out 4
             have hcz51_0 : wr.cell? ⟨gb197, 0, none⟩ = some (.string t192) := (blk_cell BK197.out 0).trans rfl
             have hcz51_1 : wr.cell? ⟨gb197, 1, none⟩ = some (.int .i64 t193) := (blk_cell BK197.out 1).trans rfl
             have hcz51_2 : wr.cell? ⟨gb197, 2, none⟩ = some (.int .u8 t194) := (blk_cell BK197.out 2).trans rfl
             have hcz51_3 : wr.cell? ⟨gb197, 3, none⟩ = some (.int .u8 t195) := (blk_cell BK197.out 3).trans rfl
             have hfz51_0 := blk_frozen BK197.out 0
             have hfz51_1 := blk_frozen BK197.out 1
             have hfz51_2 := blk_frozen BK197.out 2
             have hfz51_3 := blk_frozen BK197.out 3
             go_wp2_with (first | ((with_reducible refine gate_callee (f := 77) rfl ?_); refine goesL_ (some 84) rfl rfl Tryz.func77 (by kernel_rfl) rfl #[.int .u8 t194, .int .i64 t199, .int .i64 (wrap64 (a0_4))] rfl (by (try simp only [List.map_toArray, List.map_cons, List.map_nil]); first | done | rfl | (simp only [List.length_drop, List.length_take]; rfl)) ?_; (with_reducible refine (q_takes.calls k2 t194 t199 (wrap64 (a0_4)) false _ A39.out).mono ?_); rintro e w' ⟨rfl, ⟨nd, rfl⟩⟩; refine ⟨_, rfl, ?_⟩))
             go_ret2
             exact ⟨by first | rfl | (simp [errW_none, errW_some] <;> rfl) | (simp [*, errW_none, errW_some] <;> rfl), by repeat (first | (with_reducible first | exact HB.out | apply below_alloc | apply pw_below_drewN | apply below_drew1 | refine below_set ?_ GE191.out | refine below_set ?_ GE197.out) | exact HB.out)⟩
 · replace c3 := Bool.eq_false_iff.mpr c3
   subst c3
   have H1 : (some (0, 100)) = some (r1, r2) := by rw [if_neg (show ¬ (false = true) by decide)] at H; exact H
   clear H
   have H := H1
   clear H1
   simp only [Option.some.injEq, Prod.mk.injEq] at H
   obtain ⟨rfl, rfl⟩ := H
   go_enter Tryz.func46, Tryz.ntmps46
   go_wp2_with (first | ((with_reducible refine gate_dst (N := 1) rfl ?_); refine box_event ?hg (N := 1) ?hd (cs := #[.int .i64 a0_0, .int .u8 a0_1, .int .u8 a0_2, .int .u8 a0_3, .int .i32 a0_4]) (t := 96) ?hr ?_; (case hd => rfl); (case hg => rfl); (case hr => first | (go_simp; done) | (go_simp; rfl)); intro gb191 hg w52 hbox hb; have n0_ := Aside0.mk (below_step (by repeat (first | (with_reducible first | exact HB.out | apply below_alloc | apply pw_below_drewN | apply below_drew1) | exact HB.out)) hb); have n1_ := Aside0.mk (hbox); have n2_ := Aside0.mk ((by rw [hg]; exact (below_size (by repeat (first | (with_reducible first | exact HB.out | apply below_alloc | apply pw_below_drewN | apply below_drew1) | exact HB.out))) : w.heap.size ≤ gb191)); have n3_ := Aside0.mk ((by rw [hg]; exact (below_size (by repeat (first | (with_reducible first | exact HB.out | apply below_alloc | apply pw_below_drewN | apply below_drew1) | exact HB.out))) : w.heap.size ≤ gb191)); clear HB; have HB := n0_; have BK191 := n1_; have GW191 := n2_; have GE191 := n3_; clear n0_ n1_ n2_ n3_; clear hb hbox hg; have hcz53_0 : w52.cell? ⟨gb191, 0, none⟩ = some (.int .i64 a0_0) := (blk_cell BK191.out 0).trans rfl; have hcz53_1 : w52.cell? ⟨gb191, 1, none⟩ = some (.int .u8 a0_1) := (blk_cell BK191.out 1).trans rfl; have hcz53_2 : w52.cell? ⟨gb191, 2, none⟩ = some (.int .u8 a0_2) := (blk_cell BK191.out 2).trans rfl; have hcz53_3 : w52.cell? ⟨gb191, 3, none⟩ = some (.int .u8 a0_3) := (blk_cell BK191.out 3).trans rfl; have hcz53_4 : w52.cell? ⟨gb191, 4, none⟩ = some (.int .i32 a0_4) := (blk_cell BK191.out 4).trans rfl; have hfz53_0 := blk_frozen BK191.out 0; have hfz53_1 := blk_frozen BK191.out 1; have hfz53_2 := blk_frozen BK191.out 2; have hfz53_3 := blk_frozen BK191.out 3; have hfz53_4 := blk_frozen BK191.out 4) | ((with_reducible refine gate_callee (f := 75) rfl ?_); refine goesL_ (some 20) rfl rfl Tryz.func75 (by kernel_rfl) rfl #[.int .i64 a0_0] rfl (by (try simp only [List.map_toArray, List.map_cons, List.map_nil]); first | done | rfl | (simp only [List.length_drop, List.length_take]; rfl)) ?_; (with_reducible refine (q_Of.calls k a0_0 t192 t193 t194 t195 false _ A2.out).mono ?_); rintro e w54 ⟨rfl, hb⟩; refine ⟨_, rfl, ?_⟩; have n0_ := Aside0.mk (blk_below (g := gb191) (o := .cells #[.int .i64 a0_0, .int .u8 a0_1, .int .u8 a0_2, .int .u8 a0_3, .int .i32 a0_4] 96 (0, 0)) (by (with_reducible repeat (first | refine blk_drewN ?_ _ | refine blk_drew ?_ | refine blk_alloc ?_ _)); exact BK191.out) hb); have n1_ := Aside0.mk (below_step (by repeat (first | (with_reducible first | exact HB.out | apply below_alloc | apply pw_below_drewN | apply below_drew1 | refine below_set ?_ GE191.out) | exact HB.out)) hb); clear BK191; clear HB; have BK191 := n0_; have HB := n1_; clear n0_ n1_; (try clear hb); (try clear hb2); (try clear hk); (try clear hi)) | ((with_reducible refine gate_dst (N := 4) rfl ?_); refine box_event ?hg (N := 4) ?hd (cs := #[.string (⟨#[]⟩ : ByteArray), .int .i64 0, .int .u8 0, .int .u8 0]) (t := 167) ?hr ?_; (case hd => rfl); (case hg => rfl); (case hr => first | (go_simp; done) | (go_simp; rfl)); intro gb197 hg w55 hbox hb; have n0_ := Aside0.mk (blk_below (g := gb191) (o := .cells #[.int .i64 a0_0, .int .u8 a0_1, .int .u8 a0_2, .int .u8 a0_3, .int .i32 a0_4] 96 (0, 0)) (by (with_reducible repeat (first | refine blk_drewN ?_ _ | refine blk_drew ?_ | refine blk_alloc ?_ _)); exact BK191.out) hb); have n1_ := Aside0.mk (below_step (by repeat (first | (with_reducible first | exact HB.out | apply below_alloc | apply pw_below_drewN | apply below_drew1 | refine below_set ?_ GE191.out) | exact HB.out)) hb); have n2_ := Aside0.mk (hbox); have n3_ := Aside0.mk ((by rw [hg]; exact (below_size (by repeat (first | (with_reducible first | exact HB.out | apply below_alloc | apply pw_below_drewN | apply below_drew1 | refine below_set ?_ GE191.out) | exact HB.out))) : w.heap.size ≤ gb197)); have n4_ := Aside0.mk ((by rw [hg]; exact (below_size (by repeat (first | (with_reducible first | exact HB.out | apply below_alloc | apply pw_below_drewN | apply below_drew1 | refine below_set ?_ GE191.out) | exact HB.out))) : w.heap.size ≤ gb197)); have n5_ := Aside0.mk ((by rw [hg]; exact Nat.ne_of_lt (blk_lt (g := gb191) (o := .cells #[.int .i64 a0_0, .int .u8 a0_1, .int .u8 a0_2, .int .u8 a0_3, .int .i32 a0_4] 96 (0, 0)) (by (with_reducible repeat (first | refine blk_drewN ?_ _ | refine blk_drew ?_ | refine blk_alloc ?_ _)); exact BK191.out)) : gb191 ≠ gb197)); have n6_ := Aside0.mk ((by rw [hg]; exact Nat.ne_of_gt (blk_lt (g := gb191) (o := .cells #[.int .i64 a0_0, .int .u8 a0_1, .int .u8 a0_2, .int .u8 a0_3, .int .i32 a0_4] 96 (0, 0)) (by (with_reducible repeat (first | refine blk_drewN ?_ _ | refine blk_drew ?_ | refine blk_alloc ?_ _)); exact BK191.out)) : gb197 ≠ gb191)); clear BK191; clear HB; have BK191 := n0_; have HB := n1_; have BK197 := n2_; have GW197 := n3_; have GE197 := n4_; have NB191_197 := n5_; have NB197_191 := n6_; clear n0_ n1_ n2_ n3_ n4_ n5_ n6_; clear hb hbox hg; have hnb56 := NB197_191.out; have hnc56 := NB191_197.out; have hcz57_0 : w55.cell? ⟨gb197, 0, none⟩ = some (.string (⟨#[]⟩ : ByteArray)) := (blk_cell BK197.out 0).trans rfl; have hcz57_1 : w55.cell? ⟨gb197, 1, none⟩ = some (.int .i64 0) := (blk_cell BK197.out 1).trans rfl; have hcz57_2 : w55.cell? ⟨gb197, 2, none⟩ = some (.int .u8 0) := (blk_cell BK197.out 2).trans rfl; have hcz57_3 : w55.cell? ⟨gb197, 3, none⟩ = some (.int .u8 0) := (blk_cell BK197.out 3).trans rfl; have hfz57_0 := blk_frozen BK197.out 0; have hfz57_1 := blk_frozen BK197.out 1; have hfz57_2 := blk_frozen BK197.out 2; have hfz57_3 := blk_frozen BK197.out 3))
   go_ret2
   exact ⟨by first | rfl | (simp [errW_none, errW_some] <;> rfl) | (simp [*, errW_none, errW_some] <;> rfl), by repeat (first | (with_reducible first | exact HB.out | apply below_alloc | apply pw_below_drewN | apply below_drew1 | refine below_set ?_ GE191.out | refine below_set ?_ GE197.out) | exact HB.out)⟩
end Go.Proofs.YtabmlbnnhhpaoaaGreatDoor.PAsmLines
