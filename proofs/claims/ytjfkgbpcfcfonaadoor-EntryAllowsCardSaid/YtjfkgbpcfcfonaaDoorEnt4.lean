/- EntryAllows: entry.Read of the document's first example. -/
import Derived.Test.YtjfkgbpcfcfonaaDoorEnt3
namespace Go.Proofs.YtjfkgbpcfcfonaaDoor
open Go.RowKit Go.Proofs.YtjfkgbpcfcfonaaDoorW.PrintWords Go.Proofs.YtjfkgbpcfcfonaaDoorW.PrintLast Go.Proofs.YtjfkgbpcfcfonaaDoorW.PrintMore
set_option linter.unusedSimpArgs false
set_option linter.unusedVariables false
theorem rounds_world {P : Program} {c : Code} {Q : Exit → Act → World → Prop} {k : Nat} {a : Act} {W : World} (F : World → Prop) (hF : F W) (h : ∀ w2, F w2 → Code.rounds P c Q k a w2) : Code.rounds P c Q k a W := h W hF
set_option maxHeartbeats 4000000 in
set_option maxRecDepth 100000 in
theorem read_calls (w : World) (hL : Ent.Laid w) : Calls Tryd.prog 10 #[.string ⟨#[114, 119, 45, 32, 48, 49, 50]⟩] w fun e w' => e = .returned (.tuple #[.agg #[.int .i64 1, .int .u8 3, .int .u32 18], .int .i64 0]) ∧ Below w.heap.size w w' := by
  go_enter Tryd.func10, Tryd.ntmps10
  go_wp2_with fail
  refine (cut_calls _).mono ?_
  rintro e w1 ⟨rfl, hb1⟩
  have HB1 := Lib.hid (below_next (below_alloc' (Below.refl _ _) _) hb1)
  have z1 := blk_keep hb1 (heap_alloc_new _ _)
  have hs1 := hb1.size
  go_wp2_with fail
  refine (parse_calls _).mono ?_
  rintro e w2 ⟨rfl, hb2⟩
  have HB2 := Lib.hid (below_next HB1.out hb2)
  have hs2 := hb2.size
  have z2 := blk_keep hb2 z1
  go_wp2_with fail
  have k3 : (w2.alloc (.cells #[.int .i64 1, .int .u8 0, .int .u32 18] 29)).heap[w2.heap.size]? = some (.cells #[.int .i64 1, .int .u8 0, .int .u32 18] 29 (0, 0)) := heap_alloc_new _ _
  have HB3 := Lib.hid (below_alloc' HB2.out (.cells #[.int .i64 1, .int .u8 0, .int .u32 18] 29))
  have z3 := blk_alloc (.cells #[.int .i64 1, .int .u8 0, .int .u32 18] 29) z2
  generalize (w2.alloc (.cells #[.int .i64 1, .int .u8 0, .int .u32 18] 29)) = W0 at k3 HB3 z3
  have g3 : w.heap.size < w2.heap.size := Nat.lt_of_lt_of_le (Nat.lt_of_lt_of_le (by rw [alloc_size]; omega) hs1) hs2
  have g2 : w.heap.size ≤ w2.heap.size := Nat.le_of_lt g3
  obtain ⟨d3, f3⟩ := blk_facts k3
  refine wp_loop_rounds 4 ?_
  rw [rounds_succ]
  go_wp2_with fail
  go_quiet (fail)
  go_wp2_with fail
  go_region
  all_goals (go_wp2_with fail)
  refine rounds_world (fun W => W.heap[w2.heap.size]? = some (.cells #[.int .i64 1, .int .u8 1, .int .u32 18] 29 (0, 0)) ∧ Below w.heap.size w W ∧ W.heap[w.heap.size]? = some (.cells #[.int .i64 0, .int .u8 0, .int .u32 0] 29 (0, 0))) ⟨by first | exact setCell_row (w := (_ : World).drew) k3 1 _ (by kernel_rfl) | exact setCell_row k3 1 _ (by kernel_rfl), by first | exact (below_drewN' (below_drewN' HB3.out _) 1).setCell g2 _ | exact (below_drewN' HB3.out _).setCell g2 _, by first | exact setCell_other (w := (_ : World).drew) z3 1 _ (by omega) | exact setCell_other z3 1 _ (by omega)⟩ ?_
  rintro V1 ⟨m1, b1, y1⟩
  have H1 := Lib.hid b1
  clear b1
  have dd1 := (blk_facts m1).1
  have ff1 := (blk_facts m1).2
  clear d3 f3
  rw [rounds_succ]
  go_wp2_with fail
  go_quiet (fail)
  go_wp2_with fail
  go_region
  all_goals (go_wp2_with fail)
  refine rounds_world (fun W => W.heap[w2.heap.size]? = some (.cells #[.int .i64 1, .int .u8 3, .int .u32 18] 29 (0, 0)) ∧ Below w.heap.size w W ∧ W.heap[w.heap.size]? = some (.cells #[.int .i64 0, .int .u8 0, .int .u32 0] 29 (0, 0))) ⟨by first | exact setCell_row (w := (_ : World).drew) m1 1 _ (by kernel_rfl) | exact setCell_row m1 1 _ (by kernel_rfl), by first | exact (below_drewN' (below_drewN' H1.out _) 1).setCell g2 _ | exact (below_drewN' H1.out _).setCell g2 _, by first | exact setCell_other (w := (_ : World).drew) y1 1 _ (by omega) | exact setCell_other y1 1 _ (by omega)⟩ ?_
  rintro V2 ⟨m2, b2, y2⟩
  have H2 := Lib.hid b2
  clear b2
  have dd2 := (blk_facts m2).1
  have ff2 := (blk_facts m2).2
  rw [rounds_succ]
  go_wp2_with fail
  go_quiet (fail)
  go_wp2_with fail
  refine rounds_world (fun W => W.heap[w2.heap.size]? = some (.cells #[.int .i64 1, .int .u8 3, .int .u32 18] 29 (0, 0)) ∧ Below w.heap.size w W ∧ W.heap[w.heap.size]? = some (.cells #[.int .i64 0, .int .u8 0, .int .u32 0] 29 (0, 0))) ⟨by exact m2, by first | exact below_drewN' H2.out _ | exact H2.out, by exact y2⟩ ?_
  rintro V3 ⟨m3, b3, y3⟩
  have H3 := Lib.hid b3
  clear b3
  have dd3 := (blk_facts m3).1
  have ff3 := (blk_facts m3).2
  rw [rounds_succ]
  go_wp2_with fail
  refine (show_calls _ (hL.below H3.out)).mono ?_
  rintro e w4 ⟨rfl, hb4⟩
  have m4 := blk_keep hb4 m3
  have y4 := blk_keep hb4 y3
  have H4 := Lib.hid (below_next H3.out hb4)
  clear dd1 ff1 dd2 ff2 dd3 ff3
  have dd4 := (blk_facts m4).1
  have ff4 := (blk_facts m4).2
  have de4 := (blk_facts y4).1
  have fe4 := (blk_facts y4).2
  go_wp2_with fail
  refine bodyPost_ret (v := .tuple #[.agg #[.int .i64 1, .int .u8 3, .int .u32 18], .int .i64 0]) (by simp [results, Tryd.results10, go_sem, de4]) rfl ⟨rfl, ?_⟩
  exact ((H4.out.setCell (Nat.le_refl _) _).setCell (Nat.le_refl _) _).setCell (Nat.le_refl _) _
end Go.Proofs.YtjfkgbpcfcfonaaDoor
