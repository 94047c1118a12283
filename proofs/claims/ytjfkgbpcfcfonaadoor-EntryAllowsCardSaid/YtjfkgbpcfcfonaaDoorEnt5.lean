/- EntryAllows: the law's closed part. -/
import Derived.Test.YtjfkgbpcfcfonaaDoorEnt4
namespace Go.Proofs.YtjfkgbpcfcfonaaDoor
open Go.RowKit Go.Proofs.YtjfkgbpcfcfonaaDoorW.PrintWords Go.Proofs.YtjfkgbpcfcfonaaDoorW.PrintLast Go.Proofs.YtjfkgbpcfcfonaaDoorW.PrintMore
set_option linter.unusedSimpArgs false
set_option linter.unusedVariables false
theorem dec_calls (w : World) : Calls Tryd.prog 8 #[.int .u32 73735] w fun e w' => e = .returned (.tuple #[.agg #[.int .i64 1, .int .u8 3, .int .u32 18], .int .i64 0]) ∧ Below w.heap.size w w' :=
  PEntryAllows.entry_Decode.calls 9 73735 1 3 18 0 w (by decide +kernel)
set_option maxHeartbeats 4000000 in
set_option maxRecDepth 100000 in
theorem needs_calls (w : World) : Calls Tryd.prog 11 #[] w fun e w' => e = .returned (.agg #[.int .u8 0, .int .u8 1, .int .u8 2, .int .u8 4]) ∧ Below w.heap.size w w' := by
  go_enter Tryd.func11, Tryd.ntmps11
  go_wp2_with fail
  refine bodyPost_ret (v := .agg #[.int .u8 0, .int .u8 1, .int .u8 2, .int .u8 4]) (by simp [results, Tryd.results11, go_sem]) rfl ⟨rfl, ?_⟩
  exact below_alloc' (Below.refl _ _) _
set_option maxHeartbeats 4000000 in
set_option maxRecDepth 100000 in
theorem known_calls (w : World) (hL : Ent.Laid w) : Calls Tryd.prog 4 #[] w fun e w' => e = .returned (.bool true) ∧ Below w.heap.size w w' := by
  go_enter Tryd.func4, Tryd.ntmps4
  go_wp2_with fail
  refine (enc_calls _).mono ?_
  rintro e w1 ⟨rfl, hb1⟩
  have k1 := blk_keep hb1 (heap_alloc_new _ _)
  have HB1 := Lib.hid (below_next (below_alloc' (Below.refl _ _) _) hb1)
  obtain ⟨d1, f1⟩ := blk_facts k1
  have z1 := blk_size k1
  go_wp2_with fail
  refine (dec_calls _).mono ?_
  rintro e w2 ⟨rfl, hb2⟩
  have k2 := blk_keep hb2 k1
  have HB2 := Lib.hid (below_next HB1.out hb2)
  clear d1 f1 z1
  obtain ⟨d2, f2⟩ := blk_facts k2
  have z2 := blk_size k2
  have n2 : w2.heap.size ≠ w.heap.size := by omega
  have n2' : w.heap.size ≠ w2.heap.size := by omega
  go_wp2_with fail
  have k3 := blk_alloc (.cells #[.int .i64 1, .int .u8 3, .int .u32 18] 29) k2
  have e3 : (w2.alloc (.cells #[.int .i64 1, .int .u8 3, .int .u32 18] 29)).heap[w2.heap.size]? = some (.cells #[.int .i64 1, .int .u8 3, .int .u32 18] 29 (0, 0)) := heap_alloc_new _ _
  have HB3 := Lib.hid (below_alloc' HB2.out (.cells #[.int .i64 1, .int .u8 3, .int .u32 18] 29))
  refine (show_calls _ (hL.below HB3.out)).mono ?_
  rintro e w4 ⟨rfl, hb4⟩
  have k4 := blk_keep hb4 k3
  have e4 := blk_keep hb4 e3
  have HB4 := Lib.hid (below_next HB3.out hb4)
  clear d2 f2 z2
  obtain ⟨d4, f4⟩ := blk_facts k4
  obtain ⟨de4, fe4⟩ := blk_facts e4
  go_wp2_with fail
  refine (read_calls _ (hL.below HB4.out)).mono ?_
  rintro e w5 ⟨rfl, hb5⟩
  have k5 := blk_keep hb5 k4
  have e5 := blk_keep hb5 e4
  have HB5 := Lib.hid (below_next HB4.out hb5)
  clear d4 f4 de4 fe4
  obtain ⟨d5, f5⟩ := blk_facts k5
  obtain ⟨de5, fe5⟩ := blk_facts e5
  have z5 := blk_size k5
  have y5 := blk_size e5
  have m1 : w5.heap.size ≠ w.heap.size := by omega
  have m2 : w.heap.size ≠ w5.heap.size := by omega
  have m3 : w5.heap.size ≠ w2.heap.size := by omega
  have m4 : w2.heap.size ≠ w5.heap.size := by omega
  go_wp2_with fail
  go_ret
  exact ⟨rfl, below_alloc' HB5.out _⟩
end Go.Proofs.YtjfkgbpcfcfonaaDoor
