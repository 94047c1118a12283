/- EntryAllows: strconv.FormatUint(18, 16). -/
import Derived.Test.YtjfkgbpcfcfonaaDoorEnt0
import Derived.Laws.IdiomStrings
namespace Go.Proofs.YtjfkgbpcfcfonaaDoor
open Go.RowKit Go.Proofs.YtjfkgbpcfcfonaaDoorW.PrintWords Go.Proofs.YtjfkgbpcfcfonaaDoorW.PrintLast Go.Proofs.YtjfkgbpcfcfonaaDoorW.PrintMore
set_option linter.unusedSimpArgs false
set_option linter.unusedVariables false
set_option maxHeartbeats 4000000 in
set_option maxRecDepth 100000 in
theorem bits16_calls (w : World) (hL : Ent.Laid w) : Calls Tryd.prog 38 #[.slice none 0 0, .int .u64 18, .int .i64 16, .bool false, .bool false] w fun e w' => e = .returned (.tuple #[.slice none 0 0, .string ⟨#[49, 50]⟩]) ∧ Below w.heap.size w w' := by
  go_enter Tryd.func38, Tryd.ntmps38
  go_wp2_with fail
  refine (pow_calls _).mono ?_
  rintro e w1 ⟨rfl, rfl⟩
  go_wp2_with fail
  refine (tz_calls _ ?hl).mono ?_
  case hl => exact hL.below (below_alloc' (Below.refl _ _) _)
  rintro e w1 ⟨rfl, hb1⟩
  have k1 := blk_keep hb1 (heap_alloc_new _ _)
  have hs1 := hb1.size
  have HB1 := Lib.hid (below_next (below_alloc' (Below.refl _ _) _) hb1)
  obtain ⟨d1, f1⟩ := blk_facts k1
  go_wp2_with fail
  refine wp_loop_rounds 2 ?_
  rw [rounds_succ]
  go_wp2_with fail
  rw [rounds_succ]
  go_wp2_with fail
  generalize hv : (w1.setCell _ _).setCell _ _ = w2
  have k2 : w2.heap[w.heap.size]? = some (.cells ((Tryd.zeroCells90.set! 64 (.int .u8 50)).set! 63 (.int .u8 49)) 90 (0, 0)) := by
    rw [← hv]
    exact blk_put (blk_put (cs' := Tryd.zeroCells90.set! 64 (.int .u8 50)) k1 64 _ (by kernel_rfl)) 63 _ (by kernel_rfl)
  have HB2 : Hid (Below w.heap.size w w2) := by
    rw [← hv]
    exact Lib.hid ((HB1.out.setCell (Nat.le_refl _) _).setCell (Nat.le_refl _) _)
  clear hv
  obtain ⟨d2, f2⟩ := blk_facts k2
  have hcv : (convert 42 9 (.slice (some ⟨w.heap.size, 63, none⟩) 2 2)).run Tryd.prog w2 = .ok (.string ⟨#[49, 50]⟩) w2 := run_convert_bytes_back w2 42 9 5 ⟨w.heap.size, 63, none⟩ 2 [49, 50] Tryd.underlying42 Tryd.underlying5 Tryd.underlying9 (fun j hj => by
    match j, hj with
    | 0, _ => exact (d2 63).trans (by kernel_rfl)
    | 1, _ => exact (d2 64).trans (by kernel_rfl)
    | n + 2, h => exact absurd h (by simp))
  rw [hcv]
  go_wp2_with fail
  go_ret2
  exact ⟨rfl, HB2.out⟩
set_option maxHeartbeats 4000000 in
set_option maxRecDepth 100000 in
theorem fmtIn_calls (w : World) (hL : Ent.Laid w) : Calls Tryd.prog 21 #[.int .u64 18, .int .i64 16] w fun e w' => e = .returned (.string ⟨#[49, 50]⟩) ∧ Below w.heap.size w w' := by
  go_enter Tryd.func21, Tryd.ntmps21
  go_wp2_with fail
  refine (bits16_calls _ hL).mono ?_
  rintro e w1 ⟨rfl, hb1⟩
  go_wp2_with fail
  go_ret
  exact ⟨rfl, hb1⟩
set_option maxHeartbeats 4000000 in
set_option maxRecDepth 100000 in
theorem fmt_calls (w : World) (hL : Ent.Laid w) : Calls Tryd.prog 16 #[.int .u64 18, .int .i64 16] w fun e w' => e = .returned (.string ⟨#[49, 50]⟩) ∧ Below w.heap.size w w' := by
  go_enter Tryd.func16, Tryd.ntmps16
  go_wp2_with fail
  refine (fmtIn_calls _ hL).mono ?_
  rintro e w1 ⟨rfl, hb1⟩
  go_wp2_with fail
  go_ret
  exact ⟨rfl, hb1⟩
set_option maxHeartbeats 4000000 in
set_option maxRecDepth 100000 in
theorem digits_calls (w : World) (hL : Ent.Laid w) : Calls Tryd.prog 13 #[.int .u32 18] w fun e w' => e = .returned (.string ⟨#[48, 49, 50]⟩) ∧ Below w.heap.size w w' := by
  have hr : (⟨#[48]⟩ : ByteArray) ++ ⟨#[49, 50]⟩ = ⟨#[48, 49, 50]⟩ := by kernel_rfl
  go_enter Tryd.func13, Tryd.ntmps13
  go_wp2_with fail
  refine (fmt_calls _ hL).mono ?_
  rintro e w1 ⟨rfl, hb1⟩
  go_wp2_with fail
  refine (Tryd.strings_Repeat_one ⟨#[48]⟩ _).mono ?_
  rintro e w2 ⟨rfl, rfl⟩
  go_wp2_with fail
  go_ret
  exact ⟨rfl, hb1⟩
end Go.Proofs.YtjfkgbpcfcfonaaDoor
