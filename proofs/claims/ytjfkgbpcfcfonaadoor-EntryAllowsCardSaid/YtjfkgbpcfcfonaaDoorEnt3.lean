/- EntryAllows: strings.Cut and strconv.ParseUint of the document's first example. -/
import Derived.Test.YtjfkgbpcfcfonaaDoorEnt2
import Derived.Lib.ConvBytes
namespace Go.Proofs.YtjfkgbpcfcfonaaDoor
open Go.RowKit Go.Proofs.YtjfkgbpcfcfonaaDoorW.PrintWords Go.Proofs.YtjfkgbpcfcfonaaDoorW.PrintLast Go.Proofs.YtjfkgbpcfcfonaaDoorW.PrintMore
set_option linter.unusedSimpArgs false
set_option linter.unusedVariables false
theorem bytes_below (w : World) (e : TypeId) (s : ByteArray) : Below w.heap.size w (Lib.bytesWorld w e s) :=
  ⟨rfl, rfl, rfl, by rw [Lib.bytesWorld_size]; omega, fun j hj => Lib.bytesWorld_at_old w e s j hj⟩
set_option maxHeartbeats 4000000 in
set_option maxRecDepth 100000 in
theorem cutIn_calls (w : World) : Calls Tryd.prog 18 #[.string ⟨#[114, 119, 45, 32, 48, 49, 50]⟩, .string ⟨#[32]⟩] w fun e w' => e = .returned (.tuple #[.string ⟨#[114, 119, 45]⟩, .string ⟨#[48, 49, 50]⟩, .bool true]) ∧ Below w.heap.size w w' := by
  have hi : (Lib.indexByte (⟨#[114, 119, 45, 32, 48, 49, 50]⟩ : ByteArray).data.toList 32 : Int) = 3 := by kernel_rfl
  have x1 : (⟨#[114, 119, 45, 32, 48, 49, 50]⟩ : ByteArray).extract 0 3 = ⟨#[114, 119, 45]⟩ := by kernel_rfl
  have x2 : (⟨#[114, 119, 45, 32, 48, 49, 50]⟩ : ByteArray).extract 4 7 = ⟨#[48, 49, 50]⟩ := by kernel_rfl
  go_enter Tryd.func18, Tryd.ntmps18
  go_wp2_with fail
  refine (Tryd.stringslite_Index_one _ _ _).mono ?_
  rintro e w1 ⟨rfl, rfl⟩
  rw [hi]
  go_wp2_with fail
  go_quiet (fail)
  go_wp2_with fail
  refine bodyPost_ret (v := .tuple #[.string ⟨#[114, 119, 45]⟩, .string ⟨#[48, 49, 50]⟩, .bool true]) (by simp [results, Tryd.results18, go_sem]) rfl ⟨rfl, ?_⟩
  exact below_drewN' (Below.refl _ _) _
set_option maxHeartbeats 4000000 in
set_option maxRecDepth 100000 in
theorem cut_calls (w : World) : Calls Tryd.prog 14 #[.string ⟨#[114, 119, 45, 32, 48, 49, 50]⟩, .string ⟨#[32]⟩] w fun e w' => e = .returned (.tuple #[.string ⟨#[114, 119, 45]⟩, .string ⟨#[48, 49, 50]⟩, .bool true]) ∧ Below w.heap.size w w' := by
  go_enter Tryd.func14, Tryd.ntmps14
  go_wp2_with fail
  refine (cutIn_calls _).mono ?_
  rintro e w1 ⟨rfl, hb1⟩
  go_wp2_with fail
  refine bodyPost_ret (v := .tuple #[.string ⟨#[114, 119, 45]⟩, .string ⟨#[48, 49, 50]⟩, .bool true]) (by simp [results, Tryd.results14, go_sem]) rfl ⟨rfl, ?_⟩
  exact hb1
set_option maxHeartbeats 4000000 in
set_option maxRecDepth 100000 in
theorem parseIn_calls (w : World) : Calls Tryd.prog 19 #[.string ⟨#[48, 49, 50]⟩, .int .i64 16, .int .i64 32] w fun e w' => e = .returned (.tuple #[.int .u64 18, .nilIface]) ∧ Below w.heap.size w w' := by
  go_enter Tryd.func19, Tryd.ntmps19
  go_wp2_with fail
  rw [Lib.run_convert_string_bytes w 9 42 5 _ Tryd.underlying9 Tryd.underlying42 Tryd.underlying5]
  generalize hW : Lib.bytesWorld w _ _ = W
  have b0 : W.cell? ⟨w.heap.size, 0, none⟩ = some (.int .u8 48) := hW ▸ Lib.bytesWorld_cell w _ _ 0 (by decide)
  have b1 : W.cell? ⟨w.heap.size, 1, none⟩ = some (.int .u8 49) := hW ▸ Lib.bytesWorld_cell w _ _ 1 (by decide)
  have b2 : W.cell? ⟨w.heap.size, 2, none⟩ = some (.int .u8 50) := hW ▸ Lib.bytesWorld_cell w _ _ 2 (by decide)
  have hWb : Hid (Below w.heap.size w W) := Lib.hid (hW ▸ bytes_below w _ _)
  clear hW
  go_wp2_with fail
  refine wp_loop_rounds 4 ?_
  rw [rounds_succ]
  go_wp2_with fail
  rw [rounds_succ]
  go_wp2_with fail
  rw [rounds_succ]
  go_wp2_with fail
  rw [rounds_succ]
  go_wp2_with fail
  go_ret2
  exact ⟨rfl, hWb.out⟩
set_option maxHeartbeats 4000000 in
set_option maxRecDepth 100000 in
theorem parse_calls (w : World) : Calls Tryd.prog 15 #[.string ⟨#[48, 49, 50]⟩, .int .i64 16, .int .i64 32] w fun e w' => e = .returned (.tuple #[.int .u64 18, .nilIface]) ∧ Below w.heap.size w w' := by
  go_enter Tryd.func15, Tryd.ntmps15
  go_wp2_with fail
  refine (parseIn_calls _).mono ?_
  rintro e w1 ⟨rfl, hb1⟩
  go_wp2_with fail
  go_ret2
  exact ⟨rfl, hb1⟩
end Go.Proofs.YtjfkgbpcfcfonaaDoor
