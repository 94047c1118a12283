/- EntryAllows: entry.Show of the document's first example. -/
import Derived.Test.YtjfkgbpcfcfonaaDoorEntRange
import Derived.Deep.RegionHeld3
namespace Go.Proofs.YtjfkgbpcfcfonaaDoor
open Go.RowKit Go.Proofs.YtjfkgbpcfcfonaaDoorW.PrintWords Go.Proofs.YtjfkgbpcfcfonaaDoorW.PrintLast Go.Proofs.YtjfkgbpcfcfonaaDoorW.PrintMore
set_option linter.unusedSimpArgs false
set_option linter.unusedVariables false
theorem enc_calls (w : World) : Calls Tryd.prog 7 #[.agg #[.int .i64 1, .int .u8 3, .int .u32 18]] w fun e w' => e = .returned (.tuple #[.int .u32 73735, .int .i64 0]) ∧ Below w.heap.size w w' :=
  PEntryAllows.entry_Encode.calls 5 1 3 18 73735 0 w (by decide +kernel)
theorem alloc_size (w : World) (o : Obj) : (w.alloc o).heap.size = w.heap.size + 1 := by
  show (w.heap.push o).size = _
  simp
theorem setCell_row {w : World} {g : Nat} {t : TypeId} {fr : Nat × Nat} {cs cs' : Array Value} (h : w.heap[g]? = some (.cells cs t fr)) (i : Nat) (v : Value) (e : cs.setIfInBounds i v = cs') : (w.setCell ⟨g, i, none⟩ v).heap[g]? = some (.cells cs' t fr) := by
  subst e
  have hz := blk_size h
  obtain ⟨_, h2⟩ := Array.getElem?_eq_some_iff.1 h
  simp [World.setCell, Array.getElem?_modify, h, h2]
set_option maxHeartbeats 4000000 in
set_option maxRecDepth 100000 in
theorem show_calls (w : World) (hL : Ent.Laid w) : Calls Tryd.prog 9 #[.agg #[.int .i64 1, .int .u8 3, .int .u32 18]] w fun e w' => e = .returned (.string ⟨#[114, 119, 45, 32, 48, 49, 50]⟩) ∧ Below w.heap.size w w' := by
  have hc := fun (W : World) (C : Array Value) (n c : Nat) => Lib.run_convert_bytes_const (P := Tryd.prog) W 42 5 C n c Tryd.underlying42 Tryd.underlying5
  go_enter Tryd.func9, Tryd.ntmps9
  go_wp2_with fail
  refine (enc_calls _).mono ?_
  rintro e w1 ⟨rfl, hb1⟩
  have k1 := blk_keep hb1 (heap_alloc_new _ _)
  have hs1 := hb1.size
  have HB1 := Lib.hid (below_next (below_alloc' (Below.refl _ _) _) hb1)
  obtain ⟨d1, f1⟩ := blk_facts k1
  go_wp2_with fail
  refine wp_loop_rounds 4 ?_
  rw [rounds_succ]
  clear hc
  go_wp2_with fail
  have hg0 : w.heap.size < w1.heap.size := Nat.lt_of_lt_of_le (by rw [alloc_size]; omega) hs1
  generalize hW : (w1.alloc _).iter _ _ = W1
  have A1 : W1.heap[w.heap.size]? = some (.cells #[.int .i64 1, .int .u8 3, .int .u32 18] 29 (0, 0)) := by
    rw [← hW]
    exact blk_alloc _ (blk_alloc _ k1)
  have B1 : W1.heap[w1.heap.size]? = some (.cells #[.int .u8 45, .int .u8 45, .int .u8 45] 5 (3, 4)) := by
    rw [← hW]
    exact blk_alloc _ (heap_alloc_new _ _)
  have C1 : W1.heap[w1.heap.size + 1]? = some (.stringIter ⟨#[114, 119, 120]⟩ 0) := by
    rw [← hW]
    exact (alloc_size w1 _) ▸ World.iter_heap (w1.alloc _) _ _
  have E1 : Hid (Below w.heap.size w W1) := by
    rw [← hW]
    exact Lib.hid (below_alloc' (below_alloc' HB1.out _) _)
  clear hW d1 f1
  rw [next_ascii W1 _ _ 0 _ C1 (by decide) (by decide)]
  generalize hV : W1.setObj _ _ = V1
  have P1 : V1.heap[w.heap.size]? = some (.cells #[.int .i64 1, .int .u8 3, .int .u32 18] 29 (0, 0)) := hV ▸ setObj_other A1 (by omega)
  have Q1 : V1.heap[w1.heap.size]? = some (.cells #[.int .u8 45, .int .u8 45, .int .u8 45] 5 (3, 4)) := hV ▸ setObj_other B1 (by omega)
  have R1 : V1.heap[w1.heap.size + 1]? = some (.stringIter ⟨#[114, 119, 120]⟩ 1) := hV ▸ setObj_at C1
  have F1 : Hid (Below w.heap.size w V1) := Lib.hid (hV ▸ setObj_below E1.out (by omega) _)
  have p1 : V1.cell? ⟨w.heap.size, 1, none⟩ = some (.int .u8 3) := (blk_facts P1).1 1
  have q1 : ∀ j, V1.cell? ⟨w1.heap.size, j, none⟩ = #[.int .u8 45, .int .u8 45, .int .u8 45][j]? := fun j => cell_of_row V1 _ j _ _ _ Q1
  have z1 : ∀ j, j < 3 → V1.frozen? ⟨w1.heap.size, j, none⟩ = false := fun j hj => by
    simp [World.frozen?, Q1]
    omega
  have z10 := z1 0 (by omega)
  have z11 := z1 1 (by omega)
  have z12 := z1 2 (by omega)
  have s1 := blk_size R1
  clear hV A1 B1 C1 E1
  go_wp2_with fail
  rw [rounds_succ]
  go_wp2_with fail
  generalize hW : V1.setCell _ _ = W2
  have A2 : W2.heap[w.heap.size]? = some (.cells #[.int .i64 1, .int .u8 3, .int .u32 18] 29 (0, 0)) := hW ▸ setCell_other P1 _ _ (by omega)
  have B2 : W2.heap[w1.heap.size]? = some (.cells #[.int .u8 114, .int .u8 45, .int .u8 45] 5 (3, 4)) := hW ▸ setCell_row Q1 0 _ (by kernel_rfl)
  have C2 : W2.heap[w1.heap.size + 1]? = some (.stringIter ⟨#[114, 119, 120]⟩ 1) := hW ▸ setCell_other R1 _ _ (by omega)
  have E2 : Hid (Below w.heap.size w W2) := Lib.hid (hW ▸ F1.out.setCell (show w.heap.size ≤ w1.heap.size by omega) _)
  clear hW p1 q1 z1 z10 z11 z12 P1 Q1 R1 F1
  rw [next_ascii W2 _ _ 1 _ C2 (by decide) (by decide)]
  generalize hV : W2.setObj _ _ = V2
  have P2 : V2.heap[w.heap.size]? = some (.cells #[.int .i64 1, .int .u8 3, .int .u32 18] 29 (0, 0)) := hV ▸ setObj_other A2 (by omega)
  have Q2 : V2.heap[w1.heap.size]? = some (.cells #[.int .u8 114, .int .u8 45, .int .u8 45] 5 (3, 4)) := hV ▸ setObj_other B2 (by omega)
  have R2 : V2.heap[w1.heap.size + 1]? = some (.stringIter ⟨#[114, 119, 120]⟩ 2) := hV ▸ setObj_at C2
  have F2 : Hid (Below w.heap.size w V2) := Lib.hid (hV ▸ setObj_below E2.out (by omega) _)
  have p2 : V2.cell? ⟨w.heap.size, 1, none⟩ = some (.int .u8 3) := (blk_facts P2).1 1
  have q2 : ∀ j, V2.cell? ⟨w1.heap.size, j, none⟩ = #[.int .u8 114, .int .u8 45, .int .u8 45][j]? := fun j => cell_of_row V2 _ j _ _ _ Q2
  have z2 : ∀ j, j < 3 → V2.frozen? ⟨w1.heap.size, j, none⟩ = false := fun j hj => by
    simp [World.frozen?, Q2]
    omega
  have z20 := z2 0 (by omega)
  have z21 := z2 1 (by omega)
  have z22 := z2 2 (by omega)
  have s2 := blk_size R2
  clear hV A2 B2 C2 E2
  go_wp2_with fail
  rw [rounds_succ]
  go_wp2_with fail
  generalize hW : V2.setCell _ _ = W3
  have A3 : W3.heap[w.heap.size]? = some (.cells #[.int .i64 1, .int .u8 3, .int .u32 18] 29 (0, 0)) := hW ▸ setCell_other P2 _ _ (by omega)
  have B3 : W3.heap[w1.heap.size]? = some (.cells #[.int .u8 114, .int .u8 119, .int .u8 45] 5 (3, 4)) := hW ▸ setCell_row Q2 1 _ (by kernel_rfl)
  have C3 : W3.heap[w1.heap.size + 1]? = some (.stringIter ⟨#[114, 119, 120]⟩ 2) := hW ▸ setCell_other R2 _ _ (by omega)
  have E3 : Hid (Below w.heap.size w W3) := Lib.hid (hW ▸ F2.out.setCell (show w.heap.size ≤ w1.heap.size by omega) _)
  clear hW p2 q2 z2 z20 z21 z22 P2 Q2 R2 F2
  rw [next_ascii W3 _ _ 2 _ C3 (by decide) (by decide)]
  generalize hV : W3.setObj _ _ = V3
  have P3 : V3.heap[w.heap.size]? = some (.cells #[.int .i64 1, .int .u8 3, .int .u32 18] 29 (0, 0)) := hV ▸ setObj_other A3 (by omega)
  have Q3 : V3.heap[w1.heap.size]? = some (.cells #[.int .u8 114, .int .u8 119, .int .u8 45] 5 (3, 4)) := hV ▸ setObj_other B3 (by omega)
  have R3 : V3.heap[w1.heap.size + 1]? = some (.stringIter ⟨#[114, 119, 120]⟩ 3) := hV ▸ setObj_at C3
  have F3 : Hid (Below w.heap.size w V3) := Lib.hid (hV ▸ setObj_below E3.out (by omega) _)
  have p3 : V3.cell? ⟨w.heap.size, 1, none⟩ = some (.int .u8 3) := (blk_facts P3).1 1
  have q3 : ∀ j, V3.cell? ⟨w1.heap.size, j, none⟩ = #[.int .u8 114, .int .u8 119, .int .u8 45][j]? := fun j => cell_of_row V3 _ j _ _ _ Q3
  have z3 : ∀ j, j < 3 → V3.frozen? ⟨w1.heap.size, j, none⟩ = false := fun j hj => by
    simp [World.frozen?, Q3]
    omega
  have z30 := z3 0 (by omega)
  have z31 := z3 1 (by omega)
  have z32 := z3 2 (by omega)
  have s3 := blk_size R3
  clear hV A3 B3 C3 E3
  go_wp2_with fail
  rw [rounds_succ]
  go_wp2_with fail
  have A4 := P3
  have B4 := Q3
  have C4 := R3
  have E4 := F3
  rw [next_end V3 _ _ 3 _ C4 (by decide)]
  go_wp2_with fail
  have cvt : ∀ W : World, W.heap[w1.heap.size]? = some (.cells #[.int .u8 114, .int .u8 119, .int .u8 45] 5 (3, 4)) → (convert 42 9 (.slice (some ⟨w1.heap.size, 0, none⟩) 3 3)).run Tryd.prog W = .ok (.string ⟨#[114, 119, 45]⟩) W := fun W h =>
    run_convert_bytes_back W 42 9 5 ⟨w1.heap.size, 0, none⟩ 3 [114, 119, 45] Tryd.underlying42 Tryd.underlying5 Tryd.underlying9 (fun j hj => by
      match j, hj with
      | 0, _ => exact (cell_of_row W _ 0 _ _ _ h).trans (by kernel_rfl)
      | 1, _ => exact (cell_of_row W _ 1 _ _ _ h).trans (by kernel_rfl)
      | 2, _ => exact (cell_of_row W _ 2 _ _ _ h).trans (by kernel_rfl)
      | n + 3, h => exact absurd h (by simp))
  have L3 := hL.below F3.out
  have L3d := hL.below (below_drewN' F3.out 1)
  have cv0 := cvt V3 Q3
  have cvd := cvt V3.drew Q3
  have c0 : V3.cell? ⟨w.heap.size, 2, none⟩ = some (.int .u32 18) := (blk_facts P3).1 2
  have cd : V3.drew.cell? ⟨w.heap.size, 2, none⟩ = some (.int .u32 18) := c0
  have ha : (⟨#[114, 119, 45]⟩ : ByteArray) ++ ⟨#[32]⟩ = ⟨#[114, 119, 45, 32]⟩ := by kernel_rfl
  have hb : (⟨#[114, 119, 45, 32]⟩ : ByteArray) ++ ⟨#[48, 49, 50]⟩ = ⟨#[114, 119, 45, 32, 48, 49, 50]⟩ := by kernel_rfl
  go_region_held3 (fun w' => w'.cell? ⟨w.heap.size, 2, none⟩ = some (.int .u32 18) ∧ (convert 42 9 (.slice (some ⟨w1.heap.size, 0, none⟩) 3 3)).run Tryd.prog w' = .ok (.string ⟨#[114, 119, 45]⟩) w')
    (first | exact ⟨cd, cvd⟩ | exact ⟨c0, cv0⟩ | exact ⟨c1, cv1⟩ | go_keep | (simp [*]; done))
    ((first | (go_at_call 13; refine (digits_calls _ (by first | exact L3 | exact L3d)).mono ?_; rintro e y1 ⟨rfl, hy1⟩; have ky1 := blk_keep hy1 P3; have cv1 := cvt y1 (blk_keep hy1 Q3); have c1 : y1.cell? ⟨w.heap.size, 2, none⟩ = some (.int .u32 18) := (blk_facts ky1).1 2)))
  go_wp2_with fail
  go_ret
  exact ⟨rfl, by first | exact below_next F3.out hy1 | exact below_next (below_drewN' F3.out 1) hy1⟩
end Go.Proofs.YtjfkgbpcfcfonaaDoor
