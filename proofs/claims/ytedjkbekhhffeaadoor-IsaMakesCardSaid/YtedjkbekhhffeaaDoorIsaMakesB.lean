/- The walks of the reference's Text, by form and shape: 1 0, 2 0, 2 1, 3 0. The walks of the reference's Text, by form and shape: 3 1, 4 0, 5 0, 6 0, 7 0, 8 0. The reference's Text, at every instruction. IsaMakes: the walk of the law's body. -/
import Derived.Test.YtedjkbekhhffeaaDoorIsaMakesA
import Derived.Test.YtedjkbekhhffeaaDoorIsaTop
import Derived.Test.YtedjkbekhhffeaaDoorIsaUses
namespace Go.Proofs.YtedjkbekhhffeaaDoor
open Go.RowKit Go.Proofs.YtedjkbekhhffeaaDoorW.PrintWords PIsaMakes
set_option linter.unusedSimpArgs false
set_option linter.unusedVariables false
set_option maxHeartbeats 8000000 in
set_option maxRecDepth 100000 in
theorem rtext_1_0 (k : Nat) (hk : 60 ≤ k) (n : Nat) (h1 : 1 ≤ n) (h2 : n < 49) (hf : (Isa.formOf n : Int) = 1) (hs : RefM.shC (Isa.formOf n) (Isa.shapeOf n) = 51) (ic : Int) (hn : RefM.immC (Isa.numOf n) = ic) (hnu : (ic == 45) = true) (d a b : Nat) (imm x : Int)
    (hd : d ≤ 15) (ha : a ≤ 15) (hb : b ≤ 15) (him : -2147483648 ≤ imm ∧ imm ≤ 2147483647) (hE : Isa.enc (n : Int) (d : Int) (a : Int) (b : Int) imm = (x, 0)) (hnm : (Isa.nameOf n).size ≤ 16) (w : World) :
    Calls Tryd.prog 23 #[.agg #[.int .i64 (n : Int), .int .u8 (d : Int), .int .u8 (a : Int), .int .u8 (b : Int), .int .i32 imm]] w (Isa.TextPost (((((((((Isa.nameOf n ++ ⟨#[32]⟩) ++ ⟨#[114]⟩) ++ Isa.num (d : Int)) ++ ⟨#[44, 32]⟩) ++ ⟨#[114]⟩) ++ Isa.num (a : Int)) ++ ⟨#[44, 32]⟩) ++ ⟨#[114]⟩) ++ Isa.num (b : Int)) w) := by
  have HC := Lib.hid (RefM.enc_eq k hk (n : Int) (d : Int) (a : Int) (b : Int) imm (by omega) (by omega) (by omega) him)
  have HO := Lib.hid (RefM.of_kind k (by omega) n h1 h2 1 51 ic hf hs hn)
  have si := Isa.num_size imm (by omega) (by omega)
  have sd := Isa.num_size (d : Int) (by omega) (by omega)
  have sa := Isa.num_size (a : Int) (by omega) (by omega)
  have sb := Isa.num_size (b : Int) (by omega) (by omega)
  have hk20 : 20 ≤ k := by omega
  have HE := Lib.hid hE
  clear hE hf hs hn
  go_enter Tryd.func23, Tryd.ntmps23
  go_wp2_with fail
  refine (cloisterref10_Encode.calls k _ _ _ _ _ x 0 _ (HC.out.trans (by rw [HE.out]))).mono ?_
  rintro e w1 ⟨rfl, hb1⟩
  have k1 := blk_keep hb1 (heap_alloc_new _ _)
  have HB1 := Lib.hid (below_next (below_alloc' (Below.refl _ _) _) hb1)
  obtain ⟨d1, f1⟩ := blk_facts k1
  go_wp2_with fail
  refine (cloisterref10_Of.calls k _ _ _ _ _ _ _ HO.out).mono ?_
  rintro e w2 ⟨rfl, hb2⟩
  have k2 := blk_keep hb2 k1
  have HB2 := Lib.hid (below_next HB1.out hb2)
  clear d1 f1
  obtain ⟨d2, f2⟩ := blk_facts k2
  have z2 := blk_size k2
  have z2k : ∀ k, w.heap.size < w2.heap.size + k := fun k => by omega
  go_wp2_with fail
  refine (cloisterref10_Fields.calls 1 _ _ _ (RefM.fields ⟨1, by decide⟩)).mono ?_
  rintro e w3' ⟨rfl, hd3⟩
  obtain ⟨w3, rfl⟩ : ∃ w3, w3' = w3 := ⟨_, rfl⟩
  have hb3 := hd3.below
  have k3 := blk_keep hb3 (blk_alloc _ k2)
  have x3 := blk_keep hb3 (heap_alloc_new _ _)
  have HB3 := Lib.hid (below_next (below_alloc' HB2.out _) hb3)
  clear d2 f2 hd3
  obtain ⟨d3, f3⟩ := blk_facts k3
  have dx := (blk_facts x3).1
  go_wp2_with fail
  refine (dec_calls k (by omega) imm him _).mono ?_
  rintro e w4' ⟨rfl, hd4⟩
  obtain ⟨w4, rfl⟩ : ∃ w4, w4' = w4 := ⟨_, rfl⟩
  have hb4 := hd4.below
  have k4 := blk_keep hb4 k3
  have x4 := blk_keep hb4 x3
  have HB4 := Lib.hid (below_next HB3.out hb4)
  clear d3 f3 dx hd4
  obtain ⟨d4, f4⟩ := blk_facts k4
  have dx := (blk_facts x4).1
  simp only [show RefM.letters 1 = ⟨#[68, 65, 66]⟩ from rfl]
  go_wp2_with fail
  refine wp_loop_rounds 4 ?_
  refine rounds_world (RTextW w w2.heap.size (n : Int) (d : Int) (a : Int) (b : Int) imm (Isa.nameOf n) 1 ic 51) ⟨k4, x4, HB4.out⟩ ?_
  clear d4 f4 dx k4 x4 k3 x3 k2 k1 HB1 HB2 HB3 HB4
  intro v0 H0
  have p1 : ¬ (9223372036854775807 < (Isa.nameOf n).size + 1) := by omega
  have p2 : ¬ (9223372036854775807 < (Isa.nameOf n).size + 1 + 1) := by omega
  have p3 : ¬ (9223372036854775807 < (Isa.nameOf n).size + 1 + 1 + (Isa.num (d : Int)).size) := by omega
  rw [rounds_succ]
  obtain ⟨e0, g0⟩ := blk_facts H0.own
  go_wp2_with fail
  go_region_held3 (fun w' => w'.cell? ⟨w.heap.size, 0, none⟩ = some (.int .i64 (n : Int)) ∧ w'.cell? ⟨w.heap.size, 1, none⟩ = some (.int .u8 (d : Int)) ∧ w'.cell? ⟨w.heap.size, 2, none⟩ = some (.int .u8 (a : Int)) ∧ w'.cell? ⟨w.heap.size, 3, none⟩ = some (.int .u8 (b : Int)) ∧ w'.cell? ⟨w.heap.size, 4, none⟩ = some (.int .i32 imm))
    (first | go_keep | (simp [*]; done))
    ((first | (go_at_call 34; refine (cloisterref10_register.calls _ _ _ _ _ 68 _ _ (RefM.reg_eq _ _ _ _ _ _ (by omega) (by omega) (by omega))).mono ?_; rintro e y1 ⟨rfl, hy1⟩; rw [show RefM.R (d : Int) (a : Int) (b : Int) 68 = (d : Int) from rfl]; have ky1 := blk_keep hy1 H0.own; obtain ⟨ey1, gy1⟩ := blk_facts ky1) | (go_at_call 36; refine (dec_calls k hk20 (d : Int) (by omega) _).mono ?_; rintro e y2 ⟨rfl, hy2⟩; have ky2 := blk_keep hy2.below ky1; obtain ⟨ey2, gy2⟩ := blk_facts ky2)))
  go_wp2_with fail
  refine rounds_world (RTextW w w2.heap.size (n : Int) (d : Int) (a : Int) (b : Int) imm (Isa.nameOf n) 1 ic 51) (by first | exact (H0.below hy1).below hy2.below | exact (H0.drew.below hy1).below hy2.below) ?_
  clear p1 p2 p3 e0 g0 ky1 ey1 gy1 ky2 ey2 gy2 hy1 hy2
  intro v1 H1
  have p1 : ¬ (9223372036854775807 < (Isa.nameOf n).size + 1 + 1 + (Isa.num (d : Int)).size + 2) := by omega
  have p2 : ¬ (9223372036854775807 < (Isa.nameOf n).size + 1 + 1 + (Isa.num (d : Int)).size + 2 + 1) := by omega
  have p3 : ¬ (9223372036854775807 < (Isa.nameOf n).size + 1 + 1 + (Isa.num (d : Int)).size + 2 + 1 + (Isa.num (a : Int)).size) := by omega
  rw [rounds_succ]
  obtain ⟨e1, g1⟩ := blk_facts H1.own
  go_wp2_with fail
  go_region_held3 (fun w' => w'.cell? ⟨w.heap.size, 0, none⟩ = some (.int .i64 (n : Int)) ∧ w'.cell? ⟨w.heap.size, 1, none⟩ = some (.int .u8 (d : Int)) ∧ w'.cell? ⟨w.heap.size, 2, none⟩ = some (.int .u8 (a : Int)) ∧ w'.cell? ⟨w.heap.size, 3, none⟩ = some (.int .u8 (b : Int)) ∧ w'.cell? ⟨w.heap.size, 4, none⟩ = some (.int .i32 imm))
    (first | go_keep | (simp [*]; done))
    ((first | (go_at_call 34; refine (cloisterref10_register.calls _ _ _ _ _ 65 _ _ (RefM.reg_eq _ _ _ _ _ _ (by omega) (by omega) (by omega))).mono ?_; rintro e y1 ⟨rfl, hy1⟩; rw [show RefM.R (d : Int) (a : Int) (b : Int) 65 = (a : Int) from rfl]; have ky1 := blk_keep hy1 H1.own; obtain ⟨ey1, gy1⟩ := blk_facts ky1) | (go_at_call 36; refine (dec_calls k hk20 (a : Int) (by omega) _).mono ?_; rintro e y2 ⟨rfl, hy2⟩; have ky2 := blk_keep hy2.below ky1; obtain ⟨ey2, gy2⟩ := blk_facts ky2)))
  go_wp2_with fail
  refine rounds_world (RTextW w w2.heap.size (n : Int) (d : Int) (a : Int) (b : Int) imm (Isa.nameOf n) 1 ic 51) (by first | exact (H1.below hy1).below hy2.below | exact (H1.drew.below hy1).below hy2.below) ?_
  clear p1 p2 p3 e1 g1 ky1 ey1 gy1 ky2 ey2 gy2 hy1 hy2
  intro v2 H2
  have p1 : ¬ (9223372036854775807 < (Isa.nameOf n).size + 1 + 1 + (Isa.num (d : Int)).size + 2 + 1 + (Isa.num (a : Int)).size + 2) := by omega
  have p2 : ¬ (9223372036854775807 < (Isa.nameOf n).size + 1 + 1 + (Isa.num (d : Int)).size + 2 + 1 + (Isa.num (a : Int)).size + 2 + 1) := by omega
  have p3 : ¬ (9223372036854775807 < (Isa.nameOf n).size + 1 + 1 + (Isa.num (d : Int)).size + 2 + 1 + (Isa.num (a : Int)).size + 2 + 1 + (Isa.num (b : Int)).size) := by omega
  rw [rounds_succ]
  obtain ⟨e2, g2⟩ := blk_facts H2.own
  go_wp2_with fail
  go_region_held3 (fun w' => w'.cell? ⟨w.heap.size, 0, none⟩ = some (.int .i64 (n : Int)) ∧ w'.cell? ⟨w.heap.size, 1, none⟩ = some (.int .u8 (d : Int)) ∧ w'.cell? ⟨w.heap.size, 2, none⟩ = some (.int .u8 (a : Int)) ∧ w'.cell? ⟨w.heap.size, 3, none⟩ = some (.int .u8 (b : Int)) ∧ w'.cell? ⟨w.heap.size, 4, none⟩ = some (.int .i32 imm))
    (first | go_keep | (simp [*]; done))
    ((first | (go_at_call 34; refine (cloisterref10_register.calls _ _ _ _ _ 66 _ _ (RefM.reg_eq _ _ _ _ _ _ (by omega) (by omega) (by omega))).mono ?_; rintro e y1 ⟨rfl, hy1⟩; rw [show RefM.R (d : Int) (a : Int) (b : Int) 66 = (b : Int) from rfl]; have ky1 := blk_keep hy1 H2.own; obtain ⟨ey1, gy1⟩ := blk_facts ky1) | (go_at_call 36; refine (dec_calls k hk20 (b : Int) (by omega) _).mono ?_; rintro e y2 ⟨rfl, hy2⟩; have ky2 := blk_keep hy2.below ky1; obtain ⟨ey2, gy2⟩ := blk_facts ky2)))
  go_wp2_with fail
  refine rounds_world (RTextW w w2.heap.size (n : Int) (d : Int) (a : Int) (b : Int) imm (Isa.nameOf n) 1 ic 51) (by first | exact (H2.below hy1).below hy2.below | exact (H2.drew.below hy1).below hy2.below) ?_
  clear p1 p2 p3 e2 g2 ky1 ey1 gy1 ky2 ey2 gy2 hy1 hy2
  intro v3 H3
  rw [rounds_succ]
  have p1 : ¬ (9223372036854775807 < (Isa.nameOf n).size + 1 + 1 + (Isa.num (d : Int)).size + 2 + 1 + (Isa.num (a : Int)).size + 2 + 1 + (Isa.num (b : Int)).size + 2) := by omega
  have p2 : ¬ (9223372036854775807 < (Isa.nameOf n).size + 1 + 1 + (Isa.num (d : Int)).size + 2 + 1 + (Isa.num (a : Int)).size + 2 + 1 + (Isa.num (b : Int)).size + 2 + (Isa.num imm).size) := by omega
  have hk5 := (blk_facts H3.kind).1
  go_wp2_with fail
  go_ret
  exact ⟨rfl, H3.bel⟩
set_option maxHeartbeats 8000000 in
set_option maxRecDepth 100000 in
theorem rtext_2_0 (k : Nat) (hk : 60 ≤ k) (n : Nat) (h1 : 1 ≤ n) (h2 : n < 49) (hf : (Isa.formOf n : Int) = 2) (hs : RefM.shC (Isa.formOf n) (Isa.shapeOf n) = 105) (ic : Int) (hn : RefM.immC (Isa.numOf n) = ic) (hnu : (ic == 45) = false) (d a b : Nat) (imm x : Int)
    (hd : d ≤ 15) (ha : a ≤ 15) (hb : b ≤ 15) (him : -2147483648 ≤ imm ∧ imm ≤ 2147483647) (hE : Isa.enc (n : Int) (d : Int) (a : Int) (b : Int) imm = (x, 0)) (hnm : (Isa.nameOf n).size ≤ 16) (w : World) :
    Calls Tryd.prog 23 #[.agg #[.int .i64 (n : Int), .int .u8 (d : Int), .int .u8 (a : Int), .int .u8 (b : Int), .int .i32 imm]] w (Isa.TextPost ((((((((Isa.nameOf n ++ ⟨#[32]⟩) ++ ⟨#[114]⟩) ++ Isa.num (d : Int)) ++ ⟨#[44, 32]⟩) ++ ⟨#[114]⟩) ++ Isa.num (a : Int)) ++ ⟨#[44, 32]⟩) ++ Isa.num imm) w) := by
  have HC := Lib.hid (RefM.enc_eq k hk (n : Int) (d : Int) (a : Int) (b : Int) imm (by omega) (by omega) (by omega) him)
  have HO := Lib.hid (RefM.of_kind k (by omega) n h1 h2 2 105 ic hf hs hn)
  have si := Isa.num_size imm (by omega) (by omega)
  have sd := Isa.num_size (d : Int) (by omega) (by omega)
  have sa := Isa.num_size (a : Int) (by omega) (by omega)
  have sb := Isa.num_size (b : Int) (by omega) (by omega)
  have hk20 : 20 ≤ k := by omega
  have HE := Lib.hid hE
  clear hE hf hs hn
  go_enter Tryd.func23, Tryd.ntmps23
  go_wp2_with fail
  refine (cloisterref10_Encode.calls k _ _ _ _ _ x 0 _ (HC.out.trans (by rw [HE.out]))).mono ?_
  rintro e w1 ⟨rfl, hb1⟩
  have k1 := blk_keep hb1 (heap_alloc_new _ _)
  have HB1 := Lib.hid (below_next (below_alloc' (Below.refl _ _) _) hb1)
  obtain ⟨d1, f1⟩ := blk_facts k1
  go_wp2_with fail
  refine (cloisterref10_Of.calls k _ _ _ _ _ _ _ HO.out).mono ?_
  rintro e w2 ⟨rfl, hb2⟩
  have k2 := blk_keep hb2 k1
  have HB2 := Lib.hid (below_next HB1.out hb2)
  clear d1 f1
  obtain ⟨d2, f2⟩ := blk_facts k2
  have z2 := blk_size k2
  have z2k : ∀ k, w.heap.size < w2.heap.size + k := fun k => by omega
  go_wp2_with fail
  refine (cloisterref10_Fields.calls 2 _ _ _ (RefM.fields ⟨2, by decide⟩)).mono ?_
  rintro e w3' ⟨rfl, hd3⟩
  obtain ⟨w3, rfl⟩ : ∃ w3, w3' = w3 := ⟨_, rfl⟩
  have hb3 := hd3.below
  have k3 := blk_keep hb3 (blk_alloc _ k2)
  have x3 := blk_keep hb3 (heap_alloc_new _ _)
  have HB3 := Lib.hid (below_next (below_alloc' HB2.out _) hb3)
  clear d2 f2 hd3
  obtain ⟨d3, f3⟩ := blk_facts k3
  have dx := (blk_facts x3).1
  go_wp2_with fail
  refine (dec_calls k (by omega) imm him _).mono ?_
  rintro e w4' ⟨rfl, hd4⟩
  obtain ⟨w4, rfl⟩ : ∃ w4, w4' = w4 := ⟨_, rfl⟩
  have hb4 := hd4.below
  have k4 := blk_keep hb4 k3
  have x4 := blk_keep hb4 x3
  have HB4 := Lib.hid (below_next HB3.out hb4)
  clear d3 f3 dx hd4
  obtain ⟨d4, f4⟩ := blk_facts k4
  have dx := (blk_facts x4).1
  simp only [show RefM.letters 2 = ⟨#[68, 65]⟩ from rfl]
  go_wp2_with fail
  refine wp_loop_rounds 3 ?_
  refine rounds_world (RTextW w w2.heap.size (n : Int) (d : Int) (a : Int) (b : Int) imm (Isa.nameOf n) 2 ic 105) ⟨k4, x4, HB4.out⟩ ?_
  clear d4 f4 dx k4 x4 k3 x3 k2 k1 HB1 HB2 HB3 HB4
  intro v0 H0
  have p1 : ¬ (9223372036854775807 < (Isa.nameOf n).size + 1) := by omega
  have p2 : ¬ (9223372036854775807 < (Isa.nameOf n).size + 1 + 1) := by omega
  have p3 : ¬ (9223372036854775807 < (Isa.nameOf n).size + 1 + 1 + (Isa.num (d : Int)).size) := by omega
  rw [rounds_succ]
  obtain ⟨e0, g0⟩ := blk_facts H0.own
  go_wp2_with fail
  go_region_held3 (fun w' => w'.cell? ⟨w.heap.size, 0, none⟩ = some (.int .i64 (n : Int)) ∧ w'.cell? ⟨w.heap.size, 1, none⟩ = some (.int .u8 (d : Int)) ∧ w'.cell? ⟨w.heap.size, 2, none⟩ = some (.int .u8 (a : Int)) ∧ w'.cell? ⟨w.heap.size, 3, none⟩ = some (.int .u8 (b : Int)) ∧ w'.cell? ⟨w.heap.size, 4, none⟩ = some (.int .i32 imm))
    (first | go_keep | (simp [*]; done))
    ((first | (go_at_call 34; refine (cloisterref10_register.calls _ _ _ _ _ 68 _ _ (RefM.reg_eq _ _ _ _ _ _ (by omega) (by omega) (by omega))).mono ?_; rintro e y1 ⟨rfl, hy1⟩; rw [show RefM.R (d : Int) (a : Int) (b : Int) 68 = (d : Int) from rfl]; have ky1 := blk_keep hy1 H0.own; obtain ⟨ey1, gy1⟩ := blk_facts ky1) | (go_at_call 36; refine (dec_calls k hk20 (d : Int) (by omega) _).mono ?_; rintro e y2 ⟨rfl, hy2⟩; have ky2 := blk_keep hy2.below ky1; obtain ⟨ey2, gy2⟩ := blk_facts ky2)))
  go_wp2_with fail
  refine rounds_world (RTextW w w2.heap.size (n : Int) (d : Int) (a : Int) (b : Int) imm (Isa.nameOf n) 2 ic 105) (by first | exact (H0.below hy1).below hy2.below | exact (H0.drew.below hy1).below hy2.below) ?_
  clear p1 p2 p3 e0 g0 ky1 ey1 gy1 ky2 ey2 gy2 hy1 hy2
  intro v1 H1
  have p1 : ¬ (9223372036854775807 < (Isa.nameOf n).size + 1 + 1 + (Isa.num (d : Int)).size + 2) := by omega
  have p2 : ¬ (9223372036854775807 < (Isa.nameOf n).size + 1 + 1 + (Isa.num (d : Int)).size + 2 + 1) := by omega
  have p3 : ¬ (9223372036854775807 < (Isa.nameOf n).size + 1 + 1 + (Isa.num (d : Int)).size + 2 + 1 + (Isa.num (a : Int)).size) := by omega
  rw [rounds_succ]
  obtain ⟨e1, g1⟩ := blk_facts H1.own
  go_wp2_with fail
  go_region_held3 (fun w' => w'.cell? ⟨w.heap.size, 0, none⟩ = some (.int .i64 (n : Int)) ∧ w'.cell? ⟨w.heap.size, 1, none⟩ = some (.int .u8 (d : Int)) ∧ w'.cell? ⟨w.heap.size, 2, none⟩ = some (.int .u8 (a : Int)) ∧ w'.cell? ⟨w.heap.size, 3, none⟩ = some (.int .u8 (b : Int)) ∧ w'.cell? ⟨w.heap.size, 4, none⟩ = some (.int .i32 imm))
    (first | go_keep | (simp [*]; done))
    ((first | (go_at_call 34; refine (cloisterref10_register.calls _ _ _ _ _ 65 _ _ (RefM.reg_eq _ _ _ _ _ _ (by omega) (by omega) (by omega))).mono ?_; rintro e y1 ⟨rfl, hy1⟩; rw [show RefM.R (d : Int) (a : Int) (b : Int) 65 = (a : Int) from rfl]; have ky1 := blk_keep hy1 H1.own; obtain ⟨ey1, gy1⟩ := blk_facts ky1) | (go_at_call 36; refine (dec_calls k hk20 (a : Int) (by omega) _).mono ?_; rintro e y2 ⟨rfl, hy2⟩; have ky2 := blk_keep hy2.below ky1; obtain ⟨ey2, gy2⟩ := blk_facts ky2)))
  go_wp2_with fail
  refine rounds_world (RTextW w w2.heap.size (n : Int) (d : Int) (a : Int) (b : Int) imm (Isa.nameOf n) 2 ic 105) (by first | exact (H1.below hy1).below hy2.below | exact (H1.drew.below hy1).below hy2.below) ?_
  clear p1 p2 p3 e1 g1 ky1 ey1 gy1 ky2 ey2 gy2 hy1 hy2
  intro v2 H2
  rw [rounds_succ]
  have p1 : ¬ (9223372036854775807 < (Isa.nameOf n).size + 1 + 1 + (Isa.num (d : Int)).size + 2 + 1 + (Isa.num (a : Int)).size + 2) := by omega
  have p2 : ¬ (9223372036854775807 < (Isa.nameOf n).size + 1 + 1 + (Isa.num (d : Int)).size + 2 + 1 + (Isa.num (a : Int)).size + 2 + (Isa.num imm).size) := by omega
  have hk5 := (blk_facts H2.kind).1
  go_wp2_with fail
  go_ret
  exact ⟨rfl, H2.bel⟩
set_option maxHeartbeats 8000000 in
set_option maxRecDepth 100000 in
theorem rtext_2_1 (k : Nat) (hk : 60 ≤ k) (n : Nat) (h1 : 1 ≤ n) (h2 : n < 49) (hf : (Isa.formOf n : Int) = 2) (hs : RefM.shC (Isa.formOf n) (Isa.shapeOf n) = 109) (ic : Int) (hn : RefM.immC (Isa.numOf n) = ic) (hnu : (ic == 45) = false) (d a b : Nat) (imm x : Int)
    (hd : d ≤ 15) (ha : a ≤ 15) (hb : b ≤ 15) (him : -2147483648 ≤ imm ∧ imm ≤ 2147483647) (hE : Isa.enc (n : Int) (d : Int) (a : Int) (b : Int) imm = (x, 0)) (hnm : (Isa.nameOf n).size ≤ 16) (w : World) :
    Calls Tryd.prog 23 #[.agg #[.int .i64 (n : Int), .int .u8 (d : Int), .int .u8 (a : Int), .int .u8 (b : Int), .int .i32 imm]] w (Isa.TextPost (((((((Isa.nameOf n ++ ⟨#[32, 114]⟩) ++ Isa.num (d : Int)) ++ ⟨#[44, 32]⟩) ++ Isa.num imm) ++ ⟨#[40, 114]⟩) ++ Isa.num (a : Int)) ++ ⟨#[41]⟩) w) := by
  have HC := Lib.hid (RefM.enc_eq k hk (n : Int) (d : Int) (a : Int) (b : Int) imm (by omega) (by omega) (by omega) him)
  have HO := Lib.hid (RefM.of_kind k (by omega) n h1 h2 2 109 ic hf hs hn)
  have si := Isa.num_size imm (by omega) (by omega)
  have sd := Isa.num_size (d : Int) (by omega) (by omega)
  have sa := Isa.num_size (a : Int) (by omega) (by omega)
  have sb := Isa.num_size (b : Int) (by omega) (by omega)
  have hk20 : 20 ≤ k := by omega
  have HE := Lib.hid hE
  clear hE hf hs hn
  go_enter Tryd.func23, Tryd.ntmps23
  go_wp2_with fail
  refine (cloisterref10_Encode.calls k _ _ _ _ _ x 0 _ (HC.out.trans (by rw [HE.out]))).mono ?_
  rintro e w1 ⟨rfl, hb1⟩
  have k1 := blk_keep hb1 (heap_alloc_new _ _)
  have HB1 := Lib.hid (below_next (below_alloc' (Below.refl _ _) _) hb1)
  obtain ⟨d1, f1⟩ := blk_facts k1
  go_wp2_with fail
  refine (cloisterref10_Of.calls k _ _ _ _ _ _ _ HO.out).mono ?_
  rintro e w2 ⟨rfl, hb2⟩
  have k2 := blk_keep hb2 k1
  have HB2 := Lib.hid (below_next HB1.out hb2)
  clear d1 f1
  obtain ⟨d2, f2⟩ := blk_facts k2
  have z2 := blk_size k2
  have z2k : ∀ k, w.heap.size < w2.heap.size + k := fun k => by omega
  go_wp2_with fail
  refine (cloisterref10_Fields.calls 2 _ _ _ (RefM.fields ⟨2, by decide⟩)).mono ?_
  rintro e w3' ⟨rfl, hd3⟩
  obtain ⟨w3, rfl⟩ : ∃ w3, w3' = w3 := ⟨_, rfl⟩
  have hb3 := hd3.below
  have k3 := blk_keep hb3 (blk_alloc _ k2)
  have x3 := blk_keep hb3 (heap_alloc_new _ _)
  have HB3 := Lib.hid (below_next (below_alloc' HB2.out _) hb3)
  clear d2 f2 hd3
  obtain ⟨d3, f3⟩ := blk_facts k3
  have dx := (blk_facts x3).1
  go_wp2_with fail
  refine (dec_calls k (by omega) imm him _).mono ?_
  rintro e w4' ⟨rfl, hd4⟩
  obtain ⟨w4, rfl⟩ : ∃ w4, w4' = w4 := ⟨_, rfl⟩
  have hb4 := hd4.below
  have k4 := blk_keep hb4 k3
  have x4 := blk_keep hb4 x3
  have HB4 := Lib.hid (below_next HB3.out hb4)
  clear d3 f3 dx hd4
  obtain ⟨d4, f4⟩ := blk_facts k4
  have dx := (blk_facts x4).1
  simp only [show RefM.letters 2 = ⟨#[68, 65]⟩ from rfl]
  go_wp2_with fail
  go_quiet ((go_at_call 36; exact Calls.quiet_of (dec_q k hk20 _ (by omega) _)))
  go_wp2_with fail
  go_ret
  exact ⟨rfl, below_drewN' HB4.out _⟩
set_option maxHeartbeats 8000000 in
set_option maxRecDepth 100000 in
theorem rtext_3_0 (k : Nat) (hk : 60 ≤ k) (n : Nat) (h1 : 1 ≤ n) (h2 : n < 49) (hf : (Isa.formOf n : Int) = 3) (hs : RefM.shC (Isa.formOf n) (Isa.shapeOf n) = 105) (ic : Int) (hn : RefM.immC (Isa.numOf n) = ic) (hnu : (ic == 45) = false) (d a b : Nat) (imm x : Int)
    (hd : d ≤ 15) (ha : a ≤ 15) (hb : b ≤ 15) (him : -2147483648 ≤ imm ∧ imm ≤ 2147483647) (hE : Isa.enc (n : Int) (d : Int) (a : Int) (b : Int) imm = (x, 0)) (hnm : (Isa.nameOf n).size ≤ 16) (w : World) :
    Calls Tryd.prog 23 #[.agg #[.int .i64 (n : Int), .int .u8 (d : Int), .int .u8 (a : Int), .int .u8 (b : Int), .int .i32 imm]] w (Isa.TextPost ((((((((Isa.nameOf n ++ ⟨#[32]⟩) ++ ⟨#[114]⟩) ++ Isa.num (a : Int)) ++ ⟨#[44, 32]⟩) ++ ⟨#[114]⟩) ++ Isa.num (b : Int)) ++ ⟨#[44, 32]⟩) ++ Isa.num imm) w) := by
  have HC := Lib.hid (RefM.enc_eq k hk (n : Int) (d : Int) (a : Int) (b : Int) imm (by omega) (by omega) (by omega) him)
  have HO := Lib.hid (RefM.of_kind k (by omega) n h1 h2 3 105 ic hf hs hn)
  have si := Isa.num_size imm (by omega) (by omega)
  have sd := Isa.num_size (d : Int) (by omega) (by omega)
  have sa := Isa.num_size (a : Int) (by omega) (by omega)
  have sb := Isa.num_size (b : Int) (by omega) (by omega)
  have hk20 : 20 ≤ k := by omega
  have HE := Lib.hid hE
  clear hE hf hs hn
  go_enter Tryd.func23, Tryd.ntmps23
  go_wp2_with fail
  refine (cloisterref10_Encode.calls k _ _ _ _ _ x 0 _ (HC.out.trans (by rw [HE.out]))).mono ?_
  rintro e w1 ⟨rfl, hb1⟩
  have k1 := blk_keep hb1 (heap_alloc_new _ _)
  have HB1 := Lib.hid (below_next (below_alloc' (Below.refl _ _) _) hb1)
  obtain ⟨d1, f1⟩ := blk_facts k1
  go_wp2_with fail
  refine (cloisterref10_Of.calls k _ _ _ _ _ _ _ HO.out).mono ?_
  rintro e w2 ⟨rfl, hb2⟩
  have k2 := blk_keep hb2 k1
  have HB2 := Lib.hid (below_next HB1.out hb2)
  clear d1 f1
  obtain ⟨d2, f2⟩ := blk_facts k2
  have z2 := blk_size k2
  have z2k : ∀ k, w.heap.size < w2.heap.size + k := fun k => by omega
  go_wp2_with fail
  refine (cloisterref10_Fields.calls 3 _ _ _ (RefM.fields ⟨3, by decide⟩)).mono ?_
  rintro e w3' ⟨rfl, hd3⟩
  obtain ⟨w3, rfl⟩ : ∃ w3, w3' = w3 := ⟨_, rfl⟩
  have hb3 := hd3.below
  have k3 := blk_keep hb3 (blk_alloc _ k2)
  have x3 := blk_keep hb3 (heap_alloc_new _ _)
  have HB3 := Lib.hid (below_next (below_alloc' HB2.out _) hb3)
  clear d2 f2 hd3
  obtain ⟨d3, f3⟩ := blk_facts k3
  have dx := (blk_facts x3).1
  go_wp2_with fail
  refine (dec_calls k (by omega) imm him _).mono ?_
  rintro e w4' ⟨rfl, hd4⟩
  obtain ⟨w4, rfl⟩ : ∃ w4, w4' = w4 := ⟨_, rfl⟩
  have hb4 := hd4.below
  have k4 := blk_keep hb4 k3
  have x4 := blk_keep hb4 x3
  have HB4 := Lib.hid (below_next HB3.out hb4)
  clear d3 f3 dx hd4
  obtain ⟨d4, f4⟩ := blk_facts k4
  have dx := (blk_facts x4).1
  simp only [show RefM.letters 3 = ⟨#[65, 66]⟩ from rfl]
  go_wp2_with fail
  refine wp_loop_rounds 3 ?_
  refine rounds_world (RTextW w w2.heap.size (n : Int) (d : Int) (a : Int) (b : Int) imm (Isa.nameOf n) 3 ic 105) ⟨k4, x4, HB4.out⟩ ?_
  clear d4 f4 dx k4 x4 k3 x3 k2 k1 HB1 HB2 HB3 HB4
  intro v0 H0
  have p1 : ¬ (9223372036854775807 < (Isa.nameOf n).size + 1) := by omega
  have p2 : ¬ (9223372036854775807 < (Isa.nameOf n).size + 1 + 1) := by omega
  have p3 : ¬ (9223372036854775807 < (Isa.nameOf n).size + 1 + 1 + (Isa.num (a : Int)).size) := by omega
  rw [rounds_succ]
  obtain ⟨e0, g0⟩ := blk_facts H0.own
  go_wp2_with fail
  go_region_held3 (fun w' => w'.cell? ⟨w.heap.size, 0, none⟩ = some (.int .i64 (n : Int)) ∧ w'.cell? ⟨w.heap.size, 1, none⟩ = some (.int .u8 (d : Int)) ∧ w'.cell? ⟨w.heap.size, 2, none⟩ = some (.int .u8 (a : Int)) ∧ w'.cell? ⟨w.heap.size, 3, none⟩ = some (.int .u8 (b : Int)) ∧ w'.cell? ⟨w.heap.size, 4, none⟩ = some (.int .i32 imm))
    (first | go_keep | (simp [*]; done))
    ((first | (go_at_call 34; refine (cloisterref10_register.calls _ _ _ _ _ 65 _ _ (RefM.reg_eq _ _ _ _ _ _ (by omega) (by omega) (by omega))).mono ?_; rintro e y1 ⟨rfl, hy1⟩; rw [show RefM.R (d : Int) (a : Int) (b : Int) 65 = (a : Int) from rfl]; have ky1 := blk_keep hy1 H0.own; obtain ⟨ey1, gy1⟩ := blk_facts ky1) | (go_at_call 36; refine (dec_calls k hk20 (a : Int) (by omega) _).mono ?_; rintro e y2 ⟨rfl, hy2⟩; have ky2 := blk_keep hy2.below ky1; obtain ⟨ey2, gy2⟩ := blk_facts ky2)))
  go_wp2_with fail
  refine rounds_world (RTextW w w2.heap.size (n : Int) (d : Int) (a : Int) (b : Int) imm (Isa.nameOf n) 3 ic 105) (by first | exact (H0.below hy1).below hy2.below | exact (H0.drew.below hy1).below hy2.below) ?_
  clear p1 p2 p3 e0 g0 ky1 ey1 gy1 ky2 ey2 gy2 hy1 hy2
  intro v1 H1
  have p1 : ¬ (9223372036854775807 < (Isa.nameOf n).size + 1 + 1 + (Isa.num (a : Int)).size + 2) := by omega
  have p2 : ¬ (9223372036854775807 < (Isa.nameOf n).size + 1 + 1 + (Isa.num (a : Int)).size + 2 + 1) := by omega
  have p3 : ¬ (9223372036854775807 < (Isa.nameOf n).size + 1 + 1 + (Isa.num (a : Int)).size + 2 + 1 + (Isa.num (b : Int)).size) := by omega
  rw [rounds_succ]
  obtain ⟨e1, g1⟩ := blk_facts H1.own
  go_wp2_with fail
  go_region_held3 (fun w' => w'.cell? ⟨w.heap.size, 0, none⟩ = some (.int .i64 (n : Int)) ∧ w'.cell? ⟨w.heap.size, 1, none⟩ = some (.int .u8 (d : Int)) ∧ w'.cell? ⟨w.heap.size, 2, none⟩ = some (.int .u8 (a : Int)) ∧ w'.cell? ⟨w.heap.size, 3, none⟩ = some (.int .u8 (b : Int)) ∧ w'.cell? ⟨w.heap.size, 4, none⟩ = some (.int .i32 imm))
    (first | go_keep | (simp [*]; done))
    ((first | (go_at_call 34; refine (cloisterref10_register.calls _ _ _ _ _ 66 _ _ (RefM.reg_eq _ _ _ _ _ _ (by omega) (by omega) (by omega))).mono ?_; rintro e y1 ⟨rfl, hy1⟩; rw [show RefM.R (d : Int) (a : Int) (b : Int) 66 = (b : Int) from rfl]; have ky1 := blk_keep hy1 H1.own; obtain ⟨ey1, gy1⟩ := blk_facts ky1) | (go_at_call 36; refine (dec_calls k hk20 (b : Int) (by omega) _).mono ?_; rintro e y2 ⟨rfl, hy2⟩; have ky2 := blk_keep hy2.below ky1; obtain ⟨ey2, gy2⟩ := blk_facts ky2)))
  go_wp2_with fail
  refine rounds_world (RTextW w w2.heap.size (n : Int) (d : Int) (a : Int) (b : Int) imm (Isa.nameOf n) 3 ic 105) (by first | exact (H1.below hy1).below hy2.below | exact (H1.drew.below hy1).below hy2.below) ?_
  clear p1 p2 p3 e1 g1 ky1 ey1 gy1 ky2 ey2 gy2 hy1 hy2
  intro v2 H2
  rw [rounds_succ]
  have p1 : ¬ (9223372036854775807 < (Isa.nameOf n).size + 1 + 1 + (Isa.num (a : Int)).size + 2 + 1 + (Isa.num (b : Int)).size + 2) := by omega
  have p2 : ¬ (9223372036854775807 < (Isa.nameOf n).size + 1 + 1 + (Isa.num (a : Int)).size + 2 + 1 + (Isa.num (b : Int)).size + 2 + (Isa.num imm).size) := by omega
  have hk5 := (blk_facts H2.kind).1
  go_wp2_with fail
  go_ret
  exact ⟨rfl, H2.bel⟩
end Go.Proofs.YtedjkbekhhffeaaDoor
namespace Go.Proofs.YtedjkbekhhffeaaDoor
open Go.RowKit Go.Proofs.YtedjkbekhhffeaaDoorW.PrintWords PIsaMakes
set_option linter.unusedSimpArgs false
set_option linter.unusedVariables false
set_option maxHeartbeats 8000000 in
set_option maxRecDepth 100000 in
theorem rtext_3_1 (k : Nat) (hk : 60 ≤ k) (n : Nat) (h1 : 1 ≤ n) (h2 : n < 49) (hf : (Isa.formOf n : Int) = 3) (hs : RefM.shC (Isa.formOf n) (Isa.shapeOf n) = 109) (ic : Int) (hn : RefM.immC (Isa.numOf n) = ic) (hnu : (ic == 45) = false) (d a b : Nat) (imm x : Int)
    (hd : d ≤ 15) (ha : a ≤ 15) (hb : b ≤ 15) (him : -2147483648 ≤ imm ∧ imm ≤ 2147483647) (hE : Isa.enc (n : Int) (d : Int) (a : Int) (b : Int) imm = (x, 0)) (hnm : (Isa.nameOf n).size ≤ 16) (w : World) :
    Calls Tryd.prog 23 #[.agg #[.int .i64 (n : Int), .int .u8 (d : Int), .int .u8 (a : Int), .int .u8 (b : Int), .int .i32 imm]] w (Isa.TextPost (((((((Isa.nameOf n ++ ⟨#[32, 114]⟩) ++ Isa.num (b : Int)) ++ ⟨#[44, 32]⟩) ++ Isa.num imm) ++ ⟨#[40, 114]⟩) ++ Isa.num (a : Int)) ++ ⟨#[41]⟩) w) := by
  have HC := Lib.hid (RefM.enc_eq k hk (n : Int) (d : Int) (a : Int) (b : Int) imm (by omega) (by omega) (by omega) him)
  have HO := Lib.hid (RefM.of_kind k (by omega) n h1 h2 3 109 ic hf hs hn)
  have si := Isa.num_size imm (by omega) (by omega)
  have sd := Isa.num_size (d : Int) (by omega) (by omega)
  have sa := Isa.num_size (a : Int) (by omega) (by omega)
  have sb := Isa.num_size (b : Int) (by omega) (by omega)
  have hk20 : 20 ≤ k := by omega
  have HE := Lib.hid hE
  clear hE hf hs hn
  go_enter Tryd.func23, Tryd.ntmps23
  go_wp2_with fail
  refine (cloisterref10_Encode.calls k _ _ _ _ _ x 0 _ (HC.out.trans (by rw [HE.out]))).mono ?_
  rintro e w1 ⟨rfl, hb1⟩
  have k1 := blk_keep hb1 (heap_alloc_new _ _)
  have HB1 := Lib.hid (below_next (below_alloc' (Below.refl _ _) _) hb1)
  obtain ⟨d1, f1⟩ := blk_facts k1
  go_wp2_with fail
  refine (cloisterref10_Of.calls k _ _ _ _ _ _ _ HO.out).mono ?_
  rintro e w2 ⟨rfl, hb2⟩
  have k2 := blk_keep hb2 k1
  have HB2 := Lib.hid (below_next HB1.out hb2)
  clear d1 f1
  obtain ⟨d2, f2⟩ := blk_facts k2
  have z2 := blk_size k2
  have z2k : ∀ k, w.heap.size < w2.heap.size + k := fun k => by omega
  go_wp2_with fail
  refine (cloisterref10_Fields.calls 3 _ _ _ (RefM.fields ⟨3, by decide⟩)).mono ?_
  rintro e w3' ⟨rfl, hd3⟩
  obtain ⟨w3, rfl⟩ : ∃ w3, w3' = w3 := ⟨_, rfl⟩
  have hb3 := hd3.below
  have k3 := blk_keep hb3 (blk_alloc _ k2)
  have x3 := blk_keep hb3 (heap_alloc_new _ _)
  have HB3 := Lib.hid (below_next (below_alloc' HB2.out _) hb3)
  clear d2 f2 hd3
  obtain ⟨d3, f3⟩ := blk_facts k3
  have dx := (blk_facts x3).1
  go_wp2_with fail
  refine (dec_calls k (by omega) imm him _).mono ?_
  rintro e w4' ⟨rfl, hd4⟩
  obtain ⟨w4, rfl⟩ : ∃ w4, w4' = w4 := ⟨_, rfl⟩
  have hb4 := hd4.below
  have k4 := blk_keep hb4 k3
  have x4 := blk_keep hb4 x3
  have HB4 := Lib.hid (below_next HB3.out hb4)
  clear d3 f3 dx hd4
  obtain ⟨d4, f4⟩ := blk_facts k4
  have dx := (blk_facts x4).1
  simp only [show RefM.letters 3 = ⟨#[65, 66]⟩ from rfl]
  go_wp2_with fail
  go_quiet ((go_at_call 36; exact Calls.quiet_of (dec_q k hk20 _ (by omega) _)))
  go_wp2_with fail
  go_ret
  exact ⟨rfl, below_drewN' HB4.out _⟩
set_option maxHeartbeats 8000000 in
set_option maxRecDepth 100000 in
theorem rtext_4_0 (k : Nat) (hk : 60 ≤ k) (n : Nat) (h1 : 1 ≤ n) (h2 : n < 49) (hf : (Isa.formOf n : Int) = 4) (hs : RefM.shC (Isa.formOf n) (Isa.shapeOf n) = 105) (ic : Int) (hn : RefM.immC (Isa.numOf n) = ic) (hnu : (ic == 45) = false) (d a b : Nat) (imm x : Int)
    (hd : d ≤ 15) (ha : a ≤ 15) (hb : b ≤ 15) (him : -2147483648 ≤ imm ∧ imm ≤ 2147483647) (hE : Isa.enc (n : Int) (d : Int) (a : Int) (b : Int) imm = (x, 0)) (hnm : (Isa.nameOf n).size ≤ 16) (w : World) :
    Calls Tryd.prog 23 #[.agg #[.int .i64 (n : Int), .int .u8 (d : Int), .int .u8 (a : Int), .int .u8 (b : Int), .int .i32 imm]] w (Isa.TextPost (((((Isa.nameOf n ++ ⟨#[32]⟩) ++ ⟨#[114]⟩) ++ Isa.num (d : Int)) ++ ⟨#[44, 32]⟩) ++ Isa.num imm) w) := by
  have HC := Lib.hid (RefM.enc_eq k hk (n : Int) (d : Int) (a : Int) (b : Int) imm (by omega) (by omega) (by omega) him)
  have HO := Lib.hid (RefM.of_kind k (by omega) n h1 h2 4 105 ic hf hs hn)
  have si := Isa.num_size imm (by omega) (by omega)
  have sd := Isa.num_size (d : Int) (by omega) (by omega)
  have sa := Isa.num_size (a : Int) (by omega) (by omega)
  have sb := Isa.num_size (b : Int) (by omega) (by omega)
  have hk20 : 20 ≤ k := by omega
  have HE := Lib.hid hE
  clear hE hf hs hn
  go_enter Tryd.func23, Tryd.ntmps23
  go_wp2_with fail
  refine (cloisterref10_Encode.calls k _ _ _ _ _ x 0 _ (HC.out.trans (by rw [HE.out]))).mono ?_
  rintro e w1 ⟨rfl, hb1⟩
  have k1 := blk_keep hb1 (heap_alloc_new _ _)
  have HB1 := Lib.hid (below_next (below_alloc' (Below.refl _ _) _) hb1)
  obtain ⟨d1, f1⟩ := blk_facts k1
  go_wp2_with fail
  refine (cloisterref10_Of.calls k _ _ _ _ _ _ _ HO.out).mono ?_
  rintro e w2 ⟨rfl, hb2⟩
  have k2 := blk_keep hb2 k1
  have HB2 := Lib.hid (below_next HB1.out hb2)
  clear d1 f1
  obtain ⟨d2, f2⟩ := blk_facts k2
  have z2 := blk_size k2
  have z2k : ∀ k, w.heap.size < w2.heap.size + k := fun k => by omega
  go_wp2_with fail
  refine (cloisterref10_Fields.calls 4 _ _ _ (RefM.fields ⟨4, by decide⟩)).mono ?_
  rintro e w3' ⟨rfl, hd3⟩
  obtain ⟨w3, rfl⟩ : ∃ w3, w3' = w3 := ⟨_, rfl⟩
  have hb3 := hd3.below
  have k3 := blk_keep hb3 (blk_alloc _ k2)
  have x3 := blk_keep hb3 (heap_alloc_new _ _)
  have HB3 := Lib.hid (below_next (below_alloc' HB2.out _) hb3)
  clear d2 f2 hd3
  obtain ⟨d3, f3⟩ := blk_facts k3
  have dx := (blk_facts x3).1
  go_wp2_with fail
  refine (dec_calls k (by omega) imm him _).mono ?_
  rintro e w4' ⟨rfl, hd4⟩
  obtain ⟨w4, rfl⟩ : ∃ w4, w4' = w4 := ⟨_, rfl⟩
  have hb4 := hd4.below
  have k4 := blk_keep hb4 k3
  have x4 := blk_keep hb4 x3
  have HB4 := Lib.hid (below_next HB3.out hb4)
  clear d3 f3 dx hd4
  obtain ⟨d4, f4⟩ := blk_facts k4
  have dx := (blk_facts x4).1
  simp only [show RefM.letters 4 = ⟨#[68]⟩ from rfl]
  go_wp2_with fail
  refine wp_loop_rounds 2 ?_
  refine rounds_world (RTextW w w2.heap.size (n : Int) (d : Int) (a : Int) (b : Int) imm (Isa.nameOf n) 4 ic 105) ⟨k4, x4, HB4.out⟩ ?_
  clear d4 f4 dx k4 x4 k3 x3 k2 k1 HB1 HB2 HB3 HB4
  intro v0 H0
  have p1 : ¬ (9223372036854775807 < (Isa.nameOf n).size + 1) := by omega
  have p2 : ¬ (9223372036854775807 < (Isa.nameOf n).size + 1 + 1) := by omega
  have p3 : ¬ (9223372036854775807 < (Isa.nameOf n).size + 1 + 1 + (Isa.num (d : Int)).size) := by omega
  rw [rounds_succ]
  obtain ⟨e0, g0⟩ := blk_facts H0.own
  go_wp2_with fail
  go_region_held3 (fun w' => w'.cell? ⟨w.heap.size, 0, none⟩ = some (.int .i64 (n : Int)) ∧ w'.cell? ⟨w.heap.size, 1, none⟩ = some (.int .u8 (d : Int)) ∧ w'.cell? ⟨w.heap.size, 2, none⟩ = some (.int .u8 (a : Int)) ∧ w'.cell? ⟨w.heap.size, 3, none⟩ = some (.int .u8 (b : Int)) ∧ w'.cell? ⟨w.heap.size, 4, none⟩ = some (.int .i32 imm))
    (first | go_keep | (simp [*]; done))
    ((first | (go_at_call 34; refine (cloisterref10_register.calls _ _ _ _ _ 68 _ _ (RefM.reg_eq _ _ _ _ _ _ (by omega) (by omega) (by omega))).mono ?_; rintro e y1 ⟨rfl, hy1⟩; rw [show RefM.R (d : Int) (a : Int) (b : Int) 68 = (d : Int) from rfl]; have ky1 := blk_keep hy1 H0.own; obtain ⟨ey1, gy1⟩ := blk_facts ky1) | (go_at_call 36; refine (dec_calls k hk20 (d : Int) (by omega) _).mono ?_; rintro e y2 ⟨rfl, hy2⟩; have ky2 := blk_keep hy2.below ky1; obtain ⟨ey2, gy2⟩ := blk_facts ky2)))
  go_wp2_with fail
  refine rounds_world (RTextW w w2.heap.size (n : Int) (d : Int) (a : Int) (b : Int) imm (Isa.nameOf n) 4 ic 105) (by first | exact (H0.below hy1).below hy2.below | exact (H0.drew.below hy1).below hy2.below) ?_
  clear p1 p2 p3 e0 g0 ky1 ey1 gy1 ky2 ey2 gy2 hy1 hy2
  intro v1 H1
  rw [rounds_succ]
  have p1 : ¬ (9223372036854775807 < (Isa.nameOf n).size + 1 + 1 + (Isa.num (d : Int)).size + 2) := by omega
  have p2 : ¬ (9223372036854775807 < (Isa.nameOf n).size + 1 + 1 + (Isa.num (d : Int)).size + 2 + (Isa.num imm).size) := by omega
  have hk5 := (blk_facts H1.kind).1
  go_wp2_with fail
  go_ret
  exact ⟨rfl, H1.bel⟩
set_option maxHeartbeats 8000000 in
set_option maxRecDepth 100000 in
theorem rtext_5_0 (k : Nat) (hk : 60 ≤ k) (n : Nat) (h1 : 1 ≤ n) (h2 : n < 49) (hf : (Isa.formOf n : Int) = 5) (hs : RefM.shC (Isa.formOf n) (Isa.shapeOf n) = 49) (ic : Int) (hn : RefM.immC (Isa.numOf n) = ic) (hnu : (ic == 45) = true) (d a b : Nat) (imm x : Int)
    (hd : d ≤ 15) (ha : a ≤ 15) (hb : b ≤ 15) (him : -2147483648 ≤ imm ∧ imm ≤ 2147483647) (hE : Isa.enc (n : Int) (d : Int) (a : Int) (b : Int) imm = (x, 0)) (hnm : (Isa.nameOf n).size ≤ 16) (w : World) :
    Calls Tryd.prog 23 #[.agg #[.int .i64 (n : Int), .int .u8 (d : Int), .int .u8 (a : Int), .int .u8 (b : Int), .int .i32 imm]] w (Isa.TextPost (((Isa.nameOf n ++ ⟨#[32]⟩) ++ ⟨#[114]⟩) ++ Isa.num (d : Int)) w) := by
  have HC := Lib.hid (RefM.enc_eq k hk (n : Int) (d : Int) (a : Int) (b : Int) imm (by omega) (by omega) (by omega) him)
  have HO := Lib.hid (RefM.of_kind k (by omega) n h1 h2 5 49 ic hf hs hn)
  have si := Isa.num_size imm (by omega) (by omega)
  have sd := Isa.num_size (d : Int) (by omega) (by omega)
  have sa := Isa.num_size (a : Int) (by omega) (by omega)
  have sb := Isa.num_size (b : Int) (by omega) (by omega)
  have hk20 : 20 ≤ k := by omega
  have HE := Lib.hid hE
  clear hE hf hs hn
  go_enter Tryd.func23, Tryd.ntmps23
  go_wp2_with fail
  refine (cloisterref10_Encode.calls k _ _ _ _ _ x 0 _ (HC.out.trans (by rw [HE.out]))).mono ?_
  rintro e w1 ⟨rfl, hb1⟩
  have k1 := blk_keep hb1 (heap_alloc_new _ _)
  have HB1 := Lib.hid (below_next (below_alloc' (Below.refl _ _) _) hb1)
  obtain ⟨d1, f1⟩ := blk_facts k1
  go_wp2_with fail
  refine (cloisterref10_Of.calls k _ _ _ _ _ _ _ HO.out).mono ?_
  rintro e w2 ⟨rfl, hb2⟩
  have k2 := blk_keep hb2 k1
  have HB2 := Lib.hid (below_next HB1.out hb2)
  clear d1 f1
  obtain ⟨d2, f2⟩ := blk_facts k2
  have z2 := blk_size k2
  have z2k : ∀ k, w.heap.size < w2.heap.size + k := fun k => by omega
  go_wp2_with fail
  refine (cloisterref10_Fields.calls 5 _ _ _ (RefM.fields ⟨5, by decide⟩)).mono ?_
  rintro e w3' ⟨rfl, hd3⟩
  obtain ⟨w3, rfl⟩ : ∃ w3, w3' = w3 := ⟨_, rfl⟩
  have hb3 := hd3.below
  have k3 := blk_keep hb3 (blk_alloc _ k2)
  have x3 := blk_keep hb3 (heap_alloc_new _ _)
  have HB3 := Lib.hid (below_next (below_alloc' HB2.out _) hb3)
  clear d2 f2 hd3
  obtain ⟨d3, f3⟩ := blk_facts k3
  have dx := (blk_facts x3).1
  go_wp2_with fail
  refine (dec_calls k (by omega) imm him _).mono ?_
  rintro e w4' ⟨rfl, hd4⟩
  obtain ⟨w4, rfl⟩ : ∃ w4, w4' = w4 := ⟨_, rfl⟩
  have hb4 := hd4.below
  have k4 := blk_keep hb4 k3
  have x4 := blk_keep hb4 x3
  have HB4 := Lib.hid (below_next HB3.out hb4)
  clear d3 f3 dx hd4
  obtain ⟨d4, f4⟩ := blk_facts k4
  have dx := (blk_facts x4).1
  simp only [show RefM.letters 5 = ⟨#[68]⟩ from rfl]
  go_wp2_with fail
  refine wp_loop_rounds 2 ?_
  refine rounds_world (RTextW w w2.heap.size (n : Int) (d : Int) (a : Int) (b : Int) imm (Isa.nameOf n) 5 ic 49) ⟨k4, x4, HB4.out⟩ ?_
  clear d4 f4 dx k4 x4 k3 x3 k2 k1 HB1 HB2 HB3 HB4
  intro v0 H0
  have p1 : ¬ (9223372036854775807 < (Isa.nameOf n).size + 1) := by omega
  have p2 : ¬ (9223372036854775807 < (Isa.nameOf n).size + 1 + 1) := by omega
  have p3 : ¬ (9223372036854775807 < (Isa.nameOf n).size + 1 + 1 + (Isa.num (d : Int)).size) := by omega
  rw [rounds_succ]
  obtain ⟨e0, g0⟩ := blk_facts H0.own
  go_wp2_with fail
  go_region_held3 (fun w' => w'.cell? ⟨w.heap.size, 0, none⟩ = some (.int .i64 (n : Int)) ∧ w'.cell? ⟨w.heap.size, 1, none⟩ = some (.int .u8 (d : Int)) ∧ w'.cell? ⟨w.heap.size, 2, none⟩ = some (.int .u8 (a : Int)) ∧ w'.cell? ⟨w.heap.size, 3, none⟩ = some (.int .u8 (b : Int)) ∧ w'.cell? ⟨w.heap.size, 4, none⟩ = some (.int .i32 imm))
    (first | go_keep | (simp [*]; done))
    ((first | (go_at_call 34; refine (cloisterref10_register.calls _ _ _ _ _ 68 _ _ (RefM.reg_eq _ _ _ _ _ _ (by omega) (by omega) (by omega))).mono ?_; rintro e y1 ⟨rfl, hy1⟩; rw [show RefM.R (d : Int) (a : Int) (b : Int) 68 = (d : Int) from rfl]; have ky1 := blk_keep hy1 H0.own; obtain ⟨ey1, gy1⟩ := blk_facts ky1) | (go_at_call 36; refine (dec_calls k hk20 (d : Int) (by omega) _).mono ?_; rintro e y2 ⟨rfl, hy2⟩; have ky2 := blk_keep hy2.below ky1; obtain ⟨ey2, gy2⟩ := blk_facts ky2)))
  go_wp2_with fail
  refine rounds_world (RTextW w w2.heap.size (n : Int) (d : Int) (a : Int) (b : Int) imm (Isa.nameOf n) 5 ic 49) (by first | exact (H0.below hy1).below hy2.below | exact (H0.drew.below hy1).below hy2.below) ?_
  clear p1 p2 p3 e0 g0 ky1 ey1 gy1 ky2 ey2 gy2 hy1 hy2
  intro v1 H1
  rw [rounds_succ]
  have p1 : ¬ (9223372036854775807 < (Isa.nameOf n).size + 1 + 1 + (Isa.num (d : Int)).size + 2) := by omega
  have p2 : ¬ (9223372036854775807 < (Isa.nameOf n).size + 1 + 1 + (Isa.num (d : Int)).size + 2 + (Isa.num imm).size) := by omega
  have hk5 := (blk_facts H1.kind).1
  go_wp2_with fail
  go_ret
  exact ⟨rfl, H1.bel⟩
set_option maxHeartbeats 8000000 in
set_option maxRecDepth 100000 in
theorem rtext_6_0 (k : Nat) (hk : 60 ≤ k) (n : Nat) (h1 : 1 ≤ n) (h2 : n < 49) (hf : (Isa.formOf n : Int) = 6) (hs : RefM.shC (Isa.formOf n) (Isa.shapeOf n) = 49) (ic : Int) (hn : RefM.immC (Isa.numOf n) = ic) (hnu : (ic == 45) = true) (d a b : Nat) (imm x : Int)
    (hd : d ≤ 15) (ha : a ≤ 15) (hb : b ≤ 15) (him : -2147483648 ≤ imm ∧ imm ≤ 2147483647) (hE : Isa.enc (n : Int) (d : Int) (a : Int) (b : Int) imm = (x, 0)) (hnm : (Isa.nameOf n).size ≤ 16) (w : World) :
    Calls Tryd.prog 23 #[.agg #[.int .i64 (n : Int), .int .u8 (d : Int), .int .u8 (a : Int), .int .u8 (b : Int), .int .i32 imm]] w (Isa.TextPost (((Isa.nameOf n ++ ⟨#[32]⟩) ++ ⟨#[114]⟩) ++ Isa.num (a : Int)) w) := by
  have HC := Lib.hid (RefM.enc_eq k hk (n : Int) (d : Int) (a : Int) (b : Int) imm (by omega) (by omega) (by omega) him)
  have HO := Lib.hid (RefM.of_kind k (by omega) n h1 h2 6 49 ic hf hs hn)
  have si := Isa.num_size imm (by omega) (by omega)
  have sd := Isa.num_size (d : Int) (by omega) (by omega)
  have sa := Isa.num_size (a : Int) (by omega) (by omega)
  have sb := Isa.num_size (b : Int) (by omega) (by omega)
  have hk20 : 20 ≤ k := by omega
  have HE := Lib.hid hE
  clear hE hf hs hn
  go_enter Tryd.func23, Tryd.ntmps23
  go_wp2_with fail
  refine (cloisterref10_Encode.calls k _ _ _ _ _ x 0 _ (HC.out.trans (by rw [HE.out]))).mono ?_
  rintro e w1 ⟨rfl, hb1⟩
  have k1 := blk_keep hb1 (heap_alloc_new _ _)
  have HB1 := Lib.hid (below_next (below_alloc' (Below.refl _ _) _) hb1)
  obtain ⟨d1, f1⟩ := blk_facts k1
  go_wp2_with fail
  refine (cloisterref10_Of.calls k _ _ _ _ _ _ _ HO.out).mono ?_
  rintro e w2 ⟨rfl, hb2⟩
  have k2 := blk_keep hb2 k1
  have HB2 := Lib.hid (below_next HB1.out hb2)
  clear d1 f1
  obtain ⟨d2, f2⟩ := blk_facts k2
  have z2 := blk_size k2
  have z2k : ∀ k, w.heap.size < w2.heap.size + k := fun k => by omega
  go_wp2_with fail
  refine (cloisterref10_Fields.calls 6 _ _ _ (RefM.fields ⟨6, by decide⟩)).mono ?_
  rintro e w3' ⟨rfl, hd3⟩
  obtain ⟨w3, rfl⟩ : ∃ w3, w3' = w3 := ⟨_, rfl⟩
  have hb3 := hd3.below
  have k3 := blk_keep hb3 (blk_alloc _ k2)
  have x3 := blk_keep hb3 (heap_alloc_new _ _)
  have HB3 := Lib.hid (below_next (below_alloc' HB2.out _) hb3)
  clear d2 f2 hd3
  obtain ⟨d3, f3⟩ := blk_facts k3
  have dx := (blk_facts x3).1
  go_wp2_with fail
  refine (dec_calls k (by omega) imm him _).mono ?_
  rintro e w4' ⟨rfl, hd4⟩
  obtain ⟨w4, rfl⟩ : ∃ w4, w4' = w4 := ⟨_, rfl⟩
  have hb4 := hd4.below
  have k4 := blk_keep hb4 k3
  have x4 := blk_keep hb4 x3
  have HB4 := Lib.hid (below_next HB3.out hb4)
  clear d3 f3 dx hd4
  obtain ⟨d4, f4⟩ := blk_facts k4
  have dx := (blk_facts x4).1
  simp only [show RefM.letters 6 = ⟨#[65]⟩ from rfl]
  go_wp2_with fail
  refine wp_loop_rounds 2 ?_
  refine rounds_world (RTextW w w2.heap.size (n : Int) (d : Int) (a : Int) (b : Int) imm (Isa.nameOf n) 6 ic 49) ⟨k4, x4, HB4.out⟩ ?_
  clear d4 f4 dx k4 x4 k3 x3 k2 k1 HB1 HB2 HB3 HB4
  intro v0 H0
  have p1 : ¬ (9223372036854775807 < (Isa.nameOf n).size + 1) := by omega
  have p2 : ¬ (9223372036854775807 < (Isa.nameOf n).size + 1 + 1) := by omega
  have p3 : ¬ (9223372036854775807 < (Isa.nameOf n).size + 1 + 1 + (Isa.num (a : Int)).size) := by omega
  rw [rounds_succ]
  obtain ⟨e0, g0⟩ := blk_facts H0.own
  go_wp2_with fail
  go_region_held3 (fun w' => w'.cell? ⟨w.heap.size, 0, none⟩ = some (.int .i64 (n : Int)) ∧ w'.cell? ⟨w.heap.size, 1, none⟩ = some (.int .u8 (d : Int)) ∧ w'.cell? ⟨w.heap.size, 2, none⟩ = some (.int .u8 (a : Int)) ∧ w'.cell? ⟨w.heap.size, 3, none⟩ = some (.int .u8 (b : Int)) ∧ w'.cell? ⟨w.heap.size, 4, none⟩ = some (.int .i32 imm))
    (first | go_keep | (simp [*]; done))
    ((first | (go_at_call 34; refine (cloisterref10_register.calls _ _ _ _ _ 65 _ _ (RefM.reg_eq _ _ _ _ _ _ (by omega) (by omega) (by omega))).mono ?_; rintro e y1 ⟨rfl, hy1⟩; rw [show RefM.R (d : Int) (a : Int) (b : Int) 65 = (a : Int) from rfl]; have ky1 := blk_keep hy1 H0.own; obtain ⟨ey1, gy1⟩ := blk_facts ky1) | (go_at_call 36; refine (dec_calls k hk20 (a : Int) (by omega) _).mono ?_; rintro e y2 ⟨rfl, hy2⟩; have ky2 := blk_keep hy2.below ky1; obtain ⟨ey2, gy2⟩ := blk_facts ky2)))
  go_wp2_with fail
  refine rounds_world (RTextW w w2.heap.size (n : Int) (d : Int) (a : Int) (b : Int) imm (Isa.nameOf n) 6 ic 49) (by first | exact (H0.below hy1).below hy2.below | exact (H0.drew.below hy1).below hy2.below) ?_
  clear p1 p2 p3 e0 g0 ky1 ey1 gy1 ky2 ey2 gy2 hy1 hy2
  intro v1 H1
  rw [rounds_succ]
  have p1 : ¬ (9223372036854775807 < (Isa.nameOf n).size + 1 + 1 + (Isa.num (a : Int)).size + 2) := by omega
  have p2 : ¬ (9223372036854775807 < (Isa.nameOf n).size + 1 + 1 + (Isa.num (a : Int)).size + 2 + (Isa.num imm).size) := by omega
  have hk5 := (blk_facts H1.kind).1
  go_wp2_with fail
  go_ret
  exact ⟨rfl, H1.bel⟩
set_option maxHeartbeats 8000000 in
set_option maxRecDepth 100000 in
theorem rtext_7_0 (k : Nat) (hk : 60 ≤ k) (n : Nat) (h1 : 1 ≤ n) (h2 : n < 49) (hf : (Isa.formOf n : Int) = 7) (hs : RefM.shC (Isa.formOf n) (Isa.shapeOf n) = 106) (ic : Int) (hn : RefM.immC (Isa.numOf n) = ic) (hnu : (ic == 45) = false) (d a b : Nat) (imm x : Int)
    (hd : d ≤ 15) (ha : a ≤ 15) (hb : b ≤ 15) (him : -2147483648 ≤ imm ∧ imm ≤ 2147483647) (hE : Isa.enc (n : Int) (d : Int) (a : Int) (b : Int) imm = (x, 0)) (hnm : (Isa.nameOf n).size ≤ 16) (w : World) :
    Calls Tryd.prog 23 #[.agg #[.int .i64 (n : Int), .int .u8 (d : Int), .int .u8 (a : Int), .int .u8 (b : Int), .int .i32 imm]] w (Isa.TextPost ((Isa.nameOf n ++ ⟨#[32]⟩) ++ Isa.num imm) w) := by
  have HC := Lib.hid (RefM.enc_eq k hk (n : Int) (d : Int) (a : Int) (b : Int) imm (by omega) (by omega) (by omega) him)
  have HO := Lib.hid (RefM.of_kind k (by omega) n h1 h2 7 106 ic hf hs hn)
  have si := Isa.num_size imm (by omega) (by omega)
  have sd := Isa.num_size (d : Int) (by omega) (by omega)
  have sa := Isa.num_size (a : Int) (by omega) (by omega)
  have sb := Isa.num_size (b : Int) (by omega) (by omega)
  have hk20 : 20 ≤ k := by omega
  have HE := Lib.hid hE
  clear hE hf hs hn
  go_enter Tryd.func23, Tryd.ntmps23
  go_wp2_with fail
  refine (cloisterref10_Encode.calls k _ _ _ _ _ x 0 _ (HC.out.trans (by rw [HE.out]))).mono ?_
  rintro e w1 ⟨rfl, hb1⟩
  have k1 := blk_keep hb1 (heap_alloc_new _ _)
  have HB1 := Lib.hid (below_next (below_alloc' (Below.refl _ _) _) hb1)
  obtain ⟨d1, f1⟩ := blk_facts k1
  go_wp2_with fail
  refine (cloisterref10_Of.calls k _ _ _ _ _ _ _ HO.out).mono ?_
  rintro e w2 ⟨rfl, hb2⟩
  have k2 := blk_keep hb2 k1
  have HB2 := Lib.hid (below_next HB1.out hb2)
  clear d1 f1
  obtain ⟨d2, f2⟩ := blk_facts k2
  have z2 := blk_size k2
  have z2k : ∀ k, w.heap.size < w2.heap.size + k := fun k => by omega
  go_wp2_with fail
  refine (cloisterref10_Fields.calls 7 _ _ _ (RefM.fields ⟨7, by decide⟩)).mono ?_
  rintro e w3' ⟨rfl, hd3⟩
  obtain ⟨w3, rfl⟩ : ∃ w3, w3' = w3 := ⟨_, rfl⟩
  have hb3 := hd3.below
  have k3 := blk_keep hb3 (blk_alloc _ k2)
  have x3 := blk_keep hb3 (heap_alloc_new _ _)
  have HB3 := Lib.hid (below_next (below_alloc' HB2.out _) hb3)
  clear d2 f2 hd3
  obtain ⟨d3, f3⟩ := blk_facts k3
  have dx := (blk_facts x3).1
  go_wp2_with fail
  refine (dec_calls k (by omega) imm him _).mono ?_
  rintro e w4' ⟨rfl, hd4⟩
  obtain ⟨w4, rfl⟩ : ∃ w4, w4' = w4 := ⟨_, rfl⟩
  have hb4 := hd4.below
  have k4 := blk_keep hb4 k3
  have x4 := blk_keep hb4 x3
  have HB4 := Lib.hid (below_next HB3.out hb4)
  clear d3 f3 dx hd4
  obtain ⟨d4, f4⟩ := blk_facts k4
  have dx := (blk_facts x4).1
  simp only [show RefM.letters 7 = ⟨#[]⟩ from rfl]
  go_wp2_with fail
  refine wp_loop_rounds 1 ?_
  refine rounds_world (RTextW w w2.heap.size (n : Int) (d : Int) (a : Int) (b : Int) imm (Isa.nameOf n) 7 ic 106) ⟨k4, x4, HB4.out⟩ ?_
  clear d4 f4 dx k4 x4 k3 x3 k2 k1 HB1 HB2 HB3 HB4
  intro v0 H0
  rw [rounds_succ]
  have p1 : ¬ (9223372036854775807 < (Isa.nameOf n).size + 1) := by omega
  have p2 : ¬ (9223372036854775807 < (Isa.nameOf n).size + 1 + (Isa.num imm).size) := by omega
  have hk5 := (blk_facts H0.kind).1
  go_wp2_with fail
  go_ret
  exact ⟨rfl, H0.bel⟩
set_option maxHeartbeats 8000000 in
set_option maxRecDepth 100000 in
theorem rtext_8_0 (k : Nat) (hk : 60 ≤ k) (n : Nat) (h1 : 1 ≤ n) (h2 : n < 49) (hf : (Isa.formOf n : Int) = 8) (hs : RefM.shC (Isa.formOf n) (Isa.shapeOf n) = 45) (ic : Int) (hn : RefM.immC (Isa.numOf n) = ic) (hnu : (ic == 45) = true) (d a b : Nat) (imm x : Int)
    (hd : d ≤ 15) (ha : a ≤ 15) (hb : b ≤ 15) (him : -2147483648 ≤ imm ∧ imm ≤ 2147483647) (hE : Isa.enc (n : Int) (d : Int) (a : Int) (b : Int) imm = (x, 0)) (hnm : (Isa.nameOf n).size ≤ 16) (w : World) :
    Calls Tryd.prog 23 #[.agg #[.int .i64 (n : Int), .int .u8 (d : Int), .int .u8 (a : Int), .int .u8 (b : Int), .int .i32 imm]] w (Isa.TextPost (Isa.nameOf n) w) := by
  have HC := Lib.hid (RefM.enc_eq k hk (n : Int) (d : Int) (a : Int) (b : Int) imm (by omega) (by omega) (by omega) him)
  have HO := Lib.hid (RefM.of_kind k (by omega) n h1 h2 8 45 ic hf hs hn)
  have si := Isa.num_size imm (by omega) (by omega)
  have sd := Isa.num_size (d : Int) (by omega) (by omega)
  have sa := Isa.num_size (a : Int) (by omega) (by omega)
  have sb := Isa.num_size (b : Int) (by omega) (by omega)
  have hk20 : 20 ≤ k := by omega
  have HE := Lib.hid hE
  clear hE hf hs hn
  go_enter Tryd.func23, Tryd.ntmps23
  go_wp2_with fail
  refine (cloisterref10_Encode.calls k _ _ _ _ _ x 0 _ (HC.out.trans (by rw [HE.out]))).mono ?_
  rintro e w1 ⟨rfl, hb1⟩
  have k1 := blk_keep hb1 (heap_alloc_new _ _)
  have HB1 := Lib.hid (below_next (below_alloc' (Below.refl _ _) _) hb1)
  obtain ⟨d1, f1⟩ := blk_facts k1
  go_wp2_with fail
  refine (cloisterref10_Of.calls k _ _ _ _ _ _ _ HO.out).mono ?_
  rintro e w2 ⟨rfl, hb2⟩
  have k2 := blk_keep hb2 k1
  have HB2 := Lib.hid (below_next HB1.out hb2)
  clear d1 f1
  obtain ⟨d2, f2⟩ := blk_facts k2
  have z2 := blk_size k2
  have z2k : ∀ k, w.heap.size < w2.heap.size + k := fun k => by omega
  go_wp2_with fail
  refine (cloisterref10_Fields.calls 8 _ _ _ (RefM.fields ⟨8, by decide⟩)).mono ?_
  rintro e w3' ⟨rfl, hd3⟩
  obtain ⟨w3, rfl⟩ : ∃ w3, w3' = w3 := ⟨_, rfl⟩
  have hb3 := hd3.below
  have k3 := blk_keep hb3 (blk_alloc _ k2)
  have x3 := blk_keep hb3 (heap_alloc_new _ _)
  have HB3 := Lib.hid (below_next (below_alloc' HB2.out _) hb3)
  clear d2 f2 hd3
  obtain ⟨d3, f3⟩ := blk_facts k3
  have dx := (blk_facts x3).1
  go_wp2_with fail
  refine (dec_calls k (by omega) imm him _).mono ?_
  rintro e w4' ⟨rfl, hd4⟩
  obtain ⟨w4, rfl⟩ : ∃ w4, w4' = w4 := ⟨_, rfl⟩
  have hb4 := hd4.below
  have k4 := blk_keep hb4 k3
  have x4 := blk_keep hb4 x3
  have HB4 := Lib.hid (below_next HB3.out hb4)
  clear d3 f3 dx hd4
  obtain ⟨d4, f4⟩ := blk_facts k4
  have dx := (blk_facts x4).1
  simp only [show RefM.letters 8 = ⟨#[]⟩ from rfl]
  go_wp2_with fail
  refine wp_loop_rounds 1 ?_
  refine rounds_world (RTextW w w2.heap.size (n : Int) (d : Int) (a : Int) (b : Int) imm (Isa.nameOf n) 8 ic 45) ⟨k4, x4, HB4.out⟩ ?_
  clear d4 f4 dx k4 x4 k3 x3 k2 k1 HB1 HB2 HB3 HB4
  intro v0 H0
  rw [rounds_succ]
  have p1 : ¬ (9223372036854775807 < (Isa.nameOf n).size + 1) := by omega
  have p2 : ¬ (9223372036854775807 < (Isa.nameOf n).size + 1 + (Isa.num imm).size) := by omega
  have hk5 := (blk_facts H0.kind).1
  go_wp2_with fail
  go_ret
  exact ⟨rfl, H0.bel⟩
end Go.Proofs.YtedjkbekhhffeaaDoor
namespace Go.Proofs.YtedjkbekhhffeaaDoor
open Go.RowKit Go.Proofs.YtedjkbekhhffeaaDoorW.PrintWords PIsaMakes
set_option linter.unusedSimpArgs false
set_option linter.unusedVariables false
theorem reg_num (n : Int) : Isa.reg n = ⟨#[114]⟩ ++ Isa.num n := by
  apply ByteArray.ext
  simp [Isa.reg, Isa.num, ByteArray.data_append]
set_option maxHeartbeats 4000000 in
set_option maxRecDepth 100000 in
theorem rtext_none (k : Nat) (hk : 60 ≤ k) (op d a b m : Int) (hd : 0 ≤ d ∧ d ≤ 255) (ha : 0 ≤ a ∧ a ≤ 255) (hb : 0 ≤ b ∧ b ≤ 255) (hm : -2147483648 ≤ m ∧ m ≤ 2147483647) (hE : (Isa.enc op d a b m).2 ≠ 0) (w : World) :
    Calls Tryd.prog 23 #[.agg #[.int .i64 op, .int .u8 d, .int .u8 a, .int .u8 b, .int .i32 m]] w (Isa.TextPost ⟨#[]⟩ w) := by
  have hC := RefM.enc_eq k hk op d a b m hd ha hb hm
  obtain ⟨⟨x, y⟩, hx⟩ : ∃ r, Isa.enc op d a b m = r := ⟨_, rfl⟩
  rw [hx] at hC hE
  have HC := Lib.hid hC
  have hq : (y != 0) = true := by simpa using hE
  have hq2 : (y == 0) = false := by simpa using hE
  clear hE hx hC
  go_enter Tryd.func23, Tryd.ntmps23
  go_wp2_with fail
  refine (cloisterref10_Encode.calls k _ _ _ _ _ _ _ _ HC.out).mono ?_
  rintro e w1 ⟨rfl, hb1⟩
  have HB1 := Lib.hid (below_next (below_alloc' (Below.refl _ _) _) hb1)
  go_wp2_with fail
  go_ret
  exact ⟨rfl, HB1.out⟩
theorem RefM.sh_1_0 : ∀ n : Fin 49, 1 ≤ n.1 → Isa.formOf n.1 = 1 → Isa.shapeOf n.1 = 0 → RefM.shC (Isa.formOf n.1) (Isa.shapeOf n.1) = 51 ∧ (RefM.immC (Isa.numOf n.1) == 45) = true := by decide
theorem RefM.sh_2_0 : ∀ n : Fin 49, 1 ≤ n.1 → Isa.formOf n.1 = 2 → Isa.shapeOf n.1 = 0 → RefM.shC (Isa.formOf n.1) (Isa.shapeOf n.1) = 105 ∧ (RefM.immC (Isa.numOf n.1) == 45) = false := by decide
theorem RefM.sh_2_1 : ∀ n : Fin 49, 1 ≤ n.1 → Isa.formOf n.1 = 2 → Isa.shapeOf n.1 = 1 → RefM.shC (Isa.formOf n.1) (Isa.shapeOf n.1) = 109 ∧ (RefM.immC (Isa.numOf n.1) == 45) = false := by decide
theorem RefM.sh_3_0 : ∀ n : Fin 49, 1 ≤ n.1 → Isa.formOf n.1 = 3 → Isa.shapeOf n.1 = 0 → RefM.shC (Isa.formOf n.1) (Isa.shapeOf n.1) = 105 ∧ (RefM.immC (Isa.numOf n.1) == 45) = false := by decide
theorem RefM.sh_3_1 : ∀ n : Fin 49, 1 ≤ n.1 → Isa.formOf n.1 = 3 → Isa.shapeOf n.1 = 1 → RefM.shC (Isa.formOf n.1) (Isa.shapeOf n.1) = 109 ∧ (RefM.immC (Isa.numOf n.1) == 45) = false := by decide
theorem RefM.sh_4_0 : ∀ n : Fin 49, 1 ≤ n.1 → Isa.formOf n.1 = 4 → Isa.shapeOf n.1 = 0 → RefM.shC (Isa.formOf n.1) (Isa.shapeOf n.1) = 105 ∧ (RefM.immC (Isa.numOf n.1) == 45) = false := by decide
theorem RefM.sh_5_0 : ∀ n : Fin 49, 1 ≤ n.1 → Isa.formOf n.1 = 5 → Isa.shapeOf n.1 = 0 → RefM.shC (Isa.formOf n.1) (Isa.shapeOf n.1) = 49 ∧ (RefM.immC (Isa.numOf n.1) == 45) = true := by decide
theorem RefM.sh_6_0 : ∀ n : Fin 49, 1 ≤ n.1 → Isa.formOf n.1 = 6 → Isa.shapeOf n.1 = 0 → RefM.shC (Isa.formOf n.1) (Isa.shapeOf n.1) = 49 ∧ (RefM.immC (Isa.numOf n.1) == 45) = true := by decide
theorem RefM.sh_7_0 : ∀ n : Fin 49, 1 ≤ n.1 → Isa.formOf n.1 = 7 → Isa.shapeOf n.1 = 0 → RefM.shC (Isa.formOf n.1) (Isa.shapeOf n.1) = 106 ∧ (RefM.immC (Isa.numOf n.1) == 45) = false := by decide
theorem RefM.sh_8_0 : ∀ n : Fin 49, 1 ≤ n.1 → Isa.formOf n.1 = 8 → Isa.shapeOf n.1 = 0 → RefM.shC (Isa.formOf n.1) (Isa.shapeOf n.1) = 45 ∧ (RefM.immC (Isa.numOf n.1) == 45) = true := by decide
theorem rtext_calls (k : Nat) (hk : 60 ≤ k) (op d a b m : Int) (hd : 0 ≤ d ∧ d ≤ 255) (ha : 0 ≤ a ∧ a ≤ 255) (hb : 0 ≤ b ∧ b ≤ 255) (hm : -2147483648 ≤ m ∧ m ≤ 2147483647) (w : World) :
    Calls Tryd.prog 23 #[.agg #[.int .i64 op, .int .u8 d, .int .u8 a, .int .u8 b, .int .i32 m]] w (Isa.TextPost (Isa.text op d a b m) w) := by
  unfold Isa.text
  by_cases hE : (Isa.enc op d a b m).2 = 0
  · rw [if_neg (by simpa using hE)]
    have hx : Isa.enc op d a b m = ((Isa.enc op d a b m).1, 0) := by rw [← hE]
    obtain ⟨ho, b1, b2, b3, hf, _⟩ := Isa.enc_ok hE
    have b1' := (Isa.badAt_le b1).1
    have b2' := (Isa.badAt_le b2).1
    have b3' := (Isa.badAt_le b3).1
    clear b1 b2 b3 hf
    obtain ⟨n, rfl⟩ : ∃ n : Nat, op = (n : Int) := ⟨op.toNat, by omega⟩
    obtain ⟨d, rfl⟩ : ∃ n : Nat, d = (n : Int) := ⟨d.toNat, by omega⟩
    obtain ⟨a, rfl⟩ : ∃ n : Nat, a = (n : Int) := ⟨a.toNat, by omega⟩
    obtain ⟨b, rfl⟩ : ∃ n : Nat, b = (n : Int) := ⟨b.toNat, by omega⟩
    have h1 : 1 ≤ n := by omega
    have h2 : n < 49 := by omega
    have hn := Isa.name_le ⟨n, h2⟩
    have hc := Isa.text_combos ⟨n, h2⟩ h1
    simp only [Int.toNat_natCast] at hc hn ⊢
    have im : ∀ u : Nat, RefM.immC u = 45 ∨ RefM.immC u = 115 ∨ RefM.immC u = 117 ∨ RefM.immC u = 110 := by
      intro u
      unfold RefM.immC
      split
      · exact .inr (.inl rfl)
      · split
        · exact .inr (.inr (.inl rfl))
        · split
          · exact .inr (.inr (.inr rfl))
          · exact .inl rfl
    rcases hc with ⟨e1, e2, e3⟩ | ⟨e1, e2, e3⟩ | ⟨e1, e2, e3⟩ | ⟨e1, e2, e3⟩ | ⟨e1, e2, e3⟩ | ⟨e1, e2, e3⟩ | ⟨e1, e2, e3⟩ | ⟨e1, e2, e3⟩ | ⟨e1, e2, e3⟩ | ⟨e1, e2, e3⟩
    · have q := RefM.sh_1_0 ⟨n, h2⟩ h1 e1 e2
      have r := rtext_1_0 k hk n h1 h2 (by rw [e1]; rfl) q.1 _ rfl q.2 d a b m _ (by omega) (by omega) (by omega) hm hx hn w
      have q : Isa.textF (Isa.formOf n) (Isa.numOf n) (Isa.shapeOf n) (Isa.nameOf n) (d : Int) (a : Int) (b : Int) m = (((((((((Isa.nameOf n ++ ⟨#[32]⟩) ++ ⟨#[114]⟩) ++ Isa.num (d : Int)) ++ ⟨#[44, 32]⟩) ++ ⟨#[114]⟩) ++ Isa.num (a : Int)) ++ ⟨#[44, 32]⟩) ++ ⟨#[114]⟩) ++ Isa.num (b : Int)) := by
        rw [e1, e2]; rw [e3]
        apply ByteArray.ext
        apply Array.toList_inj.1
        simp [Isa.textF, Isa.parts, Isa.atD, Isa.atA, Isa.atB, Isa.layD, Isa.layA, Isa.layB, Isa.joined, reg_num, Lib.join, List.intercalate, List.intersperse, ByteArray.data_append]
      rw [q]; exact r
    · have q := RefM.sh_2_0 ⟨n, h2⟩ h1 e1 e2
      have r := rtext_2_0 k hk n h1 h2 (by rw [e1]; rfl) q.1 _ rfl q.2 d a b m _ (by omega) (by omega) (by omega) hm hx hn w
      have q : Isa.textF (Isa.formOf n) (Isa.numOf n) (Isa.shapeOf n) (Isa.nameOf n) (d : Int) (a : Int) (b : Int) m = ((((((((Isa.nameOf n ++ ⟨#[32]⟩) ++ ⟨#[114]⟩) ++ Isa.num (d : Int)) ++ ⟨#[44, 32]⟩) ++ ⟨#[114]⟩) ++ Isa.num (a : Int)) ++ ⟨#[44, 32]⟩) ++ Isa.num m) := by
        rw [e1, e2]
        apply ByteArray.ext
        apply Array.toList_inj.1
        simp [Isa.textF, Isa.parts, Isa.atD, Isa.atA, Isa.atB, Isa.layD, Isa.layA, Isa.layB, Isa.joined, reg_num, Lib.join, List.intercalate, List.intersperse, ByteArray.data_append, e3]
      rw [q]; exact r
    · have q := RefM.sh_2_1 ⟨n, h2⟩ h1 e1 e2
      have r := rtext_2_1 k hk n h1 h2 (by rw [e1]; rfl) q.1 _ rfl q.2 d a b m _ (by omega) (by omega) (by omega) hm hx hn w
      have q : Isa.textF (Isa.formOf n) (Isa.numOf n) (Isa.shapeOf n) (Isa.nameOf n) (d : Int) (a : Int) (b : Int) m = (((((((Isa.nameOf n ++ ⟨#[32, 114]⟩) ++ Isa.num (d : Int)) ++ ⟨#[44, 32]⟩) ++ Isa.num m) ++ ⟨#[40, 114]⟩) ++ Isa.num (a : Int)) ++ ⟨#[41]⟩) := by
        rw [e1, e2]
        apply ByteArray.ext
        apply Array.toList_inj.1
        simp [Isa.textF, Isa.parts, Isa.atD, Isa.atA, Isa.atB, Isa.layD, Isa.layA, Isa.layB, Isa.joined, reg_num, Lib.join, List.intercalate, List.intersperse, ByteArray.data_append, e3]
      rw [q]; exact r
    · have q := RefM.sh_3_0 ⟨n, h2⟩ h1 e1 e2
      have r := rtext_3_0 k hk n h1 h2 (by rw [e1]; rfl) q.1 _ rfl q.2 d a b m _ (by omega) (by omega) (by omega) hm hx hn w
      have q : Isa.textF (Isa.formOf n) (Isa.numOf n) (Isa.shapeOf n) (Isa.nameOf n) (d : Int) (a : Int) (b : Int) m = ((((((((Isa.nameOf n ++ ⟨#[32]⟩) ++ ⟨#[114]⟩) ++ Isa.num (a : Int)) ++ ⟨#[44, 32]⟩) ++ ⟨#[114]⟩) ++ Isa.num (b : Int)) ++ ⟨#[44, 32]⟩) ++ Isa.num m) := by
        rw [e1, e2]
        apply ByteArray.ext
        apply Array.toList_inj.1
        simp [Isa.textF, Isa.parts, Isa.atD, Isa.atA, Isa.atB, Isa.layD, Isa.layA, Isa.layB, Isa.joined, reg_num, Lib.join, List.intercalate, List.intersperse, ByteArray.data_append, e3]
      rw [q]; exact r
    · have q := RefM.sh_3_1 ⟨n, h2⟩ h1 e1 e2
      have r := rtext_3_1 k hk n h1 h2 (by rw [e1]; rfl) q.1 _ rfl q.2 d a b m _ (by omega) (by omega) (by omega) hm hx hn w
      have q : Isa.textF (Isa.formOf n) (Isa.numOf n) (Isa.shapeOf n) (Isa.nameOf n) (d : Int) (a : Int) (b : Int) m = (((((((Isa.nameOf n ++ ⟨#[32, 114]⟩) ++ Isa.num (b : Int)) ++ ⟨#[44, 32]⟩) ++ Isa.num m) ++ ⟨#[40, 114]⟩) ++ Isa.num (a : Int)) ++ ⟨#[41]⟩) := by
        rw [e1, e2]
        apply ByteArray.ext
        apply Array.toList_inj.1
        simp [Isa.textF, Isa.parts, Isa.atD, Isa.atA, Isa.atB, Isa.layD, Isa.layA, Isa.layB, Isa.joined, reg_num, Lib.join, List.intercalate, List.intersperse, ByteArray.data_append, e3]
      rw [q]; exact r
    · have q := RefM.sh_4_0 ⟨n, h2⟩ h1 e1 e2
      have r := rtext_4_0 k hk n h1 h2 (by rw [e1]; rfl) q.1 _ rfl q.2 d a b m _ (by omega) (by omega) (by omega) hm hx hn w
      have q : Isa.textF (Isa.formOf n) (Isa.numOf n) (Isa.shapeOf n) (Isa.nameOf n) (d : Int) (a : Int) (b : Int) m = (((((Isa.nameOf n ++ ⟨#[32]⟩) ++ ⟨#[114]⟩) ++ Isa.num (d : Int)) ++ ⟨#[44, 32]⟩) ++ Isa.num m) := by
        rw [e1, e2]
        apply ByteArray.ext
        apply Array.toList_inj.1
        simp [Isa.textF, Isa.parts, Isa.atD, Isa.atA, Isa.atB, Isa.layD, Isa.layA, Isa.layB, Isa.joined, reg_num, Lib.join, List.intercalate, List.intersperse, ByteArray.data_append, e3]
      rw [q]; exact r
    · have q := RefM.sh_5_0 ⟨n, h2⟩ h1 e1 e2
      have r := rtext_5_0 k hk n h1 h2 (by rw [e1]; rfl) q.1 _ rfl q.2 d a b m _ (by omega) (by omega) (by omega) hm hx hn w
      have q : Isa.textF (Isa.formOf n) (Isa.numOf n) (Isa.shapeOf n) (Isa.nameOf n) (d : Int) (a : Int) (b : Int) m = (((Isa.nameOf n ++ ⟨#[32]⟩) ++ ⟨#[114]⟩) ++ Isa.num (d : Int)) := by
        rw [e1, e2]; rw [e3]
        apply ByteArray.ext
        apply Array.toList_inj.1
        simp [Isa.textF, Isa.parts, Isa.atD, Isa.atA, Isa.atB, Isa.layD, Isa.layA, Isa.layB, Isa.joined, reg_num, Lib.join, List.intercalate, List.intersperse, ByteArray.data_append]
      rw [q]; exact r
    · have q := RefM.sh_6_0 ⟨n, h2⟩ h1 e1 e2
      have r := rtext_6_0 k hk n h1 h2 (by rw [e1]; rfl) q.1 _ rfl q.2 d a b m _ (by omega) (by omega) (by omega) hm hx hn w
      have q : Isa.textF (Isa.formOf n) (Isa.numOf n) (Isa.shapeOf n) (Isa.nameOf n) (d : Int) (a : Int) (b : Int) m = (((Isa.nameOf n ++ ⟨#[32]⟩) ++ ⟨#[114]⟩) ++ Isa.num (a : Int)) := by
        rw [e1, e2]; rw [e3]
        apply ByteArray.ext
        apply Array.toList_inj.1
        simp [Isa.textF, Isa.parts, Isa.atD, Isa.atA, Isa.atB, Isa.layD, Isa.layA, Isa.layB, Isa.joined, reg_num, Lib.join, List.intercalate, List.intersperse, ByteArray.data_append]
      rw [q]; exact r
    · have q := RefM.sh_7_0 ⟨n, h2⟩ h1 e1 e2
      have r := rtext_7_0 k hk n h1 h2 (by rw [e1]; rfl) q.1 _ rfl q.2 d a b m _ (by omega) (by omega) (by omega) hm hx hn w
      have q : Isa.textF (Isa.formOf n) (Isa.numOf n) (Isa.shapeOf n) (Isa.nameOf n) (d : Int) (a : Int) (b : Int) m = ((Isa.nameOf n ++ ⟨#[32]⟩) ++ Isa.num m) := by
        rw [e1, e2]
        apply ByteArray.ext
        apply Array.toList_inj.1
        simp [Isa.textF, Isa.parts, Isa.atD, Isa.atA, Isa.atB, Isa.layD, Isa.layA, Isa.layB, Isa.joined, reg_num, Lib.join, List.intercalate, List.intersperse, ByteArray.data_append, e3]
      rw [q]; exact r
    · have q := RefM.sh_8_0 ⟨n, h2⟩ h1 e1 e2
      have r := rtext_8_0 k hk n h1 h2 (by rw [e1]; rfl) q.1 _ rfl q.2 d a b m _ (by omega) (by omega) (by omega) hm hx hn w
      have q : Isa.textF (Isa.formOf n) (Isa.numOf n) (Isa.shapeOf n) (Isa.nameOf n) (d : Int) (a : Int) (b : Int) m = (Isa.nameOf n) := by
        rw [e1, e2]; rw [e3]
        apply ByteArray.ext
        apply Array.toList_inj.1
        simp [Isa.textF, Isa.parts, Isa.atD, Isa.atA, Isa.atB, Isa.layD, Isa.layA, Isa.layB, Isa.joined, reg_num, Lib.join, List.intercalate, List.intersperse, ByteArray.data_append]
      rw [q]; exact r
  · rw [if_pos hE]
    exact rtext_none k hk op d a b m hd ha hb hm hE w
end Go.Proofs.YtedjkbekhhffeaaDoor
namespace Go.Proofs.YtedjkbekhhffeaaDoor
open Go.RowKit PIsaMakes
set_option linter.unusedSimpArgs false
set_option linter.unusedVariables false
set_option maxHeartbeats 8000000 in
set_option maxRecDepth 100000 in
theorem isaMakes_walk (op d a b m : Int) (hd : 0 ≤ d ∧ d ≤ 255) (ha : 0 ≤ a ∧ a ≤ 255) (hb : 0 ≤ b ∧ b ≤ 255) (hm : -2147483648 ≤ m ∧ m ≤ 2147483647) (w : World) (hL : Isa.Laid w) :
    Calls Tryd.prog 7 #[.agg #[.int .i64 op, .int .u8 d, .int .u8 a, .int .u8 b, .int .i32 m]] w fun e w' => e = .returned (.bool true) ∧ Below w.heap.size w w' := by
  have hE := Encode_calls op d a b m hd ha hb hm
  have hT := Text_calls op d a b m hd ha hb hm
  have hU := Uses_calls op d a b m hd ha hb hm
  have rT := rtext_calls 60 (by decide) op d a b m hd ha hb hm
  have qE := RefM.enc_eq 60 (by decide) op d a b m hd ha hb hm
  have qU := RefM.uses_eq 60 (by decide) op d a b m hd ha hb hm
  obtain ⟨⟨x, y⟩, hx⟩ : ∃ r, Isa.enc op d a b m = r := ⟨_, rfl⟩
  obtain ⟨⟨u, v⟩, hu⟩ : ∃ r, Isa.uses op d a b m = r := ⟨_, rfl⟩
  obtain ⟨s, hs⟩ : ∃ r, Isa.text op d a b m = r := ⟨_, rfl⟩
  rw [hx] at hE qE
  rw [hu] at hU qU
  rw [hs] at hT rT
  have QE := Lib.hid qE
  have QU := Lib.hid qU
  clear qE qU hx hu hs
  go_enter Tryd.func7, Tryd.ntmps7
  go_wp2_with fail
  refine (known_calls _ (hL.alloc _)).mono ?_
  rintro e w1 ⟨rfl, hb1⟩
  have hL1 := (hL.alloc _).below hb1
  have k1 := blk_keep hb1 (heap_alloc_new _ _)
  have HB1 := Lib.hid (below_next (below_alloc' (Below.refl _ _) _) hb1)
  obtain ⟨d1, f1⟩ := blk_facts k1
  go_wp2_with fail
  refine (hE _ hL1).mono ?_
  rintro e w2 ⟨rfl, hb2⟩
  have hL2 := hL1.below hb2
  have k2 := blk_keep hb2 k1
  have HB2 := Lib.hid (below_next HB1.out hb2)
  clear d1 f1
  obtain ⟨d2, f2⟩ := blk_facts k2
  go_wp2_with fail
  refine (cloisterref10_Encode.calls 60 _ _ _ _ _ _ _ _ QE.out).mono ?_
  rintro e w3 ⟨rfl, hb3⟩
  have hL3 := hL2.below hb3
  have k3 := blk_keep hb3 k2
  have HB3 := Lib.hid (below_next HB2.out hb3)
  clear d2 f2
  obtain ⟨d3, f3⟩ := blk_facts k3
  go_wp2_with fail
  refine (hT _ hL3).mono ?_
  rintro e w4 ⟨rfl, hb4⟩
  have hL4 := hL3.below hb4
  have k4 := blk_keep hb4 k3
  have HB4 := Lib.hid (below_next HB3.out hb4)
  clear d3 f3
  obtain ⟨d4, f4⟩ := blk_facts k4
  go_wp2_with fail
  refine (hU _ hL4).mono ?_
  rintro e w5 ⟨rfl, hb5⟩
  have k5 := blk_keep hb5 k4
  have HB5 := Lib.hid (below_next HB4.out hb5)
  clear d4 f4
  obtain ⟨d5, f5⟩ := blk_facts k5
  go_wp2_with fail
  refine (cloisterref10_Uses.calls 60 _ _ _ _ _ _ _ _ QU.out).mono ?_
  rintro e w6 ⟨rfl, hb6⟩
  have k6 := blk_keep hb6 k5
  have HB6 := Lib.hid (below_next HB5.out hb6)
  clear d5 f5
  obtain ⟨d6, f6⟩ := blk_facts k6
  go_wp2_with fail
  refine (rT _).mono ?_
  rintro e w7 ⟨rfl, hb7⟩
  have k7 := blk_keep hb7 k6
  have HB7 := Lib.hid (below_next HB6.out hb7)
  clear d6 f6
  go_wp2_with fail
  go_ret
  exact ⟨rfl, HB7.out⟩
end Go.Proofs.YtedjkbekhhffeaaDoor
