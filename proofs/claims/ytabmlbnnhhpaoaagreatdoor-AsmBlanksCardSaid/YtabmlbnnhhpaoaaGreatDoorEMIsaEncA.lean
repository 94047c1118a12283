/- What this claim needs of IsaEnc1, IsaEnc2. -/
import Derived.Test.YtabmlbnnhhpaoaaGreatDoorEMIsaBase
set_option linter.unusedSimpArgs false
set_option linter.unusedVariables false
set_option maxHeartbeats 4000000
set_option maxRecDepth 100000
namespace Go.Proofs.YtabmlbnnhhpaoaaGreatDoor
open Go.RowKit
theorem enc_good1 (n : Nat) (h1 : 1 ≤ n) (h2 : n < 49) (hf : (Isa.formOf n : Int) = 1) (d a b imm : Int) (hd : 0 ≤ d ∧ d ≤ 15) (ha : 0 ≤ a ∧ a ≤ 15) (hb : 0 ≤ b ∧ b ≤ 15) (him : -2147483648 ≤ imm ∧ imm ≤ 2147483647) (hF : Isa.fits 1 (Isa.numOf n) imm = true) (w : World) (hL : Isa.Laid w) :
 Calls Tryz.prog 70 #[.agg #[.int .i64 (n : Int), .int .u8 d, .int .u8 a, .int .u8 b, .int .i32 imm]] w (Isa.EncPost (bits BinOp.or IntKind.u32 (bits BinOp.or IntKind.u32 (bits BinOp.or IntKind.u32 (bits BinOp.or IntKind.u32 ((n : Int) * 67108864) (d * 4194304)) (a * 262144)) (b * 16384)) (bits BinOp.and IntKind.u32 (imm % 4294967296) 0)) (0) w) := by
 have q0 : decide (16 ≤ d) = false := by simp; omega
 have q1 : decide (16 ≤ a) = false := by simp; omega
 have q2 : decide (16 ≤ b) = false := by simp; omega
 have i0 := fun W => (index_three d a b 22 18 14 W).1
 have i1 := fun W => (index_three d a b 22 18 14 W).2.1
 have i2 := fun W => (index_three d a b 22 18 14 W).2.2
 go_enter Tryz.func70, Tryz.ntmps70
 go_wp2_with fail
 refine (of_at n h1 h2 1 hf _).mono ?_
 rintro e w1 ⟨rfl, hb1⟩
 have hL1 := (hL.below (below_alloc' (Below.refl _ _) _)).below hb1
 have k1 := blk_keep hb1 (heap_alloc_new _ _)
 obtain ⟨d1, f1⟩ := blk_facts k1
 have z1 := blk_size k1
 have z1k : ∀ k, w.heap.size < w1.heap.size + k := fun k => by omega
 obtain ⟨l1, l2, l3, l4⟩ := hL1.cells 1 (by omega)
 simp only [Isa.atD, Isa.atA, Isa.atB, Isa.bits, Isa.layD, Isa.layA, Isa.layB, Isa.layN, List.getD_cons_succ, List.getD_cons_zero, Nat.reduceMul, Nat.reduceAdd, Int.cast_ofNat_Int] at l1 l2 l3 l4
 have z0 := hL1.lt
 have HB1 := Lib.hid (below_next (below_alloc' (Below.refl _ _) _) hb1)
 go_wp2_with fail
 refine wp_loop_rounds 4 ?_
 rw [rounds_succ]
 go_wp2_with fail
 rw [rounds_succ]
 go_wp2_with fail
 rw [rounds_succ]
 go_wp2_with fail
 rw [rounds_succ]
 go_wp2_with fail
 refine (fits_at _ 1 1 rfl _ _ _ _ ?hl (Isa.table_facts ⟨n, h2⟩).1 (Isa.sig_at n h2 _ hf)).mono ?_
 case hl => exact ((((hL1.alloc _).alloc _).alloc _).alloc _).alloc _
 rintro e w2 ⟨rfl, hb2⟩
 have k2 := blk_keep hb2 (blk_alloc _ (blk_alloc _ (blk_alloc _ (blk_alloc _ (blk_alloc _ k1)))))
 have k3 := blk_keep hb2 (blk_alloc _ (blk_alloc _ (blk_alloc _ (heap_alloc2_new _ _ _))))
 obtain ⟨d2, f2⟩ := blk_facts k2
 obtain ⟨d3, f3⟩ := blk_facts k3
 have HB2 := Lib.hid (below_next (below_alloc' (below_alloc' (below_alloc' (below_alloc' (below_alloc' HB1.out _) _) _) _) _) hb2)
 go_wp2_with fail
 go_quiet (fail)
 go_wp2_with fail
 go_ret2
 exact ⟨rfl, below_drewN' HB2.out _⟩
theorem enc_imm1 (n : Nat) (h1 : 1 ≤ n) (h2 : n < 49) (hf : (Isa.formOf n : Int) = 1) (d a b imm : Int) (hd : 0 ≤ d ∧ d ≤ 15) (ha : 0 ≤ a ∧ a ≤ 15) (hb : 0 ≤ b ∧ b ≤ 15) (him : -2147483648 ≤ imm ∧ imm ≤ 2147483647) (hF : Isa.fits 1 (Isa.numOf n) imm = false) (w : World) (hL : Isa.Laid w) :
 Calls Tryz.prog 70 #[.agg #[.int .i64 (n : Int), .int .u8 d, .int .u8 a, .int .u8 b, .int .i32 imm]] w (Isa.EncPost (0) (102) w) := by
 have q0 : decide (16 ≤ d) = false := by simp; omega
 have q1 : decide (16 ≤ a) = false := by simp; omega
 have q2 : decide (16 ≤ b) = false := by simp; omega
 have i0 := fun W => (index_three d a b 22 18 14 W).1
 have i1 := fun W => (index_three d a b 22 18 14 W).2.1
 have i2 := fun W => (index_three d a b 22 18 14 W).2.2
 go_enter Tryz.func70, Tryz.ntmps70
 go_wp2_with fail
 refine (of_at n h1 h2 1 hf _).mono ?_
 rintro e w1 ⟨rfl, hb1⟩
 have hL1 := (hL.below (below_alloc' (Below.refl _ _) _)).below hb1
 have k1 := blk_keep hb1 (heap_alloc_new _ _)
 obtain ⟨d1, f1⟩ := blk_facts k1
 have z1 := blk_size k1
 have z1k : ∀ k, w.heap.size < w1.heap.size + k := fun k => by omega
 obtain ⟨l1, l2, l3, l4⟩ := hL1.cells 1 (by omega)
 simp only [Isa.atD, Isa.atA, Isa.atB, Isa.bits, Isa.layD, Isa.layA, Isa.layB, Isa.layN, List.getD_cons_succ, List.getD_cons_zero, Nat.reduceMul, Nat.reduceAdd, Int.cast_ofNat_Int] at l1 l2 l3 l4
 have z0 := hL1.lt
 have HB1 := Lib.hid (below_next (below_alloc' (Below.refl _ _) _) hb1)
 go_wp2_with fail
 refine wp_loop_rounds 4 ?_
 rw [rounds_succ]
 go_wp2_with fail
 rw [rounds_succ]
 go_wp2_with fail
 rw [rounds_succ]
 go_wp2_with fail
 rw [rounds_succ]
 go_wp2_with fail
 refine (fits_at _ 1 1 rfl _ _ _ _ ?hl (Isa.table_facts ⟨n, h2⟩).1 (Isa.sig_at n h2 _ hf)).mono ?_
 case hl => exact ((((hL1.alloc _).alloc _).alloc _).alloc _).alloc _
 rintro e w2 ⟨rfl, hb2⟩
 have k2 := blk_keep hb2 (blk_alloc _ (blk_alloc _ (blk_alloc _ (blk_alloc _ (blk_alloc _ k1)))))
 have k3 := blk_keep hb2 (blk_alloc _ (blk_alloc _ (blk_alloc _ (heap_alloc2_new _ _ _))))
 obtain ⟨d2, f2⟩ := blk_facts k2
 obtain ⟨d3, f3⟩ := blk_facts k3
 have HB2 := Lib.hid (below_next (below_alloc' (below_alloc' (below_alloc' (below_alloc' (below_alloc' HB1.out _) _) _) _) _) hb2)
 go_wp2_with fail
 go_ret2
 exact ⟨rfl, HB2.out⟩
theorem enc_bad1d (n : Nat) (h1 : 1 ≤ n) (h2 : n < 49) (hf : (Isa.formOf n : Int) = 1) (d a b imm : Int) (ha : 0 ≤ a ∧ a ≤ 255) (hb : 0 ≤ b ∧ b ≤ 255) (hd : 16 ≤ d ∧ d ≤ 255) (him : -2147483648 ≤ imm ∧ imm ≤ 2147483647) (w : World) (hL : Isa.Laid w) :
 Calls Tryz.prog 70 #[.agg #[.int .i64 (n : Int), .int .u8 d, .int .u8 a, .int .u8 b, .int .i32 imm]] w (Isa.EncPost 0 101 w) := by
 have q0 : decide (16 ≤ d) = true := by simp; omega
 have i0 := fun W => (index_three d a b 22 18 14 W).1
 have i1 := fun W => (index_three d a b 22 18 14 W).2.1
 have i2 := fun W => (index_three d a b 22 18 14 W).2.2
 go_enter Tryz.func70, Tryz.ntmps70
 go_wp2_with fail
 refine (of_at n h1 h2 1 hf _).mono ?_
 rintro e w1 ⟨rfl, hb1⟩
 have hL1 := (hL.below (below_alloc' (Below.refl _ _) _)).below hb1
 have k1 := blk_keep hb1 (heap_alloc_new _ _)
 obtain ⟨d1, f1⟩ := blk_facts k1
 have z1 := blk_size k1
 have z1k : ∀ k, w.heap.size < w1.heap.size + k := fun k => by omega
 obtain ⟨l1, l2, l3, l4⟩ := hL1.cells 1 (by omega)
 simp only [Isa.atD, Isa.atA, Isa.atB, Isa.bits, Isa.layD, Isa.layA, Isa.layB, Isa.layN, List.getD_cons_succ, List.getD_cons_zero, Nat.reduceMul, Nat.reduceAdd, Int.cast_ofNat_Int] at l1 l2 l3 l4
 have z0 := hL1.lt
 have HB1 := Lib.hid (below_next (below_alloc' (Below.refl _ _) _) hb1)
 go_wp2_with fail
 refine wp_loop_rounds 4 ?_
 rw [rounds_succ]
 go_wp2_with fail
 go_ret2
 exact ⟨rfl, (below_alloc' (below_alloc' (below_alloc' HB1.out _) _) _)⟩
theorem enc_bad1a (n : Nat) (h1 : 1 ≤ n) (h2 : n < 49) (hf : (Isa.formOf n : Int) = 1) (d a b imm : Int) (hd : 0 ≤ d ∧ d ≤ 15) (hb : 0 ≤ b ∧ b ≤ 255) (ha : 16 ≤ a ∧ a ≤ 255) (him : -2147483648 ≤ imm ∧ imm ≤ 2147483647) (w : World) (hL : Isa.Laid w) :
 Calls Tryz.prog 70 #[.agg #[.int .i64 (n : Int), .int .u8 d, .int .u8 a, .int .u8 b, .int .i32 imm]] w (Isa.EncPost 0 101 w) := by
 have q0 : decide (16 ≤ d) = false := by simp; omega
 have q1 : decide (16 ≤ a) = true := by simp; omega
 have i0 := fun W => (index_three d a b 22 18 14 W).1
 have i1 := fun W => (index_three d a b 22 18 14 W).2.1
 have i2 := fun W => (index_three d a b 22 18 14 W).2.2
 go_enter Tryz.func70, Tryz.ntmps70
 go_wp2_with fail
 refine (of_at n h1 h2 1 hf _).mono ?_
 rintro e w1 ⟨rfl, hb1⟩
 have hL1 := (hL.below (below_alloc' (Below.refl _ _) _)).below hb1
 have k1 := blk_keep hb1 (heap_alloc_new _ _)
 obtain ⟨d1, f1⟩ := blk_facts k1
 have z1 := blk_size k1
 have z1k : ∀ k, w.heap.size < w1.heap.size + k := fun k => by omega
 obtain ⟨l1, l2, l3, l4⟩ := hL1.cells 1 (by omega)
 simp only [Isa.atD, Isa.atA, Isa.atB, Isa.bits, Isa.layD, Isa.layA, Isa.layB, Isa.layN, List.getD_cons_succ, List.getD_cons_zero, Nat.reduceMul, Nat.reduceAdd, Int.cast_ofNat_Int] at l1 l2 l3 l4
 have z0 := hL1.lt
 have HB1 := Lib.hid (below_next (below_alloc' (Below.refl _ _) _) hb1)
 go_wp2_with fail
 refine wp_loop_rounds 4 ?_
 rw [rounds_succ]
 go_wp2_with fail
 rw [rounds_succ]
 go_wp2_with fail
 go_ret2
 exact ⟨rfl, (below_alloc' (below_alloc' (below_alloc' (below_alloc' HB1.out _) _) _) _)⟩
theorem enc_bad1b (n : Nat) (h1 : 1 ≤ n) (h2 : n < 49) (hf : (Isa.formOf n : Int) = 1) (d a b imm : Int) (hd : 0 ≤ d ∧ d ≤ 15) (ha : 0 ≤ a ∧ a ≤ 15) (hb : 16 ≤ b ∧ b ≤ 255) (him : -2147483648 ≤ imm ∧ imm ≤ 2147483647) (w : World) (hL : Isa.Laid w) :
 Calls Tryz.prog 70 #[.agg #[.int .i64 (n : Int), .int .u8 d, .int .u8 a, .int .u8 b, .int .i32 imm]] w (Isa.EncPost 0 101 w) := by
 have q0 : decide (16 ≤ d) = false := by simp; omega
 have q1 : decide (16 ≤ a) = false := by simp; omega
 have q2 : decide (16 ≤ b) = true := by simp; omega
 have i0 := fun W => (index_three d a b 22 18 14 W).1
 have i1 := fun W => (index_three d a b 22 18 14 W).2.1
 have i2 := fun W => (index_three d a b 22 18 14 W).2.2
 go_enter Tryz.func70, Tryz.ntmps70
 go_wp2_with fail
 refine (of_at n h1 h2 1 hf _).mono ?_
 rintro e w1 ⟨rfl, hb1⟩
 have hL1 := (hL.below (below_alloc' (Below.refl _ _) _)).below hb1
 have k1 := blk_keep hb1 (heap_alloc_new _ _)
 obtain ⟨d1, f1⟩ := blk_facts k1
 have z1 := blk_size k1
 have z1k : ∀ k, w.heap.size < w1.heap.size + k := fun k => by omega
 obtain ⟨l1, l2, l3, l4⟩ := hL1.cells 1 (by omega)
 simp only [Isa.atD, Isa.atA, Isa.atB, Isa.bits, Isa.layD, Isa.layA, Isa.layB, Isa.layN, List.getD_cons_succ, List.getD_cons_zero, Nat.reduceMul, Nat.reduceAdd, Int.cast_ofNat_Int] at l1 l2 l3 l4
 have z0 := hL1.lt
 have HB1 := Lib.hid (below_next (below_alloc' (Below.refl _ _) _) hb1)
 go_wp2_with fail
 refine wp_loop_rounds 4 ?_
 rw [rounds_succ]
 go_wp2_with fail
 rw [rounds_succ]
 go_wp2_with fail
 rw [rounds_succ]
 go_wp2_with fail
 go_ret2
 exact ⟨rfl, (below_alloc' (below_alloc' (below_alloc' (below_alloc' (below_alloc' HB1.out _) _) _) _) _)⟩
theorem enc_good2 (n : Nat) (h1 : 1 ≤ n) (h2 : n < 49) (hf : (Isa.formOf n : Int) = 2) (d a imm : Int) (hd : 0 ≤ d ∧ d ≤ 15) (ha : 0 ≤ a ∧ a ≤ 15) (him : -2147483648 ≤ imm ∧ imm ≤ 2147483647) (hF : Isa.fits 2 (Isa.numOf n) imm = true) (w : World) (hL : Isa.Laid w) :
 Calls Tryz.prog 70 #[.agg #[.int .i64 (n : Int), .int .u8 d, .int .u8 a, .int .u8 0, .int .i32 imm]] w (Isa.EncPost (bits BinOp.or IntKind.u32 (bits BinOp.or IntKind.u32 (bits BinOp.or IntKind.u32 ((n : Int) * 67108864) (d * 4194304)) (a * 262144)) (bits BinOp.and IntKind.u32 (imm % 4294967296) 262143)) (0) w) := by
 have q0 : decide (16 ≤ d) = false := by simp; omega
 have q1 : decide (16 ≤ a) = false := by simp; omega
 have i0 := fun W => (index_three d a 0 22 18 (-1) W).1
 have i1 := fun W => (index_three d a 0 22 18 (-1) W).2.1
 have i2 := fun W => (index_three d a 0 22 18 (-1) W).2.2
 go_enter Tryz.func70, Tryz.ntmps70
 go_wp2_with fail
 refine (of_at n h1 h2 2 hf _).mono ?_
 rintro e w1 ⟨rfl, hb1⟩
 have hL1 := (hL.below (below_alloc' (Below.refl _ _) _)).below hb1
 have k1 := blk_keep hb1 (heap_alloc_new _ _)
 obtain ⟨d1, f1⟩ := blk_facts k1
 have z1 := blk_size k1
 have z1k : ∀ k, w.heap.size < w1.heap.size + k := fun k => by omega
 obtain ⟨l1, l2, l3, l4⟩ := hL1.cells 2 (by omega)
 simp only [Isa.atD, Isa.atA, Isa.atB, Isa.bits, Isa.layD, Isa.layA, Isa.layB, Isa.layN, List.getD_cons_succ, List.getD_cons_zero, Nat.reduceMul, Nat.reduceAdd, Int.cast_ofNat_Int] at l1 l2 l3 l4
 have z0 := hL1.lt
 have HB1 := Lib.hid (below_next (below_alloc' (Below.refl _ _) _) hb1)
 go_wp2_with fail
 refine wp_loop_rounds 4 ?_
 rw [rounds_succ]
 go_wp2_with fail
 rw [rounds_succ]
 go_wp2_with fail
 rw [rounds_succ]
 go_wp2_with fail
 rw [rounds_succ]
 go_wp2_with fail
 refine (fits_at _ 2 2 rfl _ _ _ _ ?hl (Isa.table_facts ⟨n, h2⟩).1 (Isa.sig_at n h2 _ hf)).mono ?_
 case hl => exact ((((hL1.alloc _).alloc _).alloc _).alloc _).alloc _
 rintro e w2 ⟨rfl, hb2⟩
 have k2 := blk_keep hb2 (blk_alloc _ (blk_alloc _ (blk_alloc _ (blk_alloc _ (blk_alloc _ k1)))))
 have k3 := blk_keep hb2 (blk_alloc _ (blk_alloc _ (blk_alloc _ (heap_alloc2_new _ _ _))))
 obtain ⟨d2, f2⟩ := blk_facts k2
 obtain ⟨d3, f3⟩ := blk_facts k3
 have HB2 := Lib.hid (below_next (below_alloc' (below_alloc' (below_alloc' (below_alloc' (below_alloc' HB1.out _) _) _) _) _) hb2)
 go_wp2_with fail
 go_quiet (fail)
 go_wp2_with fail
 go_ret2
 exact ⟨rfl, below_drewN' HB2.out _⟩
theorem enc_imm2 (n : Nat) (h1 : 1 ≤ n) (h2 : n < 49) (hf : (Isa.formOf n : Int) = 2) (d a imm : Int) (hd : 0 ≤ d ∧ d ≤ 15) (ha : 0 ≤ a ∧ a ≤ 15) (him : -2147483648 ≤ imm ∧ imm ≤ 2147483647) (hF : Isa.fits 2 (Isa.numOf n) imm = false) (w : World) (hL : Isa.Laid w) :
 Calls Tryz.prog 70 #[.agg #[.int .i64 (n : Int), .int .u8 d, .int .u8 a, .int .u8 0, .int .i32 imm]] w (Isa.EncPost (0) (102) w) := by
 have q0 : decide (16 ≤ d) = false := by simp; omega
 have q1 : decide (16 ≤ a) = false := by simp; omega
 have i0 := fun W => (index_three d a 0 22 18 (-1) W).1
 have i1 := fun W => (index_three d a 0 22 18 (-1) W).2.1
 have i2 := fun W => (index_three d a 0 22 18 (-1) W).2.2
 go_enter Tryz.func70, Tryz.ntmps70
 go_wp2_with fail
 refine (of_at n h1 h2 2 hf _).mono ?_
 rintro e w1 ⟨rfl, hb1⟩
 have hL1 := (hL.below (below_alloc' (Below.refl _ _) _)).below hb1
 have k1 := blk_keep hb1 (heap_alloc_new _ _)
 obtain ⟨d1, f1⟩ := blk_facts k1
 have z1 := blk_size k1
 have z1k : ∀ k, w.heap.size < w1.heap.size + k := fun k => by omega
 obtain ⟨l1, l2, l3, l4⟩ := hL1.cells 2 (by omega)
 simp only [Isa.atD, Isa.atA, Isa.atB, Isa.bits, Isa.layD, Isa.layA, Isa.layB, Isa.layN, List.getD_cons_succ, List.getD_cons_zero, Nat.reduceMul, Nat.reduceAdd, Int.cast_ofNat_Int] at l1 l2 l3 l4
 have z0 := hL1.lt
 have HB1 := Lib.hid (below_next (below_alloc' (Below.refl _ _) _) hb1)
 go_wp2_with fail
 refine wp_loop_rounds 4 ?_
 rw [rounds_succ]
 go_wp2_with fail
 rw [rounds_succ]
 go_wp2_with fail
 rw [rounds_succ]
 go_wp2_with fail
 rw [rounds_succ]
 go_wp2_with fail
 refine (fits_at _ 2 2 rfl _ _ _ _ ?hl (Isa.table_facts ⟨n, h2⟩).1 (Isa.sig_at n h2 _ hf)).mono ?_
 case hl => exact ((((hL1.alloc _).alloc _).alloc _).alloc _).alloc _
 rintro e w2 ⟨rfl, hb2⟩
 have k2 := blk_keep hb2 (blk_alloc _ (blk_alloc _ (blk_alloc _ (blk_alloc _ (blk_alloc _ k1)))))
 have k3 := blk_keep hb2 (blk_alloc _ (blk_alloc _ (blk_alloc _ (heap_alloc2_new _ _ _))))
 obtain ⟨d2, f2⟩ := blk_facts k2
 obtain ⟨d3, f3⟩ := blk_facts k3
 have HB2 := Lib.hid (below_next (below_alloc' (below_alloc' (below_alloc' (below_alloc' (below_alloc' HB1.out _) _) _) _) _) hb2)
 go_wp2_with fail
 go_ret2
 exact ⟨rfl, HB2.out⟩
theorem enc_bad2d (n : Nat) (h1 : 1 ≤ n) (h2 : n < 49) (hf : (Isa.formOf n : Int) = 2) (d a b imm : Int) (ha : 0 ≤ a ∧ a ≤ 255) (hb : 0 ≤ b ∧ b ≤ 255) (hd : 16 ≤ d ∧ d ≤ 255) (him : -2147483648 ≤ imm ∧ imm ≤ 2147483647) (w : World) (hL : Isa.Laid w) :
 Calls Tryz.prog 70 #[.agg #[.int .i64 (n : Int), .int .u8 d, .int .u8 a, .int .u8 b, .int .i32 imm]] w (Isa.EncPost 0 101 w) := by
 have q0 : decide (16 ≤ d) = true := by simp; omega
 have i0 := fun W => (index_three d a b 22 18 (-1) W).1
 have i1 := fun W => (index_three d a b 22 18 (-1) W).2.1
 have i2 := fun W => (index_three d a b 22 18 (-1) W).2.2
 go_enter Tryz.func70, Tryz.ntmps70
 go_wp2_with fail
 refine (of_at n h1 h2 2 hf _).mono ?_
 rintro e w1 ⟨rfl, hb1⟩
 have hL1 := (hL.below (below_alloc' (Below.refl _ _) _)).below hb1
 have k1 := blk_keep hb1 (heap_alloc_new _ _)
 obtain ⟨d1, f1⟩ := blk_facts k1
 have z1 := blk_size k1
 have z1k : ∀ k, w.heap.size < w1.heap.size + k := fun k => by omega
 obtain ⟨l1, l2, l3, l4⟩ := hL1.cells 2 (by omega)
 simp only [Isa.atD, Isa.atA, Isa.atB, Isa.bits, Isa.layD, Isa.layA, Isa.layB, Isa.layN, List.getD_cons_succ, List.getD_cons_zero, Nat.reduceMul, Nat.reduceAdd, Int.cast_ofNat_Int] at l1 l2 l3 l4
 have z0 := hL1.lt
 have HB1 := Lib.hid (below_next (below_alloc' (Below.refl _ _) _) hb1)
 go_wp2_with fail
 refine wp_loop_rounds 4 ?_
 rw [rounds_succ]
 go_wp2_with fail
 go_ret2
 exact ⟨rfl, (below_alloc' (below_alloc' (below_alloc' HB1.out _) _) _)⟩
theorem enc_bad2a (n : Nat) (h1 : 1 ≤ n) (h2 : n < 49) (hf : (Isa.formOf n : Int) = 2) (d a b imm : Int) (hd : 0 ≤ d ∧ d ≤ 15) (hb : 0 ≤ b ∧ b ≤ 255) (ha : 16 ≤ a ∧ a ≤ 255) (him : -2147483648 ≤ imm ∧ imm ≤ 2147483647) (w : World) (hL : Isa.Laid w) :
 Calls Tryz.prog 70 #[.agg #[.int .i64 (n : Int), .int .u8 d, .int .u8 a, .int .u8 b, .int .i32 imm]] w (Isa.EncPost 0 101 w) := by
 have q0 : decide (16 ≤ d) = false := by simp; omega
 have q1 : decide (16 ≤ a) = true := by simp; omega
 have i0 := fun W => (index_three d a b 22 18 (-1) W).1
 have i1 := fun W => (index_three d a b 22 18 (-1) W).2.1
 have i2 := fun W => (index_three d a b 22 18 (-1) W).2.2
 go_enter Tryz.func70, Tryz.ntmps70
 go_wp2_with fail
 refine (of_at n h1 h2 2 hf _).mono ?_
 rintro e w1 ⟨rfl, hb1⟩
 have hL1 := (hL.below (below_alloc' (Below.refl _ _) _)).below hb1
 have k1 := blk_keep hb1 (heap_alloc_new _ _)
 obtain ⟨d1, f1⟩ := blk_facts k1
 have z1 := blk_size k1
 have z1k : ∀ k, w.heap.size < w1.heap.size + k := fun k => by omega
 obtain ⟨l1, l2, l3, l4⟩ := hL1.cells 2 (by omega)
 simp only [Isa.atD, Isa.atA, Isa.atB, Isa.bits, Isa.layD, Isa.layA, Isa.layB, Isa.layN, List.getD_cons_succ, List.getD_cons_zero, Nat.reduceMul, Nat.reduceAdd, Int.cast_ofNat_Int] at l1 l2 l3 l4
 have z0 := hL1.lt
 have HB1 := Lib.hid (below_next (below_alloc' (Below.refl _ _) _) hb1)
 go_wp2_with fail
 refine wp_loop_rounds 4 ?_
 rw [rounds_succ]
 go_wp2_with fail
 rw [rounds_succ]
 go_wp2_with fail
 go_ret2
 exact ⟨rfl, (below_alloc' (below_alloc' (below_alloc' (below_alloc' HB1.out _) _) _) _)⟩
theorem enc_bad2b (n : Nat) (h1 : 1 ≤ n) (h2 : n < 49) (hf : (Isa.formOf n : Int) = 2) (d a b imm : Int) (hd : 0 ≤ d ∧ d ≤ 15) (ha : 0 ≤ a ∧ a ≤ 15) (hb : 0 < b ∧ b ≤ 255) (him : -2147483648 ≤ imm ∧ imm ≤ 2147483647) (w : World) (hL : Isa.Laid w) :
 Calls Tryz.prog 70 #[.agg #[.int .i64 (n : Int), .int .u8 d, .int .u8 a, .int .u8 b, .int .i32 imm]] w (Isa.EncPost 0 101 w) := by
 by_cases h16 : 16 ≤ b
 · have h17 := h16
   have q0 : decide (16 ≤ d) = false := by simp; omega
   have q1 : decide (16 ≤ a) = false := by simp; omega
   have q2 : decide (16 ≤ b) = true := by simp; omega
   have i0 := fun W => (index_three d a b 22 18 (-1) W).1
   have i1 := fun W => (index_three d a b 22 18 (-1) W).2.1
   have i2 := fun W => (index_three d a b 22 18 (-1) W).2.2
   go_enter Tryz.func70, Tryz.ntmps70
   go_wp2_with fail
   refine (of_at n h1 h2 2 hf _).mono ?_
   rintro e w1 ⟨rfl, hb1⟩
   have hL1 := (hL.below (below_alloc' (Below.refl _ _) _)).below hb1
   have k1 := blk_keep hb1 (heap_alloc_new _ _)
   obtain ⟨d1, f1⟩ := blk_facts k1
   have z1 := blk_size k1
   have z1k : ∀ k, w.heap.size < w1.heap.size + k := fun k => by omega
   obtain ⟨l1, l2, l3, l4⟩ := hL1.cells 2 (by omega)
   simp only [Isa.atD, Isa.atA, Isa.atB, Isa.bits, Isa.layD, Isa.layA, Isa.layB, Isa.layN, List.getD_cons_succ, List.getD_cons_zero, Nat.reduceMul, Nat.reduceAdd, Int.cast_ofNat_Int] at l1 l2 l3 l4
   have z0 := hL1.lt
   have HB1 := Lib.hid (below_next (below_alloc' (Below.refl _ _) _) hb1)
   go_wp2_with fail
   refine wp_loop_rounds 4 ?_
   rw [rounds_succ]
   go_wp2_with fail
   rw [rounds_succ]
   go_wp2_with fail
   rw [rounds_succ]
   go_wp2_with fail
   go_ret2
   exact ⟨rfl, (below_alloc' (below_alloc' (below_alloc' (below_alloc' (below_alloc' HB1.out _) _) _) _) _)⟩
 · have h17 := h16
   have q0 : decide (16 ≤ d) = false := by simp; omega
   have q1 : decide (16 ≤ a) = false := by simp; omega
   have q2 : decide (16 ≤ b) = false := by simp; omega
   have p2 : decide (0 < b) = true := by simp; omega
   have i0 := fun W => (index_three d a b 22 18 (-1) W).1
   have i1 := fun W => (index_three d a b 22 18 (-1) W).2.1
   have i2 := fun W => (index_three d a b 22 18 (-1) W).2.2
   go_enter Tryz.func70, Tryz.ntmps70
   go_wp2_with fail
   refine (of_at n h1 h2 2 hf _).mono ?_
   rintro e w1 ⟨rfl, hb1⟩
   have hL1 := (hL.below (below_alloc' (Below.refl _ _) _)).below hb1
   have k1 := blk_keep hb1 (heap_alloc_new _ _)
   obtain ⟨d1, f1⟩ := blk_facts k1
   have z1 := blk_size k1
   have z1k : ∀ k, w.heap.size < w1.heap.size + k := fun k => by omega
   obtain ⟨l1, l2, l3, l4⟩ := hL1.cells 2 (by omega)
   simp only [Isa.atD, Isa.atA, Isa.atB, Isa.bits, Isa.layD, Isa.layA, Isa.layB, Isa.layN, List.getD_cons_succ, List.getD_cons_zero, Nat.reduceMul, Nat.reduceAdd, Int.cast_ofNat_Int] at l1 l2 l3 l4
   have z0 := hL1.lt
   have HB1 := Lib.hid (below_next (below_alloc' (Below.refl _ _) _) hb1)
   go_wp2_with fail
   refine wp_loop_rounds 4 ?_
   rw [rounds_succ]
   go_wp2_with fail
   rw [rounds_succ]
   go_wp2_with fail
   rw [rounds_succ]
   go_wp2_with fail
   go_ret2
   exact ⟨rfl, (below_alloc' (below_alloc' (below_alloc' (below_alloc' (below_alloc' HB1.out _) _) _) _) _)⟩
end Go.Proofs.YtabmlbnnhhpaoaaGreatDoor
set_option maxHeartbeats 4000000
set_option maxRecDepth 100000
namespace Go.Proofs.YtabmlbnnhhpaoaaGreatDoor
open Go.RowKit
theorem enc_good3 (n : Nat) (h1 : 1 ≤ n) (h2 : n < 49) (hf : (Isa.formOf n : Int) = 3) (a b imm : Int) (ha : 0 ≤ a ∧ a ≤ 15) (hb : 0 ≤ b ∧ b ≤ 15) (him : -2147483648 ≤ imm ∧ imm ≤ 2147483647) (hF : Isa.fits 3 (Isa.numOf n) imm = true) (w : World) (hL : Isa.Laid w) :
 Calls Tryz.prog 70 #[.agg #[.int .i64 (n : Int), .int .u8 0, .int .u8 a, .int .u8 b, .int .i32 imm]] w (Isa.EncPost (bits BinOp.or IntKind.u32 (bits BinOp.or IntKind.u32 (bits BinOp.or IntKind.u32 ((n : Int) * 67108864) (a * 4194304)) (b * 262144)) (bits BinOp.and IntKind.u32 (imm % 4294967296) 262143)) (0) w) := by
 have q0 : decide (16 ≤ a) = false := by simp; omega
 have q1 : decide (16 ≤ b) = false := by simp; omega
 have i0 := fun W => (index_three 0 a b (-1) 22 18 W).1
 have i1 := fun W => (index_three 0 a b (-1) 22 18 W).2.1
 have i2 := fun W => (index_three 0 a b (-1) 22 18 W).2.2
 go_enter Tryz.func70, Tryz.ntmps70
 go_wp2_with fail
 refine (of_at n h1 h2 3 hf _).mono ?_
 rintro e w1 ⟨rfl, hb1⟩
 have hL1 := (hL.below (below_alloc' (Below.refl _ _) _)).below hb1
 have k1 := blk_keep hb1 (heap_alloc_new _ _)
 obtain ⟨d1, f1⟩ := blk_facts k1
 have z1 := blk_size k1
 have z1k : ∀ k, w.heap.size < w1.heap.size + k := fun k => by omega
 obtain ⟨l1, l2, l3, l4⟩ := hL1.cells 3 (by omega)
 simp only [Isa.atD, Isa.atA, Isa.atB, Isa.bits, Isa.layD, Isa.layA, Isa.layB, Isa.layN, List.getD_cons_succ, List.getD_cons_zero, Nat.reduceMul, Nat.reduceAdd, Int.cast_ofNat_Int] at l1 l2 l3 l4
 have z0 := hL1.lt
 have HB1 := Lib.hid (below_next (below_alloc' (Below.refl _ _) _) hb1)
 go_wp2_with fail
 refine wp_loop_rounds 4 ?_
 rw [rounds_succ]
 go_wp2_with fail
 rw [rounds_succ]
 go_wp2_with fail
 rw [rounds_succ]
 go_wp2_with fail
 rw [rounds_succ]
 go_wp2_with fail
 refine (fits_at _ 3 3 rfl _ _ _ _ ?hl (Isa.table_facts ⟨n, h2⟩).1 (Isa.sig_at n h2 _ hf)).mono ?_
 case hl => exact ((((hL1.alloc _).alloc _).alloc _).alloc _).alloc _
 rintro e w2 ⟨rfl, hb2⟩
 have k2 := blk_keep hb2 (blk_alloc _ (blk_alloc _ (blk_alloc _ (blk_alloc _ (blk_alloc _ k1)))))
 have k3 := blk_keep hb2 (blk_alloc _ (blk_alloc _ (blk_alloc _ (heap_alloc2_new _ _ _))))
 obtain ⟨d2, f2⟩ := blk_facts k2
 obtain ⟨d3, f3⟩ := blk_facts k3
 have HB2 := Lib.hid (below_next (below_alloc' (below_alloc' (below_alloc' (below_alloc' (below_alloc' HB1.out _) _) _) _) _) hb2)
 go_wp2_with fail
 go_quiet (fail)
 go_wp2_with fail
 go_ret2
 exact ⟨rfl, below_drewN' HB2.out _⟩
theorem enc_imm3 (n : Nat) (h1 : 1 ≤ n) (h2 : n < 49) (hf : (Isa.formOf n : Int) = 3) (a b imm : Int) (ha : 0 ≤ a ∧ a ≤ 15) (hb : 0 ≤ b ∧ b ≤ 15) (him : -2147483648 ≤ imm ∧ imm ≤ 2147483647) (hF : Isa.fits 3 (Isa.numOf n) imm = false) (w : World) (hL : Isa.Laid w) :
 Calls Tryz.prog 70 #[.agg #[.int .i64 (n : Int), .int .u8 0, .int .u8 a, .int .u8 b, .int .i32 imm]] w (Isa.EncPost (0) (102) w) := by
 have q0 : decide (16 ≤ a) = false := by simp; omega
 have q1 : decide (16 ≤ b) = false := by simp; omega
 have i0 := fun W => (index_three 0 a b (-1) 22 18 W).1
 have i1 := fun W => (index_three 0 a b (-1) 22 18 W).2.1
 have i2 := fun W => (index_three 0 a b (-1) 22 18 W).2.2
 go_enter Tryz.func70, Tryz.ntmps70
 go_wp2_with fail
 refine (of_at n h1 h2 3 hf _).mono ?_
 rintro e w1 ⟨rfl, hb1⟩
 have hL1 := (hL.below (below_alloc' (Below.refl _ _) _)).below hb1
 have k1 := blk_keep hb1 (heap_alloc_new _ _)
 obtain ⟨d1, f1⟩ := blk_facts k1
 have z1 := blk_size k1
 have z1k : ∀ k, w.heap.size < w1.heap.size + k := fun k => by omega
 obtain ⟨l1, l2, l3, l4⟩ := hL1.cells 3 (by omega)
 simp only [Isa.atD, Isa.atA, Isa.atB, Isa.bits, Isa.layD, Isa.layA, Isa.layB, Isa.layN, List.getD_cons_succ, List.getD_cons_zero, Nat.reduceMul, Nat.reduceAdd, Int.cast_ofNat_Int] at l1 l2 l3 l4
 have z0 := hL1.lt
 have HB1 := Lib.hid (below_next (below_alloc' (Below.refl _ _) _) hb1)
 go_wp2_with fail
 refine wp_loop_rounds 4 ?_
 rw [rounds_succ]
 go_wp2_with fail
 rw [rounds_succ]
 go_wp2_with fail
 rw [rounds_succ]
 go_wp2_with fail
 rw [rounds_succ]
 go_wp2_with fail
 refine (fits_at _ 3 3 rfl _ _ _ _ ?hl (Isa.table_facts ⟨n, h2⟩).1 (Isa.sig_at n h2 _ hf)).mono ?_
 case hl => exact ((((hL1.alloc _).alloc _).alloc _).alloc _).alloc _
 rintro e w2 ⟨rfl, hb2⟩
 have k2 := blk_keep hb2 (blk_alloc _ (blk_alloc _ (blk_alloc _ (blk_alloc _ (blk_alloc _ k1)))))
 have k3 := blk_keep hb2 (blk_alloc _ (blk_alloc _ (blk_alloc _ (heap_alloc2_new _ _ _))))
 obtain ⟨d2, f2⟩ := blk_facts k2
 obtain ⟨d3, f3⟩ := blk_facts k3
 have HB2 := Lib.hid (below_next (below_alloc' (below_alloc' (below_alloc' (below_alloc' (below_alloc' HB1.out _) _) _) _) _) hb2)
 go_wp2_with fail
 go_ret2
 exact ⟨rfl, HB2.out⟩
theorem enc_bad3d (n : Nat) (h1 : 1 ≤ n) (h2 : n < 49) (hf : (Isa.formOf n : Int) = 3) (d a b imm : Int) (ha : 0 ≤ a ∧ a ≤ 255) (hb : 0 ≤ b ∧ b ≤ 255) (hd : 0 < d ∧ d ≤ 255) (him : -2147483648 ≤ imm ∧ imm ≤ 2147483647) (w : World) (hL : Isa.Laid w) :
 Calls Tryz.prog 70 #[.agg #[.int .i64 (n : Int), .int .u8 d, .int .u8 a, .int .u8 b, .int .i32 imm]] w (Isa.EncPost 0 101 w) := by
 by_cases h16 : 16 ≤ d
 · have h17 := h16
   have q0 : decide (16 ≤ d) = true := by simp; omega
   have i0 := fun W => (index_three d a b (-1) 22 18 W).1
   have i1 := fun W => (index_three d a b (-1) 22 18 W).2.1
   have i2 := fun W => (index_three d a b (-1) 22 18 W).2.2
   go_enter Tryz.func70, Tryz.ntmps70
   go_wp2_with fail
   refine (of_at n h1 h2 3 hf _).mono ?_
   rintro e w1 ⟨rfl, hb1⟩
   have hL1 := (hL.below (below_alloc' (Below.refl _ _) _)).below hb1
   have k1 := blk_keep hb1 (heap_alloc_new _ _)
   obtain ⟨d1, f1⟩ := blk_facts k1
   have z1 := blk_size k1
   have z1k : ∀ k, w.heap.size < w1.heap.size + k := fun k => by omega
   obtain ⟨l1, l2, l3, l4⟩ := hL1.cells 3 (by omega)
   simp only [Isa.atD, Isa.atA, Isa.atB, Isa.bits, Isa.layD, Isa.layA, Isa.layB, Isa.layN, List.getD_cons_succ, List.getD_cons_zero, Nat.reduceMul, Nat.reduceAdd, Int.cast_ofNat_Int] at l1 l2 l3 l4
   have z0 := hL1.lt
   have HB1 := Lib.hid (below_next (below_alloc' (Below.refl _ _) _) hb1)
   go_wp2_with fail
   refine wp_loop_rounds 4 ?_
   rw [rounds_succ]
   go_wp2_with fail
   go_ret2
   exact ⟨rfl, (below_alloc' (below_alloc' (below_alloc' HB1.out _) _) _)⟩
 · have h17 := h16
   have q0 : decide (16 ≤ d) = false := by simp; omega
   have p0 : decide (0 < d) = true := by simp; omega
   have i0 := fun W => (index_three d a b (-1) 22 18 W).1
   have i1 := fun W => (index_three d a b (-1) 22 18 W).2.1
   have i2 := fun W => (index_three d a b (-1) 22 18 W).2.2
   go_enter Tryz.func70, Tryz.ntmps70
   go_wp2_with fail
   refine (of_at n h1 h2 3 hf _).mono ?_
   rintro e w1 ⟨rfl, hb1⟩
   have hL1 := (hL.below (below_alloc' (Below.refl _ _) _)).below hb1
   have k1 := blk_keep hb1 (heap_alloc_new _ _)
   obtain ⟨d1, f1⟩ := blk_facts k1
   have z1 := blk_size k1
   have z1k : ∀ k, w.heap.size < w1.heap.size + k := fun k => by omega
   obtain ⟨l1, l2, l3, l4⟩ := hL1.cells 3 (by omega)
   simp only [Isa.atD, Isa.atA, Isa.atB, Isa.bits, Isa.layD, Isa.layA, Isa.layB, Isa.layN, List.getD_cons_succ, List.getD_cons_zero, Nat.reduceMul, Nat.reduceAdd, Int.cast_ofNat_Int] at l1 l2 l3 l4
   have z0 := hL1.lt
   have HB1 := Lib.hid (below_next (below_alloc' (Below.refl _ _) _) hb1)
   go_wp2_with fail
   refine wp_loop_rounds 4 ?_
   rw [rounds_succ]
   go_wp2_with fail
   go_ret2
   exact ⟨rfl, (below_alloc' (below_alloc' (below_alloc' HB1.out _) _) _)⟩
theorem enc_bad3a (n : Nat) (h1 : 1 ≤ n) (h2 : n < 49) (hf : (Isa.formOf n : Int) = 3) (d a b imm : Int) (hd : d = 0) (hb : 0 ≤ b ∧ b ≤ 255) (ha : 16 ≤ a ∧ a ≤ 255) (him : -2147483648 ≤ imm ∧ imm ≤ 2147483647) (w : World) (hL : Isa.Laid w) :
 Calls Tryz.prog 70 #[.agg #[.int .i64 (n : Int), .int .u8 d, .int .u8 a, .int .u8 b, .int .i32 imm]] w (Isa.EncPost 0 101 w) := by
 subst hd
 have q1 : decide (16 ≤ a) = true := by simp; omega
 have i0 := fun W => (index_three 0 a b (-1) 22 18 W).1
 have i1 := fun W => (index_three 0 a b (-1) 22 18 W).2.1
 have i2 := fun W => (index_three 0 a b (-1) 22 18 W).2.2
 go_enter Tryz.func70, Tryz.ntmps70
 go_wp2_with fail
 refine (of_at n h1 h2 3 hf _).mono ?_
 rintro e w1 ⟨rfl, hb1⟩
 have hL1 := (hL.below (below_alloc' (Below.refl _ _) _)).below hb1
 have k1 := blk_keep hb1 (heap_alloc_new _ _)
 obtain ⟨d1, f1⟩ := blk_facts k1
 have z1 := blk_size k1
 have z1k : ∀ k, w.heap.size < w1.heap.size + k := fun k => by omega
 obtain ⟨l1, l2, l3, l4⟩ := hL1.cells 3 (by omega)
 simp only [Isa.atD, Isa.atA, Isa.atB, Isa.bits, Isa.layD, Isa.layA, Isa.layB, Isa.layN, List.getD_cons_succ, List.getD_cons_zero, Nat.reduceMul, Nat.reduceAdd, Int.cast_ofNat_Int] at l1 l2 l3 l4
 have z0 := hL1.lt
 have HB1 := Lib.hid (below_next (below_alloc' (Below.refl _ _) _) hb1)
 go_wp2_with fail
 refine wp_loop_rounds 4 ?_
 rw [rounds_succ]
 go_wp2_with fail
 rw [rounds_succ]
 go_wp2_with fail
 go_ret2
 exact ⟨rfl, (below_alloc' (below_alloc' (below_alloc' (below_alloc' HB1.out _) _) _) _)⟩
theorem enc_bad3b (n : Nat) (h1 : 1 ≤ n) (h2 : n < 49) (hf : (Isa.formOf n : Int) = 3) (d a b imm : Int) (hd : d = 0) (ha : 0 ≤ a ∧ a ≤ 15) (hb : 16 ≤ b ∧ b ≤ 255) (him : -2147483648 ≤ imm ∧ imm ≤ 2147483647) (w : World) (hL : Isa.Laid w) :
 Calls Tryz.prog 70 #[.agg #[.int .i64 (n : Int), .int .u8 d, .int .u8 a, .int .u8 b, .int .i32 imm]] w (Isa.EncPost 0 101 w) := by
 subst hd
 have q1 : decide (16 ≤ a) = false := by simp; omega
 have q2 : decide (16 ≤ b) = true := by simp; omega
 have i0 := fun W => (index_three 0 a b (-1) 22 18 W).1
 have i1 := fun W => (index_three 0 a b (-1) 22 18 W).2.1
 have i2 := fun W => (index_three 0 a b (-1) 22 18 W).2.2
 go_enter Tryz.func70, Tryz.ntmps70
 go_wp2_with fail
 refine (of_at n h1 h2 3 hf _).mono ?_
 rintro e w1 ⟨rfl, hb1⟩
 have hL1 := (hL.below (below_alloc' (Below.refl _ _) _)).below hb1
 have k1 := blk_keep hb1 (heap_alloc_new _ _)
 obtain ⟨d1, f1⟩ := blk_facts k1
 have z1 := blk_size k1
 have z1k : ∀ k, w.heap.size < w1.heap.size + k := fun k => by omega
 obtain ⟨l1, l2, l3, l4⟩ := hL1.cells 3 (by omega)
 simp only [Isa.atD, Isa.atA, Isa.atB, Isa.bits, Isa.layD, Isa.layA, Isa.layB, Isa.layN, List.getD_cons_succ, List.getD_cons_zero, Nat.reduceMul, Nat.reduceAdd, Int.cast_ofNat_Int] at l1 l2 l3 l4
 have z0 := hL1.lt
 have HB1 := Lib.hid (below_next (below_alloc' (Below.refl _ _) _) hb1)
 go_wp2_with fail
 refine wp_loop_rounds 4 ?_
 rw [rounds_succ]
 go_wp2_with fail
 rw [rounds_succ]
 go_wp2_with fail
 rw [rounds_succ]
 go_wp2_with fail
 go_ret2
 exact ⟨rfl, (below_alloc' (below_alloc' (below_alloc' (below_alloc' (below_alloc' HB1.out _) _) _) _) _)⟩
theorem enc_good4 (n : Nat) (h1 : 1 ≤ n) (h2 : n < 49) (hf : (Isa.formOf n : Int) = 4) (d imm : Int) (hd : 0 ≤ d ∧ d ≤ 15) (him : -2147483648 ≤ imm ∧ imm ≤ 2147483647) (hF : Isa.fits 4 (Isa.numOf n) imm = true) (w : World) (hL : Isa.Laid w) :
 Calls Tryz.prog 70 #[.agg #[.int .i64 (n : Int), .int .u8 d, .int .u8 0, .int .u8 0, .int .i32 imm]] w (Isa.EncPost (bits BinOp.or IntKind.u32 (bits BinOp.or IntKind.u32 ((n : Int) * 67108864) (d * 4194304)) (bits BinOp.and IntKind.u32 (imm % 4294967296) 4194303)) (0) w) := by
 have q0 : decide (16 ≤ d) = false := by simp; omega
 have i0 := fun W => (index_three d 0 0 22 (-1) (-1) W).1
 have i1 := fun W => (index_three d 0 0 22 (-1) (-1) W).2.1
 have i2 := fun W => (index_three d 0 0 22 (-1) (-1) W).2.2
 go_enter Tryz.func70, Tryz.ntmps70
 go_wp2_with fail
 refine (of_at n h1 h2 4 hf _).mono ?_
 rintro e w1 ⟨rfl, hb1⟩
 have hL1 := (hL.below (below_alloc' (Below.refl _ _) _)).below hb1
 have k1 := blk_keep hb1 (heap_alloc_new _ _)
 obtain ⟨d1, f1⟩ := blk_facts k1
 have z1 := blk_size k1
 have z1k : ∀ k, w.heap.size < w1.heap.size + k := fun k => by omega
 obtain ⟨l1, l2, l3, l4⟩ := hL1.cells 4 (by omega)
 simp only [Isa.atD, Isa.atA, Isa.atB, Isa.bits, Isa.layD, Isa.layA, Isa.layB, Isa.layN, List.getD_cons_succ, List.getD_cons_zero, Nat.reduceMul, Nat.reduceAdd, Int.cast_ofNat_Int] at l1 l2 l3 l4
 have z0 := hL1.lt
 have HB1 := Lib.hid (below_next (below_alloc' (Below.refl _ _) _) hb1)
 go_wp2_with fail
 refine wp_loop_rounds 4 ?_
 rw [rounds_succ]
 go_wp2_with fail
 rw [rounds_succ]
 go_wp2_with fail
 rw [rounds_succ]
 go_wp2_with fail
 rw [rounds_succ]
 go_wp2_with fail
 refine (fits_at _ 4 4 rfl _ _ _ _ ?hl (Isa.table_facts ⟨n, h2⟩).1 (Isa.sig_at n h2 _ hf)).mono ?_
 case hl => exact ((((hL1.alloc _).alloc _).alloc _).alloc _).alloc _
 rintro e w2 ⟨rfl, hb2⟩
 have k2 := blk_keep hb2 (blk_alloc _ (blk_alloc _ (blk_alloc _ (blk_alloc _ (blk_alloc _ k1)))))
 have k3 := blk_keep hb2 (blk_alloc _ (blk_alloc _ (blk_alloc _ (heap_alloc2_new _ _ _))))
 obtain ⟨d2, f2⟩ := blk_facts k2
 obtain ⟨d3, f3⟩ := blk_facts k3
 have HB2 := Lib.hid (below_next (below_alloc' (below_alloc' (below_alloc' (below_alloc' (below_alloc' HB1.out _) _) _) _) _) hb2)
 go_wp2_with fail
 go_quiet (fail)
 go_wp2_with fail
 go_ret2
 exact ⟨rfl, below_drewN' HB2.out _⟩
theorem enc_imm4 (n : Nat) (h1 : 1 ≤ n) (h2 : n < 49) (hf : (Isa.formOf n : Int) = 4) (d imm : Int) (hd : 0 ≤ d ∧ d ≤ 15) (him : -2147483648 ≤ imm ∧ imm ≤ 2147483647) (hF : Isa.fits 4 (Isa.numOf n) imm = false) (w : World) (hL : Isa.Laid w) :
 Calls Tryz.prog 70 #[.agg #[.int .i64 (n : Int), .int .u8 d, .int .u8 0, .int .u8 0, .int .i32 imm]] w (Isa.EncPost (0) (102) w) := by
 have q0 : decide (16 ≤ d) = false := by simp; omega
 have i0 := fun W => (index_three d 0 0 22 (-1) (-1) W).1
 have i1 := fun W => (index_three d 0 0 22 (-1) (-1) W).2.1
 have i2 := fun W => (index_three d 0 0 22 (-1) (-1) W).2.2
 go_enter Tryz.func70, Tryz.ntmps70
 go_wp2_with fail
 refine (of_at n h1 h2 4 hf _).mono ?_
 rintro e w1 ⟨rfl, hb1⟩
 have hL1 := (hL.below (below_alloc' (Below.refl _ _) _)).below hb1
 have k1 := blk_keep hb1 (heap_alloc_new _ _)
 obtain ⟨d1, f1⟩ := blk_facts k1
 have z1 := blk_size k1
 have z1k : ∀ k, w.heap.size < w1.heap.size + k := fun k => by omega
 obtain ⟨l1, l2, l3, l4⟩ := hL1.cells 4 (by omega)
 simp only [Isa.atD, Isa.atA, Isa.atB, Isa.bits, Isa.layD, Isa.layA, Isa.layB, Isa.layN, List.getD_cons_succ, List.getD_cons_zero, Nat.reduceMul, Nat.reduceAdd, Int.cast_ofNat_Int] at l1 l2 l3 l4
 have z0 := hL1.lt
 have HB1 := Lib.hid (below_next (below_alloc' (Below.refl _ _) _) hb1)
 go_wp2_with fail
 refine wp_loop_rounds 4 ?_
 rw [rounds_succ]
 go_wp2_with fail
 rw [rounds_succ]
 go_wp2_with fail
 rw [rounds_succ]
 go_wp2_with fail
 rw [rounds_succ]
 go_wp2_with fail
 refine (fits_at _ 4 4 rfl _ _ _ _ ?hl (Isa.table_facts ⟨n, h2⟩).1 (Isa.sig_at n h2 _ hf)).mono ?_
 case hl => exact ((((hL1.alloc _).alloc _).alloc _).alloc _).alloc _
 rintro e w2 ⟨rfl, hb2⟩
 have k2 := blk_keep hb2 (blk_alloc _ (blk_alloc _ (blk_alloc _ (blk_alloc _ (blk_alloc _ k1)))))
 have k3 := blk_keep hb2 (blk_alloc _ (blk_alloc _ (blk_alloc _ (heap_alloc2_new _ _ _))))
 obtain ⟨d2, f2⟩ := blk_facts k2
 obtain ⟨d3, f3⟩ := blk_facts k3
 have HB2 := Lib.hid (below_next (below_alloc' (below_alloc' (below_alloc' (below_alloc' (below_alloc' HB1.out _) _) _) _) _) hb2)
 go_wp2_with fail
 go_ret2
 exact ⟨rfl, HB2.out⟩
theorem enc_bad4d (n : Nat) (h1 : 1 ≤ n) (h2 : n < 49) (hf : (Isa.formOf n : Int) = 4) (d a b imm : Int) (ha : 0 ≤ a ∧ a ≤ 255) (hb : 0 ≤ b ∧ b ≤ 255) (hd : 16 ≤ d ∧ d ≤ 255) (him : -2147483648 ≤ imm ∧ imm ≤ 2147483647) (w : World) (hL : Isa.Laid w) :
 Calls Tryz.prog 70 #[.agg #[.int .i64 (n : Int), .int .u8 d, .int .u8 a, .int .u8 b, .int .i32 imm]] w (Isa.EncPost 0 101 w) := by
 have q0 : decide (16 ≤ d) = true := by simp; omega
 have i0 := fun W => (index_three d a b 22 (-1) (-1) W).1
 have i1 := fun W => (index_three d a b 22 (-1) (-1) W).2.1
 have i2 := fun W => (index_three d a b 22 (-1) (-1) W).2.2
 go_enter Tryz.func70, Tryz.ntmps70
 go_wp2_with fail
 refine (of_at n h1 h2 4 hf _).mono ?_
 rintro e w1 ⟨rfl, hb1⟩
 have hL1 := (hL.below (below_alloc' (Below.refl _ _) _)).below hb1
 have k1 := blk_keep hb1 (heap_alloc_new _ _)
 obtain ⟨d1, f1⟩ := blk_facts k1
 have z1 := blk_size k1
 have z1k : ∀ k, w.heap.size < w1.heap.size + k := fun k => by omega
 obtain ⟨l1, l2, l3, l4⟩ := hL1.cells 4 (by omega)
 simp only [Isa.atD, Isa.atA, Isa.atB, Isa.bits, Isa.layD, Isa.layA, Isa.layB, Isa.layN, List.getD_cons_succ, List.getD_cons_zero, Nat.reduceMul, Nat.reduceAdd, Int.cast_ofNat_Int] at l1 l2 l3 l4
 have z0 := hL1.lt
 have HB1 := Lib.hid (below_next (below_alloc' (Below.refl _ _) _) hb1)
 go_wp2_with fail
 refine wp_loop_rounds 4 ?_
 rw [rounds_succ]
 go_wp2_with fail
 go_ret2
 exact ⟨rfl, (below_alloc' (below_alloc' (below_alloc' HB1.out _) _) _)⟩
theorem enc_bad4a (n : Nat) (h1 : 1 ≤ n) (h2 : n < 49) (hf : (Isa.formOf n : Int) = 4) (d a b imm : Int) (hd : 0 ≤ d ∧ d ≤ 15) (hb : 0 ≤ b ∧ b ≤ 255) (ha : 0 < a ∧ a ≤ 255) (him : -2147483648 ≤ imm ∧ imm ≤ 2147483647) (w : World) (hL : Isa.Laid w) :
 Calls Tryz.prog 70 #[.agg #[.int .i64 (n : Int), .int .u8 d, .int .u8 a, .int .u8 b, .int .i32 imm]] w (Isa.EncPost 0 101 w) := by
 by_cases h16 : 16 ≤ a
 · have h17 := h16
   have q0 : decide (16 ≤ d) = false := by simp; omega
   have q1 : decide (16 ≤ a) = true := by simp; omega
   have i0 := fun W => (index_three d a b 22 (-1) (-1) W).1
   have i1 := fun W => (index_three d a b 22 (-1) (-1) W).2.1
   have i2 := fun W => (index_three d a b 22 (-1) (-1) W).2.2
   go_enter Tryz.func70, Tryz.ntmps70
   go_wp2_with fail
   refine (of_at n h1 h2 4 hf _).mono ?_
   rintro e w1 ⟨rfl, hb1⟩
   have hL1 := (hL.below (below_alloc' (Below.refl _ _) _)).below hb1
   have k1 := blk_keep hb1 (heap_alloc_new _ _)
   obtain ⟨d1, f1⟩ := blk_facts k1
   have z1 := blk_size k1
   have z1k : ∀ k, w.heap.size < w1.heap.size + k := fun k => by omega
   obtain ⟨l1, l2, l3, l4⟩ := hL1.cells 4 (by omega)
   simp only [Isa.atD, Isa.atA, Isa.atB, Isa.bits, Isa.layD, Isa.layA, Isa.layB, Isa.layN, List.getD_cons_succ, List.getD_cons_zero, Nat.reduceMul, Nat.reduceAdd, Int.cast_ofNat_Int] at l1 l2 l3 l4
   have z0 := hL1.lt
   have HB1 := Lib.hid (below_next (below_alloc' (Below.refl _ _) _) hb1)
   go_wp2_with fail
   refine wp_loop_rounds 4 ?_
   rw [rounds_succ]
   go_wp2_with fail
   rw [rounds_succ]
   go_wp2_with fail
   go_ret2
   exact ⟨rfl, (below_alloc' (below_alloc' (below_alloc' (below_alloc' HB1.out _) _) _) _)⟩
 · have h17 := h16
   have q0 : decide (16 ≤ d) = false := by simp; omega
   have q1 : decide (16 ≤ a) = false := by simp; omega
   have p1 : decide (0 < a) = true := by simp; omega
   have i0 := fun W => (index_three d a b 22 (-1) (-1) W).1
   have i1 := fun W => (index_three d a b 22 (-1) (-1) W).2.1
   have i2 := fun W => (index_three d a b 22 (-1) (-1) W).2.2
   go_enter Tryz.func70, Tryz.ntmps70
   go_wp2_with fail
   refine (of_at n h1 h2 4 hf _).mono ?_
   rintro e w1 ⟨rfl, hb1⟩
   have hL1 := (hL.below (below_alloc' (Below.refl _ _) _)).below hb1
   have k1 := blk_keep hb1 (heap_alloc_new _ _)
   obtain ⟨d1, f1⟩ := blk_facts k1
   have z1 := blk_size k1
   have z1k : ∀ k, w.heap.size < w1.heap.size + k := fun k => by omega
   obtain ⟨l1, l2, l3, l4⟩ := hL1.cells 4 (by omega)
   simp only [Isa.atD, Isa.atA, Isa.atB, Isa.bits, Isa.layD, Isa.layA, Isa.layB, Isa.layN, List.getD_cons_succ, List.getD_cons_zero, Nat.reduceMul, Nat.reduceAdd, Int.cast_ofNat_Int] at l1 l2 l3 l4
   have z0 := hL1.lt
   have HB1 := Lib.hid (below_next (below_alloc' (Below.refl _ _) _) hb1)
   go_wp2_with fail
   refine wp_loop_rounds 4 ?_
   rw [rounds_succ]
   go_wp2_with fail
   rw [rounds_succ]
   go_wp2_with fail
   go_ret2
   exact ⟨rfl, (below_alloc' (below_alloc' (below_alloc' (below_alloc' HB1.out _) _) _) _)⟩
theorem enc_bad4b (n : Nat) (h1 : 1 ≤ n) (h2 : n < 49) (hf : (Isa.formOf n : Int) = 4) (d a b imm : Int) (hd : 0 ≤ d ∧ d ≤ 15) (ha : a = 0) (hb : 0 < b ∧ b ≤ 255) (him : -2147483648 ≤ imm ∧ imm ≤ 2147483647) (w : World) (hL : Isa.Laid w) :
 Calls Tryz.prog 70 #[.agg #[.int .i64 (n : Int), .int .u8 d, .int .u8 a, .int .u8 b, .int .i32 imm]] w (Isa.EncPost 0 101 w) := by
 by_cases h16 : 16 ≤ b
 · have h17 := h16
   have q0 : decide (16 ≤ d) = false := by simp; omega
   subst ha
   have q2 : decide (16 ≤ b) = true := by simp; omega
   have i0 := fun W => (index_three d 0 b 22 (-1) (-1) W).1
   have i1 := fun W => (index_three d 0 b 22 (-1) (-1) W).2.1
   have i2 := fun W => (index_three d 0 b 22 (-1) (-1) W).2.2
   go_enter Tryz.func70, Tryz.ntmps70
   go_wp2_with fail
   refine (of_at n h1 h2 4 hf _).mono ?_
   rintro e w1 ⟨rfl, hb1⟩
   have hL1 := (hL.below (below_alloc' (Below.refl _ _) _)).below hb1
   have k1 := blk_keep hb1 (heap_alloc_new _ _)
   obtain ⟨d1, f1⟩ := blk_facts k1
   have z1 := blk_size k1
   have z1k : ∀ k, w.heap.size < w1.heap.size + k := fun k => by omega
   obtain ⟨l1, l2, l3, l4⟩ := hL1.cells 4 (by omega)
   simp only [Isa.atD, Isa.atA, Isa.atB, Isa.bits, Isa.layD, Isa.layA, Isa.layB, Isa.layN, List.getD_cons_succ, List.getD_cons_zero, Nat.reduceMul, Nat.reduceAdd, Int.cast_ofNat_Int] at l1 l2 l3 l4
   have z0 := hL1.lt
   have HB1 := Lib.hid (below_next (below_alloc' (Below.refl _ _) _) hb1)
   go_wp2_with fail
   refine wp_loop_rounds 4 ?_
   rw [rounds_succ]
   go_wp2_with fail
   rw [rounds_succ]
   go_wp2_with fail
   rw [rounds_succ]
   go_wp2_with fail
   go_ret2
   exact ⟨rfl, (below_alloc' (below_alloc' (below_alloc' (below_alloc' (below_alloc' HB1.out _) _) _) _) _)⟩
 · have h17 := h16
   have q0 : decide (16 ≤ d) = false := by simp; omega
   subst ha
   have q2 : decide (16 ≤ b) = false := by simp; omega
   have p2 : decide (0 < b) = true := by simp; omega
   have i0 := fun W => (index_three d 0 b 22 (-1) (-1) W).1
   have i1 := fun W => (index_three d 0 b 22 (-1) (-1) W).2.1
   have i2 := fun W => (index_three d 0 b 22 (-1) (-1) W).2.2
   go_enter Tryz.func70, Tryz.ntmps70
   go_wp2_with fail
   refine (of_at n h1 h2 4 hf _).mono ?_
   rintro e w1 ⟨rfl, hb1⟩
   have hL1 := (hL.below (below_alloc' (Below.refl _ _) _)).below hb1
   have k1 := blk_keep hb1 (heap_alloc_new _ _)
   obtain ⟨d1, f1⟩ := blk_facts k1
   have z1 := blk_size k1
   have z1k : ∀ k, w.heap.size < w1.heap.size + k := fun k => by omega
   obtain ⟨l1, l2, l3, l4⟩ := hL1.cells 4 (by omega)
   simp only [Isa.atD, Isa.atA, Isa.atB, Isa.bits, Isa.layD, Isa.layA, Isa.layB, Isa.layN, List.getD_cons_succ, List.getD_cons_zero, Nat.reduceMul, Nat.reduceAdd, Int.cast_ofNat_Int] at l1 l2 l3 l4
   have z0 := hL1.lt
   have HB1 := Lib.hid (below_next (below_alloc' (Below.refl _ _) _) hb1)
   go_wp2_with fail
   refine wp_loop_rounds 4 ?_
   rw [rounds_succ]
   go_wp2_with fail
   rw [rounds_succ]
   go_wp2_with fail
   rw [rounds_succ]
   go_wp2_with fail
   go_ret2
   exact ⟨rfl, (below_alloc' (below_alloc' (below_alloc' (below_alloc' (below_alloc' HB1.out _) _) _) _) _)⟩
end Go.Proofs.YtabmlbnnhhpaoaaGreatDoor
