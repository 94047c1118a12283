/- What this claim needs of IsaEnc3, IsaEnc4, IsaEncAll. -/
import Derived.Test.YtabmlbnnhhpaoaaGreatDoorEMIsaBase
import Derived.Test.YtabmlbnnhhpaoaaGreatDoorEMIsaEncA
set_option linter.unusedSimpArgs false
set_option linter.unusedVariables false
set_option maxHeartbeats 4000000
set_option maxRecDepth 100000
namespace Go.Proofs.YtabmlbnnhhpaoaaGreatDoor
open Go.RowKit
theorem enc_good5 (n : Nat) (h1 : 1 ≤ n) (h2 : n < 49) (hf : (Isa.formOf n : Int) = 5) (d imm : Int) (hd : 0 ≤ d ∧ d ≤ 15) (him : -2147483648 ≤ imm ∧ imm ≤ 2147483647) (hF : Isa.fits 5 (Isa.numOf n) imm = true) (w : World) (hL : Isa.Laid w) :
 Calls Tryz.prog 70 #[.agg #[.int .i64 (n : Int), .int .u8 d, .int .u8 0, .int .u8 0, .int .i32 imm]] w (Isa.EncPost (bits BinOp.or IntKind.u32 (bits BinOp.or IntKind.u32 ((n : Int) * 67108864) (d * 4194304)) (bits BinOp.and IntKind.u32 (imm % 4294967296) 0)) (0) w) := by
 have q0 : decide (16 ≤ d) = false := by simp; omega
 have i0 := fun W => (index_three d 0 0 22 (-1) (-1) W).1
 have i1 := fun W => (index_three d 0 0 22 (-1) (-1) W).2.1
 have i2 := fun W => (index_three d 0 0 22 (-1) (-1) W).2.2
 go_enter Tryz.func70, Tryz.ntmps70
 go_wp2_with fail
 refine (of_at n h1 h2 5 hf _).mono ?_
 rintro e w1 ⟨rfl, hb1⟩
 have hL1 := (hL.below (below_alloc' (Below.refl _ _) _)).below hb1
 have k1 := blk_keep hb1 (heap_alloc_new _ _)
 obtain ⟨d1, f1⟩ := blk_facts k1
 have z1 := blk_size k1
 have z1k : ∀ k, w.heap.size < w1.heap.size + k := fun k => by omega
 obtain ⟨l1, l2, l3, l4⟩ := hL1.cells 5 (by omega)
 simp only [Isa.atD, Isa.atA, Isa.atB, Isa.bits, Isa.layD, Isa.layA, Isa.layB, Isa.layN, List.getD_cons_succ, List.getD_cons_zero, Nat.reduceMul, Nat.reduceAdd, Int.cast_ofNat_Int] at l1 l2 l3 l4
 have z0 := hL1.lt
 have HB1 := Lib.hid (below_next (below_alloc' (Below.refl _ _) _) hb1)
 go_wp2_with fail
 refine wp_loop_rounds 4 ?_
 rw [rounds_succ]
 go_wp2_with fail
 rw [rounds_succ]
 go_wp2_with fail
 rw [rounds_succ]
 go_wp2_with fail
 rw [rounds_succ]
 go_wp2_with fail
 refine (fits_at _ 5 5 rfl _ _ _ _ ?hl (Isa.table_facts ⟨n, h2⟩).1 (Isa.sig_at n h2 _ hf)).mono ?_
 case hl => exact ((((hL1.alloc _).alloc _).alloc _).alloc _).alloc _
 rintro e w2 ⟨rfl, hb2⟩
 have k2 := blk_keep hb2 (blk_alloc _ (blk_alloc _ (blk_alloc _ (blk_alloc _ (blk_alloc _ k1)))))
 have k3 := blk_keep hb2 (blk_alloc _ (blk_alloc _ (blk_alloc _ (heap_alloc2_new _ _ _))))
 obtain ⟨d2, f2⟩ := blk_facts k2
 obtain ⟨d3, f3⟩ := blk_facts k3
 have HB2 := Lib.hid (below_next (below_alloc' (below_alloc' (below_alloc' (below_alloc' (below_alloc' HB1.out _) _) _) _) _) hb2)
 go_wp2_with fail
 go_quiet (fail)
 go_wp2_with fail
 go_ret2
 exact ⟨rfl, below_drewN' HB2.out _⟩
theorem enc_imm5 (n : Nat) (h1 : 1 ≤ n) (h2 : n < 49) (hf : (Isa.formOf n : Int) = 5) (d imm : Int) (hd : 0 ≤ d ∧ d ≤ 15) (him : -2147483648 ≤ imm ∧ imm ≤ 2147483647) (hF : Isa.fits 5 (Isa.numOf n) imm = false) (w : World) (hL : Isa.Laid w) :
 Calls Tryz.prog 70 #[.agg #[.int .i64 (n : Int), .int .u8 d, .int .u8 0, .int .u8 0, .int .i32 imm]] w (Isa.EncPost (0) (102) w) := by
 have q0 : decide (16 ≤ d) = false := by simp; omega
 have i0 := fun W => (index_three d 0 0 22 (-1) (-1) W).1
 have i1 := fun W => (index_three d 0 0 22 (-1) (-1) W).2.1
 have i2 := fun W => (index_three d 0 0 22 (-1) (-1) W).2.2
 go_enter Tryz.func70, Tryz.ntmps70
 go_wp2_with fail
 refine (of_at n h1 h2 5 hf _).mono ?_
 rintro e w1 ⟨rfl, hb1⟩
 have hL1 := (hL.below (below_alloc' (Below.refl _ _) _)).below hb1
 have k1 := blk_keep hb1 (heap_alloc_new _ _)
 obtain ⟨d1, f1⟩ := blk_facts k1
 have z1 := blk_size k1
 have z1k : ∀ k, w.heap.size < w1.heap.size + k := fun k => by omega
 obtain ⟨l1, l2, l3, l4⟩ := hL1.cells 5 (by omega)
 simp only [Isa.atD, Isa.atA, Isa.atB, Isa.bits, Isa.layD, Isa.layA, Isa.layB, Isa.layN, List.getD_cons_succ, List.getD_cons_zero, Nat.reduceMul, Nat.reduceAdd, Int.cast_ofNat_Int] at l1 l2 l3 l4
 have z0 := hL1.lt
 have HB1 := Lib.hid (below_next (below_alloc' (Below.refl _ _) _) hb1)
 go_wp2_with fail
 refine wp_loop_rounds 4 ?_
 rw [rounds_succ]
 go_wp2_with fail
 rw [rounds_succ]
 go_wp2_with fail
 rw [rounds_succ]
 go_wp2_with fail
 rw [rounds_succ]
 go_wp2_with fail
 refine (fits_at _ 5 5 rfl _ _ _ _ ?hl (Isa.table_facts ⟨n, h2⟩).1 (Isa.sig_at n h2 _ hf)).mono ?_
 case hl => exact ((((hL1.alloc _).alloc _).alloc _).alloc _).alloc _
 rintro e w2 ⟨rfl, hb2⟩
 have k2 := blk_keep hb2 (blk_alloc _ (blk_alloc _ (blk_alloc _ (blk_alloc _ (blk_alloc _ k1)))))
 have k3 := blk_keep hb2 (blk_alloc _ (blk_alloc _ (blk_alloc _ (heap_alloc2_new _ _ _))))
 obtain ⟨d2, f2⟩ := blk_facts k2
 obtain ⟨d3, f3⟩ := blk_facts k3
 have HB2 := Lib.hid (below_next (below_alloc' (below_alloc' (below_alloc' (below_alloc' (below_alloc' HB1.out _) _) _) _) _) hb2)
 go_wp2_with fail
 go_ret2
 exact ⟨rfl, HB2.out⟩
theorem enc_bad5d (n : Nat) (h1 : 1 ≤ n) (h2 : n < 49) (hf : (Isa.formOf n : Int) = 5) (d a b imm : Int) (ha : 0 ≤ a ∧ a ≤ 255) (hb : 0 ≤ b ∧ b ≤ 255) (hd : 16 ≤ d ∧ d ≤ 255) (him : -2147483648 ≤ imm ∧ imm ≤ 2147483647) (w : World) (hL : Isa.Laid w) :
 Calls Tryz.prog 70 #[.agg #[.int .i64 (n : Int), .int .u8 d, .int .u8 a, .int .u8 b, .int .i32 imm]] w (Isa.EncPost 0 101 w) := by
 have q0 : decide (16 ≤ d) = true := by simp; omega
 have i0 := fun W => (index_three d a b 22 (-1) (-1) W).1
 have i1 := fun W => (index_three d a b 22 (-1) (-1) W).2.1
 have i2 := fun W => (index_three d a b 22 (-1) (-1) W).2.2
 go_enter Tryz.func70, Tryz.ntmps70
 go_wp2_with fail
 refine (of_at n h1 h2 5 hf _).mono ?_
 rintro e w1 ⟨rfl, hb1⟩
 have hL1 := (hL.below (below_alloc' (Below.refl _ _) _)).below hb1
 have k1 := blk_keep hb1 (heap_alloc_new _ _)
 obtain ⟨d1, f1⟩ := blk_facts k1
 have z1 := blk_size k1
 have z1k : ∀ k, w.heap.size < w1.heap.size + k := fun k => by omega
 obtain ⟨l1, l2, l3, l4⟩ := hL1.cells 5 (by omega)
 simp only [Isa.atD, Isa.atA, Isa.atB, Isa.bits, Isa.layD, Isa.layA, Isa.layB, Isa.layN, List.getD_cons_succ, List.getD_cons_zero, Nat.reduceMul, Nat.reduceAdd, Int.cast_ofNat_Int] at l1 l2 l3 l4
 have z0 := hL1.lt
 have HB1 := Lib.hid (below_next (below_alloc' (Below.refl _ _) _) hb1)
 go_wp2_with fail
 refine wp_loop_rounds 4 ?_
 rw [rounds_succ]
 go_wp2_with fail
 go_ret2
 exact ⟨rfl, (below_alloc' (below_alloc' (below_alloc' HB1.out _) _) _)⟩
theorem enc_bad5a (n : Nat) (h1 : 1 ≤ n) (h2 : n < 49) (hf : (Isa.formOf n : Int) = 5) (d a b imm : Int) (hd : 0 ≤ d ∧ d ≤ 15) (hb : 0 ≤ b ∧ b ≤ 255) (ha : 0 < a ∧ a ≤ 255) (him : -2147483648 ≤ imm ∧ imm ≤ 2147483647) (w : World) (hL : Isa.Laid w) :
 Calls Tryz.prog 70 #[.agg #[.int .i64 (n : Int), .int .u8 d, .int .u8 a, .int .u8 b, .int .i32 imm]] w (Isa.EncPost 0 101 w) := by
 by_cases h16 : 16 ≤ a
 · have h17 := h16
   have q0 : decide (16 ≤ d) = false := by simp; omega
   have q1 : decide (16 ≤ a) = true := by simp; omega
   have i0 := fun W => (index_three d a b 22 (-1) (-1) W).1
   have i1 := fun W => (index_three d a b 22 (-1) (-1) W).2.1
   have i2 := fun W => (index_three d a b 22 (-1) (-1) W).2.2
   go_enter Tryz.func70, Tryz.ntmps70
   go_wp2_with fail
   refine (of_at n h1 h2 5 hf _).mono ?_
   rintro e w1 ⟨rfl, hb1⟩
   have hL1 := (hL.below (below_alloc' (Below.refl _ _) _)).below hb1
   have k1 := blk_keep hb1 (heap_alloc_new _ _)
   obtain ⟨d1, f1⟩ := blk_facts k1
   have z1 := blk_size k1
   have z1k : ∀ k, w.heap.size < w1.heap.size + k := fun k => by omega
   obtain ⟨l1, l2, l3, l4⟩ := hL1.cells 5 (by omega)
   simp only [Isa.atD, Isa.atA, Isa.atB, Isa.bits, Isa.layD, Isa.layA, Isa.layB, Isa.layN, List.getD_cons_succ, List.getD_cons_zero, Nat.reduceMul, Nat.reduceAdd, Int.cast_ofNat_Int] at l1 l2 l3 l4
   have z0 := hL1.lt
   have HB1 := Lib.hid (below_next (below_alloc' (Below.refl _ _) _) hb1)
   go_wp2_with fail
   refine wp_loop_rounds 4 ?_
   rw [rounds_succ]
   go_wp2_with fail
   rw [rounds_succ]
   go_wp2_with fail
   go_ret2
   exact ⟨rfl, (below_alloc' (below_alloc' (below_alloc' (below_alloc' HB1.out _) _) _) _)⟩
 · have h17 := h16
   have q0 : decide (16 ≤ d) = false := by simp; omega
   have q1 : decide (16 ≤ a) = false := by simp; omega
   have p1 : decide (0 < a) = true := by simp; omega
   have i0 := fun W => (index_three d a b 22 (-1) (-1) W).1
   have i1 := fun W => (index_three d a b 22 (-1) (-1) W).2.1
   have i2 := fun W => (index_three d a b 22 (-1) (-1) W).2.2
   go_enter Tryz.func70, Tryz.ntmps70
   go_wp2_with fail
   refine (of_at n h1 h2 5 hf _).mono ?_
   rintro e w1 ⟨rfl, hb1⟩
   have hL1 := (hL.below (below_alloc' (Below.refl _ _) _)).below hb1
   have k1 := blk_keep hb1 (heap_alloc_new _ _)
   obtain ⟨d1, f1⟩ := blk_facts k1
   have z1 := blk_size k1
   have z1k : ∀ k, w.heap.size < w1.heap.size + k := fun k => by omega
   obtain ⟨l1, l2, l3, l4⟩ := hL1.cells 5 (by omega)
   simp only [Isa.atD, Isa.atA, Isa.atB, Isa.bits, Isa.layD, Isa.layA, Isa.layB, Isa.layN, List.getD_cons_succ, List.getD_cons_zero, Nat.reduceMul, Nat.reduceAdd, Int.cast_ofNat_Int] at l1 l2 l3 l4
   have z0 := hL1.lt
   have HB1 := Lib.hid (below_next (below_alloc' (Below.refl _ _) _) hb1)
   go_wp2_with fail
   refine wp_loop_rounds 4 ?_
   rw [rounds_succ]
   go_wp2_with fail
   rw [rounds_succ]
   go_wp2_with fail
   go_ret2
   exact ⟨rfl, (below_alloc' (below_alloc' (below_alloc' (below_alloc' HB1.out _) _) _) _)⟩
theorem enc_bad5b (n : Nat) (h1 : 1 ≤ n) (h2 : n < 49) (hf : (Isa.formOf n : Int) = 5) (d a b imm : Int) (hd : 0 ≤ d ∧ d ≤ 15) (ha : a = 0) (hb : 0 < b ∧ b ≤ 255) (him : -2147483648 ≤ imm ∧ imm ≤ 2147483647) (w : World) (hL : Isa.Laid w) :
 Calls Tryz.prog 70 #[.agg #[.int .i64 (n : Int), .int .u8 d, .int .u8 a, .int .u8 b, .int .i32 imm]] w (Isa.EncPost 0 101 w) := by
 by_cases h16 : 16 ≤ b
 · have h17 := h16
   have q0 : decide (16 ≤ d) = false := by simp; omega
   subst ha
   have q2 : decide (16 ≤ b) = true := by simp; omega
   have i0 := fun W => (index_three d 0 b 22 (-1) (-1) W).1
   have i1 := fun W => (index_three d 0 b 22 (-1) (-1) W).2.1
   have i2 := fun W => (index_three d 0 b 22 (-1) (-1) W).2.2
   go_enter Tryz.func70, Tryz.ntmps70
   go_wp2_with fail
   refine (of_at n h1 h2 5 hf _).mono ?_
   rintro e w1 ⟨rfl, hb1⟩
   have hL1 := (hL.below (below_alloc' (Below.refl _ _) _)).below hb1
   have k1 := blk_keep hb1 (heap_alloc_new _ _)
   obtain ⟨d1, f1⟩ := blk_facts k1
   have z1 := blk_size k1
   have z1k : ∀ k, w.heap.size < w1.heap.size + k := fun k => by omega
   obtain ⟨l1, l2, l3, l4⟩ := hL1.cells 5 (by omega)
   simp only [Isa.atD, Isa.atA, Isa.atB, Isa.bits, Isa.layD, Isa.layA, Isa.layB, Isa.layN, List.getD_cons_succ, List.getD_cons_zero, Nat.reduceMul, Nat.reduceAdd, Int.cast_ofNat_Int] at l1 l2 l3 l4
   have z0 := hL1.lt
   have HB1 := Lib.hid (below_next (below_alloc' (Below.refl _ _) _) hb1)
   go_wp2_with fail
   refine wp_loop_rounds 4 ?_
   rw [rounds_succ]
   go_wp2_with fail
   rw [rounds_succ]
   go_wp2_with fail
   rw [rounds_succ]
   go_wp2_with fail
   go_ret2
   exact ⟨rfl, (below_alloc' (below_alloc' (below_alloc' (below_alloc' (below_alloc' HB1.out _) _) _) _) _)⟩
 · have h17 := h16
   have q0 : decide (16 ≤ d) = false := by simp; omega
   subst ha
   have q2 : decide (16 ≤ b) = false := by simp; omega
   have p2 : decide (0 < b) = true := by simp; omega
   have i0 := fun W => (index_three d 0 b 22 (-1) (-1) W).1
   have i1 := fun W => (index_three d 0 b 22 (-1) (-1) W).2.1
   have i2 := fun W => (index_three d 0 b 22 (-1) (-1) W).2.2
   go_enter Tryz.func70, Tryz.ntmps70
   go_wp2_with fail
   refine (of_at n h1 h2 5 hf _).mono ?_
   rintro e w1 ⟨rfl, hb1⟩
   have hL1 := (hL.below (below_alloc' (Below.refl _ _) _)).below hb1
   have k1 := blk_keep hb1 (heap_alloc_new _ _)
   obtain ⟨d1, f1⟩ := blk_facts k1
   have z1 := blk_size k1
   have z1k : ∀ k, w.heap.size < w1.heap.size + k := fun k => by omega
   obtain ⟨l1, l2, l3, l4⟩ := hL1.cells 5 (by omega)
   simp only [Isa.atD, Isa.atA, Isa.atB, Isa.bits, Isa.layD, Isa.layA, Isa.layB, Isa.layN, List.getD_cons_succ, List.getD_cons_zero, Nat.reduceMul, Nat.reduceAdd, Int.cast_ofNat_Int] at l1 l2 l3 l4
   have z0 := hL1.lt
   have HB1 := Lib.hid (below_next (below_alloc' (Below.refl _ _) _) hb1)
   go_wp2_with fail
   refine wp_loop_rounds 4 ?_
   rw [rounds_succ]
   go_wp2_with fail
   rw [rounds_succ]
   go_wp2_with fail
   rw [rounds_succ]
   go_wp2_with fail
   go_ret2
   exact ⟨rfl, (below_alloc' (below_alloc' (below_alloc' (below_alloc' (below_alloc' HB1.out _) _) _) _) _)⟩
theorem enc_good6 (n : Nat) (h1 : 1 ≤ n) (h2 : n < 49) (hf : (Isa.formOf n : Int) = 6) (a imm : Int) (ha : 0 ≤ a ∧ a ≤ 15) (him : -2147483648 ≤ imm ∧ imm ≤ 2147483647) (hF : Isa.fits 6 (Isa.numOf n) imm = true) (w : World) (hL : Isa.Laid w) :
 Calls Tryz.prog 70 #[.agg #[.int .i64 (n : Int), .int .u8 0, .int .u8 a, .int .u8 0, .int .i32 imm]] w (Isa.EncPost (bits BinOp.or IntKind.u32 (bits BinOp.or IntKind.u32 ((n : Int) * 67108864) (a * 4194304)) (bits BinOp.and IntKind.u32 (imm % 4294967296) 0)) (0) w) := by
 have q0 : decide (16 ≤ a) = false := by simp; omega
 have i0 := fun W => (index_three 0 a 0 (-1) 22 (-1) W).1
 have i1 := fun W => (index_three 0 a 0 (-1) 22 (-1) W).2.1
 have i2 := fun W => (index_three 0 a 0 (-1) 22 (-1) W).2.2
 go_enter Tryz.func70, Tryz.ntmps70
 go_wp2_with fail
 refine (of_at n h1 h2 6 hf _).mono ?_
 rintro e w1 ⟨rfl, hb1⟩
 have hL1 := (hL.below (below_alloc' (Below.refl _ _) _)).below hb1
 have k1 := blk_keep hb1 (heap_alloc_new _ _)
 obtain ⟨d1, f1⟩ := blk_facts k1
 have z1 := blk_size k1
 have z1k : ∀ k, w.heap.size < w1.heap.size + k := fun k => by omega
 obtain ⟨l1, l2, l3, l4⟩ := hL1.cells 6 (by omega)
 simp only [Isa.atD, Isa.atA, Isa.atB, Isa.bits, Isa.layD, Isa.layA, Isa.layB, Isa.layN, List.getD_cons_succ, List.getD_cons_zero, Nat.reduceMul, Nat.reduceAdd, Int.cast_ofNat_Int] at l1 l2 l3 l4
 have z0 := hL1.lt
 have HB1 := Lib.hid (below_next (below_alloc' (Below.refl _ _) _) hb1)
 go_wp2_with fail
 refine wp_loop_rounds 4 ?_
 rw [rounds_succ]
 go_wp2_with fail
 rw [rounds_succ]
 go_wp2_with fail
 rw [rounds_succ]
 go_wp2_with fail
 rw [rounds_succ]
 go_wp2_with fail
 refine (fits_at _ 6 6 rfl _ _ _ _ ?hl (Isa.table_facts ⟨n, h2⟩).1 (Isa.sig_at n h2 _ hf)).mono ?_
 case hl => exact ((((hL1.alloc _).alloc _).alloc _).alloc _).alloc _
 rintro e w2 ⟨rfl, hb2⟩
 have k2 := blk_keep hb2 (blk_alloc _ (blk_alloc _ (blk_alloc _ (blk_alloc _ (blk_alloc _ k1)))))
 have k3 := blk_keep hb2 (blk_alloc _ (blk_alloc _ (blk_alloc _ (heap_alloc2_new _ _ _))))
 obtain ⟨d2, f2⟩ := blk_facts k2
 obtain ⟨d3, f3⟩ := blk_facts k3
 have HB2 := Lib.hid (below_next (below_alloc' (below_alloc' (below_alloc' (below_alloc' (below_alloc' HB1.out _) _) _) _) _) hb2)
 go_wp2_with fail
 go_quiet (fail)
 go_wp2_with fail
 go_ret2
 exact ⟨rfl, below_drewN' HB2.out _⟩
theorem enc_imm6 (n : Nat) (h1 : 1 ≤ n) (h2 : n < 49) (hf : (Isa.formOf n : Int) = 6) (a imm : Int) (ha : 0 ≤ a ∧ a ≤ 15) (him : -2147483648 ≤ imm ∧ imm ≤ 2147483647) (hF : Isa.fits 6 (Isa.numOf n) imm = false) (w : World) (hL : Isa.Laid w) :
 Calls Tryz.prog 70 #[.agg #[.int .i64 (n : Int), .int .u8 0, .int .u8 a, .int .u8 0, .int .i32 imm]] w (Isa.EncPost (0) (102) w) := by
 have q0 : decide (16 ≤ a) = false := by simp; omega
 have i0 := fun W => (index_three 0 a 0 (-1) 22 (-1) W).1
 have i1 := fun W => (index_three 0 a 0 (-1) 22 (-1) W).2.1
 have i2 := fun W => (index_three 0 a 0 (-1) 22 (-1) W).2.2
 go_enter Tryz.func70, Tryz.ntmps70
 go_wp2_with fail
 refine (of_at n h1 h2 6 hf _).mono ?_
 rintro e w1 ⟨rfl, hb1⟩
 have hL1 := (hL.below (below_alloc' (Below.refl _ _) _)).below hb1
 have k1 := blk_keep hb1 (heap_alloc_new _ _)
 obtain ⟨d1, f1⟩ := blk_facts k1
 have z1 := blk_size k1
 have z1k : ∀ k, w.heap.size < w1.heap.size + k := fun k => by omega
 obtain ⟨l1, l2, l3, l4⟩ := hL1.cells 6 (by omega)
 simp only [Isa.atD, Isa.atA, Isa.atB, Isa.bits, Isa.layD, Isa.layA, Isa.layB, Isa.layN, List.getD_cons_succ, List.getD_cons_zero, Nat.reduceMul, Nat.reduceAdd, Int.cast_ofNat_Int] at l1 l2 l3 l4
 have z0 := hL1.lt
 have HB1 := Lib.hid (below_next (below_alloc' (Below.refl _ _) _) hb1)
 go_wp2_with fail
 refine wp_loop_rounds 4 ?_
 rw [rounds_succ]
 go_wp2_with fail
 rw [rounds_succ]
 go_wp2_with fail
 rw [rounds_succ]
 go_wp2_with fail
 rw [rounds_succ]
 go_wp2_with fail
 refine (fits_at _ 6 6 rfl _ _ _ _ ?hl (Isa.table_facts ⟨n, h2⟩).1 (Isa.sig_at n h2 _ hf)).mono ?_
 case hl => exact ((((hL1.alloc _).alloc _).alloc _).alloc _).alloc _
 rintro e w2 ⟨rfl, hb2⟩
 have k2 := blk_keep hb2 (blk_alloc _ (blk_alloc _ (blk_alloc _ (blk_alloc _ (blk_alloc _ k1)))))
 have k3 := blk_keep hb2 (blk_alloc _ (blk_alloc _ (blk_alloc _ (heap_alloc2_new _ _ _))))
 obtain ⟨d2, f2⟩ := blk_facts k2
 obtain ⟨d3, f3⟩ := blk_facts k3
 have HB2 := Lib.hid (below_next (below_alloc' (below_alloc' (below_alloc' (below_alloc' (below_alloc' HB1.out _) _) _) _) _) hb2)
 go_wp2_with fail
 go_ret2
 exact ⟨rfl, HB2.out⟩
theorem enc_bad6d (n : Nat) (h1 : 1 ≤ n) (h2 : n < 49) (hf : (Isa.formOf n : Int) = 6) (d a b imm : Int) (ha : 0 ≤ a ∧ a ≤ 255) (hb : 0 ≤ b ∧ b ≤ 255) (hd : 0 < d ∧ d ≤ 255) (him : -2147483648 ≤ imm ∧ imm ≤ 2147483647) (w : World) (hL : Isa.Laid w) :
 Calls Tryz.prog 70 #[.agg #[.int .i64 (n : Int), .int .u8 d, .int .u8 a, .int .u8 b, .int .i32 imm]] w (Isa.EncPost 0 101 w) := by
 by_cases h16 : 16 ≤ d
 · have h17 := h16
   have q0 : decide (16 ≤ d) = true := by simp; omega
   have i0 := fun W => (index_three d a b (-1) 22 (-1) W).1
   have i1 := fun W => (index_three d a b (-1) 22 (-1) W).2.1
   have i2 := fun W => (index_three d a b (-1) 22 (-1) W).2.2
   go_enter Tryz.func70, Tryz.ntmps70
   go_wp2_with fail
   refine (of_at n h1 h2 6 hf _).mono ?_
   rintro e w1 ⟨rfl, hb1⟩
   have hL1 := (hL.below (below_alloc' (Below.refl _ _) _)).below hb1
   have k1 := blk_keep hb1 (heap_alloc_new _ _)
   obtain ⟨d1, f1⟩ := blk_facts k1
   have z1 := blk_size k1
   have z1k : ∀ k, w.heap.size < w1.heap.size + k := fun k => by omega
   obtain ⟨l1, l2, l3, l4⟩ := hL1.cells 6 (by omega)
   simp only [Isa.atD, Isa.atA, Isa.atB, Isa.bits, Isa.layD, Isa.layA, Isa.layB, Isa.layN, List.getD_cons_succ, List.getD_cons_zero, Nat.reduceMul, Nat.reduceAdd, Int.cast_ofNat_Int] at l1 l2 l3 l4
   have z0 := hL1.lt
   have HB1 := Lib.hid (below_next (below_alloc' (Below.refl _ _) _) hb1)
   go_wp2_with fail
   refine wp_loop_rounds 4 ?_
   rw [rounds_succ]
   go_wp2_with fail
   go_ret2
   exact ⟨rfl, (below_alloc' (below_alloc' (below_alloc' HB1.out _) _) _)⟩
 · have h17 := h16
   have q0 : decide (16 ≤ d) = false := by simp; omega
   have p0 : decide (0 < d) = true := by simp; omega
   have i0 := fun W => (index_three d a b (-1) 22 (-1) W).1
   have i1 := fun W => (index_three d a b (-1) 22 (-1) W).2.1
   have i2 := fun W => (index_three d a b (-1) 22 (-1) W).2.2
   go_enter Tryz.func70, Tryz.ntmps70
   go_wp2_with fail
   refine (of_at n h1 h2 6 hf _).mono ?_
   rintro e w1 ⟨rfl, hb1⟩
   have hL1 := (hL.below (below_alloc' (Below.refl _ _) _)).below hb1
   have k1 := blk_keep hb1 (heap_alloc_new _ _)
   obtain ⟨d1, f1⟩ := blk_facts k1
   have z1 := blk_size k1
   have z1k : ∀ k, w.heap.size < w1.heap.size + k := fun k => by omega
   obtain ⟨l1, l2, l3, l4⟩ := hL1.cells 6 (by omega)
   simp only [Isa.atD, Isa.atA, Isa.atB, Isa.bits, Isa.layD, Isa.layA, Isa.layB, Isa.layN, List.getD_cons_succ, List.getD_cons_zero, Nat.reduceMul, Nat.reduceAdd, Int.cast_ofNat_Int] at l1 l2 l3 l4
   have z0 := hL1.lt
   have HB1 := Lib.hid (below_next (below_alloc' (Below.refl _ _) _) hb1)
   go_wp2_with fail
   refine wp_loop_rounds 4 ?_
   rw [rounds_succ]
   go_wp2_with fail
   go_ret2
   exact ⟨rfl, (below_alloc' (below_alloc' (below_alloc' HB1.out _) _) _)⟩
theorem enc_bad6a (n : Nat) (h1 : 1 ≤ n) (h2 : n < 49) (hf : (Isa.formOf n : Int) = 6) (d a b imm : Int) (hd : d = 0) (hb : 0 ≤ b ∧ b ≤ 255) (ha : 16 ≤ a ∧ a ≤ 255) (him : -2147483648 ≤ imm ∧ imm ≤ 2147483647) (w : World) (hL : Isa.Laid w) :
 Calls Tryz.prog 70 #[.agg #[.int .i64 (n : Int), .int .u8 d, .int .u8 a, .int .u8 b, .int .i32 imm]] w (Isa.EncPost 0 101 w) := by
 subst hd
 have q1 : decide (16 ≤ a) = true := by simp; omega
 have i0 := fun W => (index_three 0 a b (-1) 22 (-1) W).1
 have i1 := fun W => (index_three 0 a b (-1) 22 (-1) W).2.1
 have i2 := fun W => (index_three 0 a b (-1) 22 (-1) W).2.2
 go_enter Tryz.func70, Tryz.ntmps70
 go_wp2_with fail
 refine (of_at n h1 h2 6 hf _).mono ?_
 rintro e w1 ⟨rfl, hb1⟩
 have hL1 := (hL.below (below_alloc' (Below.refl _ _) _)).below hb1
 have k1 := blk_keep hb1 (heap_alloc_new _ _)
 obtain ⟨d1, f1⟩ := blk_facts k1
 have z1 := blk_size k1
 have z1k : ∀ k, w.heap.size < w1.heap.size + k := fun k => by omega
 obtain ⟨l1, l2, l3, l4⟩ := hL1.cells 6 (by omega)
 simp only [Isa.atD, Isa.atA, Isa.atB, Isa.bits, Isa.layD, Isa.layA, Isa.layB, Isa.layN, List.getD_cons_succ, List.getD_cons_zero, Nat.reduceMul, Nat.reduceAdd, Int.cast_ofNat_Int] at l1 l2 l3 l4
 have z0 := hL1.lt
 have HB1 := Lib.hid (below_next (below_alloc' (Below.refl _ _) _) hb1)
 go_wp2_with fail
 refine wp_loop_rounds 4 ?_
 rw [rounds_succ]
 go_wp2_with fail
 rw [rounds_succ]
 go_wp2_with fail
 go_ret2
 exact ⟨rfl, (below_alloc' (below_alloc' (below_alloc' (below_alloc' HB1.out _) _) _) _)⟩
theorem enc_bad6b (n : Nat) (h1 : 1 ≤ n) (h2 : n < 49) (hf : (Isa.formOf n : Int) = 6) (d a b imm : Int) (hd : d = 0) (ha : 0 ≤ a ∧ a ≤ 15) (hb : 0 < b ∧ b ≤ 255) (him : -2147483648 ≤ imm ∧ imm ≤ 2147483647) (w : World) (hL : Isa.Laid w) :
 Calls Tryz.prog 70 #[.agg #[.int .i64 (n : Int), .int .u8 d, .int .u8 a, .int .u8 b, .int .i32 imm]] w (Isa.EncPost 0 101 w) := by
 by_cases h16 : 16 ≤ b
 · have h17 := h16
   subst hd
   have q1 : decide (16 ≤ a) = false := by simp; omega
   have q2 : decide (16 ≤ b) = true := by simp; omega
   have i0 := fun W => (index_three 0 a b (-1) 22 (-1) W).1
   have i1 := fun W => (index_three 0 a b (-1) 22 (-1) W).2.1
   have i2 := fun W => (index_three 0 a b (-1) 22 (-1) W).2.2
   go_enter Tryz.func70, Tryz.ntmps70
   go_wp2_with fail
   refine (of_at n h1 h2 6 hf _).mono ?_
   rintro e w1 ⟨rfl, hb1⟩
   have hL1 := (hL.below (below_alloc' (Below.refl _ _) _)).below hb1
   have k1 := blk_keep hb1 (heap_alloc_new _ _)
   obtain ⟨d1, f1⟩ := blk_facts k1
   have z1 := blk_size k1
   have z1k : ∀ k, w.heap.size < w1.heap.size + k := fun k => by omega
   obtain ⟨l1, l2, l3, l4⟩ := hL1.cells 6 (by omega)
   simp only [Isa.atD, Isa.atA, Isa.atB, Isa.bits, Isa.layD, Isa.layA, Isa.layB, Isa.layN, List.getD_cons_succ, List.getD_cons_zero, Nat.reduceMul, Nat.reduceAdd, Int.cast_ofNat_Int] at l1 l2 l3 l4
   have z0 := hL1.lt
   have HB1 := Lib.hid (below_next (below_alloc' (Below.refl _ _) _) hb1)
   go_wp2_with fail
   refine wp_loop_rounds 4 ?_
   rw [rounds_succ]
   go_wp2_with fail
   rw [rounds_succ]
   go_wp2_with fail
   rw [rounds_succ]
   go_wp2_with fail
   go_ret2
   exact ⟨rfl, (below_alloc' (below_alloc' (below_alloc' (below_alloc' (below_alloc' HB1.out _) _) _) _) _)⟩
 · have h17 := h16
   subst hd
   have q1 : decide (16 ≤ a) = false := by simp; omega
   have q2 : decide (16 ≤ b) = false := by simp; omega
   have p2 : decide (0 < b) = true := by simp; omega
   have i0 := fun W => (index_three 0 a b (-1) 22 (-1) W).1
   have i1 := fun W => (index_three 0 a b (-1) 22 (-1) W).2.1
   have i2 := fun W => (index_three 0 a b (-1) 22 (-1) W).2.2
   go_enter Tryz.func70, Tryz.ntmps70
   go_wp2_with fail
   refine (of_at n h1 h2 6 hf _).mono ?_
   rintro e w1 ⟨rfl, hb1⟩
   have hL1 := (hL.below (below_alloc' (Below.refl _ _) _)).below hb1
   have k1 := blk_keep hb1 (heap_alloc_new _ _)
   obtain ⟨d1, f1⟩ := blk_facts k1
   have z1 := blk_size k1
   have z1k : ∀ k, w.heap.size < w1.heap.size + k := fun k => by omega
   obtain ⟨l1, l2, l3, l4⟩ := hL1.cells 6 (by omega)
   simp only [Isa.atD, Isa.atA, Isa.atB, Isa.bits, Isa.layD, Isa.layA, Isa.layB, Isa.layN, List.getD_cons_succ, List.getD_cons_zero, Nat.reduceMul, Nat.reduceAdd, Int.cast_ofNat_Int] at l1 l2 l3 l4
   have z0 := hL1.lt
   have HB1 := Lib.hid (below_next (below_alloc' (Below.refl _ _) _) hb1)
   go_wp2_with fail
   refine wp_loop_rounds 4 ?_
   rw [rounds_succ]
   go_wp2_with fail
   rw [rounds_succ]
   go_wp2_with fail
   rw [rounds_succ]
   go_wp2_with fail
   go_ret2
   exact ⟨rfl, (below_alloc' (below_alloc' (below_alloc' (below_alloc' (below_alloc' HB1.out _) _) _) _) _)⟩
end Go.Proofs.YtabmlbnnhhpaoaaGreatDoor
set_option maxHeartbeats 4000000
set_option maxRecDepth 100000
namespace Go.Proofs.YtabmlbnnhhpaoaaGreatDoor
open Go.RowKit
theorem enc_good7 (n : Nat) (h1 : 1 ≤ n) (h2 : n < 49) (hf : (Isa.formOf n : Int) = 7) (imm : Int)  (him : -2147483648 ≤ imm ∧ imm ≤ 2147483647) (hF : Isa.fits 7 (Isa.numOf n) imm = true) (w : World) (hL : Isa.Laid w) :
 Calls Tryz.prog 70 #[.agg #[.int .i64 (n : Int), .int .u8 0, .int .u8 0, .int .u8 0, .int .i32 imm]] w (Isa.EncPost (bits BinOp.or IntKind.u32 ((n : Int) * 67108864) (bits BinOp.and IntKind.u32 (imm % 4294967296) 67108863)) (0) w) := by
 have i0 := fun W => (index_three 0 0 0 (-1) (-1) (-1) W).1
 have i1 := fun W => (index_three 0 0 0 (-1) (-1) (-1) W).2.1
 have i2 := fun W => (index_three 0 0 0 (-1) (-1) (-1) W).2.2
 go_enter Tryz.func70, Tryz.ntmps70
 go_wp2_with fail
 refine (of_at n h1 h2 7 hf _).mono ?_
 rintro e w1 ⟨rfl, hb1⟩
 have hL1 := (hL.below (below_alloc' (Below.refl _ _) _)).below hb1
 have k1 := blk_keep hb1 (heap_alloc_new _ _)
 obtain ⟨d1, f1⟩ := blk_facts k1
 have z1 := blk_size k1
 have z1k : ∀ k, w.heap.size < w1.heap.size + k := fun k => by omega
 obtain ⟨l1, l2, l3, l4⟩ := hL1.cells 7 (by omega)
 simp only [Isa.atD, Isa.atA, Isa.atB, Isa.bits, Isa.layD, Isa.layA, Isa.layB, Isa.layN, List.getD_cons_succ, List.getD_cons_zero, Nat.reduceMul, Nat.reduceAdd, Int.cast_ofNat_Int] at l1 l2 l3 l4
 have z0 := hL1.lt
 have HB1 := Lib.hid (below_next (below_alloc' (Below.refl _ _) _) hb1)
 go_wp2_with fail
 refine wp_loop_rounds 4 ?_
 rw [rounds_succ]
 go_wp2_with fail
 rw [rounds_succ]
 go_wp2_with fail
 rw [rounds_succ]
 go_wp2_with fail
 rw [rounds_succ]
 go_wp2_with fail
 refine (fits_at _ 7 7 rfl _ _ _ _ ?hl (Isa.table_facts ⟨n, h2⟩).1 (Isa.sig_at n h2 _ hf)).mono ?_
 case hl => exact ((((hL1.alloc _).alloc _).alloc _).alloc _).alloc _
 rintro e w2 ⟨rfl, hb2⟩
 have k2 := blk_keep hb2 (blk_alloc _ (blk_alloc _ (blk_alloc _ (blk_alloc _ (blk_alloc _ k1)))))
 have k3 := blk_keep hb2 (blk_alloc _ (blk_alloc _ (blk_alloc _ (heap_alloc2_new _ _ _))))
 obtain ⟨d2, f2⟩ := blk_facts k2
 obtain ⟨d3, f3⟩ := blk_facts k3
 have HB2 := Lib.hid (below_next (below_alloc' (below_alloc' (below_alloc' (below_alloc' (below_alloc' HB1.out _) _) _) _) _) hb2)
 go_wp2_with fail
 go_quiet (fail)
 go_wp2_with fail
 go_ret2
 exact ⟨rfl, below_drewN' HB2.out _⟩
theorem enc_imm7 (n : Nat) (h1 : 1 ≤ n) (h2 : n < 49) (hf : (Isa.formOf n : Int) = 7) (imm : Int)  (him : -2147483648 ≤ imm ∧ imm ≤ 2147483647) (hF : Isa.fits 7 (Isa.numOf n) imm = false) (w : World) (hL : Isa.Laid w) :
 Calls Tryz.prog 70 #[.agg #[.int .i64 (n : Int), .int .u8 0, .int .u8 0, .int .u8 0, .int .i32 imm]] w (Isa.EncPost (0) (102) w) := by
 have i0 := fun W => (index_three 0 0 0 (-1) (-1) (-1) W).1
 have i1 := fun W => (index_three 0 0 0 (-1) (-1) (-1) W).2.1
 have i2 := fun W => (index_three 0 0 0 (-1) (-1) (-1) W).2.2
 go_enter Tryz.func70, Tryz.ntmps70
 go_wp2_with fail
 refine (of_at n h1 h2 7 hf _).mono ?_
 rintro e w1 ⟨rfl, hb1⟩
 have hL1 := (hL.below (below_alloc' (Below.refl _ _) _)).below hb1
 have k1 := blk_keep hb1 (heap_alloc_new _ _)
 obtain ⟨d1, f1⟩ := blk_facts k1
 have z1 := blk_size k1
 have z1k : ∀ k, w.heap.size < w1.heap.size + k := fun k => by omega
 obtain ⟨l1, l2, l3, l4⟩ := hL1.cells 7 (by omega)
 simp only [Isa.atD, Isa.atA, Isa.atB, Isa.bits, Isa.layD, Isa.layA, Isa.layB, Isa.layN, List.getD_cons_succ, List.getD_cons_zero, Nat.reduceMul, Nat.reduceAdd, Int.cast_ofNat_Int] at l1 l2 l3 l4
 have z0 := hL1.lt
 have HB1 := Lib.hid (below_next (below_alloc' (Below.refl _ _) _) hb1)
 go_wp2_with fail
 refine wp_loop_rounds 4 ?_
 rw [rounds_succ]
 go_wp2_with fail
 rw [rounds_succ]
 go_wp2_with fail
 rw [rounds_succ]
 go_wp2_with fail
 rw [rounds_succ]
 go_wp2_with fail
 refine (fits_at _ 7 7 rfl _ _ _ _ ?hl (Isa.table_facts ⟨n, h2⟩).1 (Isa.sig_at n h2 _ hf)).mono ?_
 case hl => exact ((((hL1.alloc _).alloc _).alloc _).alloc _).alloc _
 rintro e w2 ⟨rfl, hb2⟩
 have k2 := blk_keep hb2 (blk_alloc _ (blk_alloc _ (blk_alloc _ (blk_alloc _ (blk_alloc _ k1)))))
 have k3 := blk_keep hb2 (blk_alloc _ (blk_alloc _ (blk_alloc _ (heap_alloc2_new _ _ _))))
 obtain ⟨d2, f2⟩ := blk_facts k2
 obtain ⟨d3, f3⟩ := blk_facts k3
 have HB2 := Lib.hid (below_next (below_alloc' (below_alloc' (below_alloc' (below_alloc' (below_alloc' HB1.out _) _) _) _) _) hb2)
 go_wp2_with fail
 go_ret2
 exact ⟨rfl, HB2.out⟩
theorem enc_bad7d (n : Nat) (h1 : 1 ≤ n) (h2 : n < 49) (hf : (Isa.formOf n : Int) = 7) (d a b imm : Int) (ha : 0 ≤ a ∧ a ≤ 255) (hb : 0 ≤ b ∧ b ≤ 255) (hd : 0 < d ∧ d ≤ 255) (him : -2147483648 ≤ imm ∧ imm ≤ 2147483647) (w : World) (hL : Isa.Laid w) :
 Calls Tryz.prog 70 #[.agg #[.int .i64 (n : Int), .int .u8 d, .int .u8 a, .int .u8 b, .int .i32 imm]] w (Isa.EncPost 0 101 w) := by
 by_cases h16 : 16 ≤ d
 · have h17 := h16
   have q0 : decide (16 ≤ d) = true := by simp; omega
   have i0 := fun W => (index_three d a b (-1) (-1) (-1) W).1
   have i1 := fun W => (index_three d a b (-1) (-1) (-1) W).2.1
   have i2 := fun W => (index_three d a b (-1) (-1) (-1) W).2.2
   go_enter Tryz.func70, Tryz.ntmps70
   go_wp2_with fail
   refine (of_at n h1 h2 7 hf _).mono ?_
   rintro e w1 ⟨rfl, hb1⟩
   have hL1 := (hL.below (below_alloc' (Below.refl _ _) _)).below hb1
   have k1 := blk_keep hb1 (heap_alloc_new _ _)
   obtain ⟨d1, f1⟩ := blk_facts k1
   have z1 := blk_size k1
   have z1k : ∀ k, w.heap.size < w1.heap.size + k := fun k => by omega
   obtain ⟨l1, l2, l3, l4⟩ := hL1.cells 7 (by omega)
   simp only [Isa.atD, Isa.atA, Isa.atB, Isa.bits, Isa.layD, Isa.layA, Isa.layB, Isa.layN, List.getD_cons_succ, List.getD_cons_zero, Nat.reduceMul, Nat.reduceAdd, Int.cast_ofNat_Int] at l1 l2 l3 l4
   have z0 := hL1.lt
   have HB1 := Lib.hid (below_next (below_alloc' (Below.refl _ _) _) hb1)
   go_wp2_with fail
   refine wp_loop_rounds 4 ?_
   rw [rounds_succ]
   go_wp2_with fail
   go_ret2
   exact ⟨rfl, (below_alloc' (below_alloc' (below_alloc' HB1.out _) _) _)⟩
 · have h17 := h16
   have q0 : decide (16 ≤ d) = false := by simp; omega
   have p0 : decide (0 < d) = true := by simp; omega
   have i0 := fun W => (index_three d a b (-1) (-1) (-1) W).1
   have i1 := fun W => (index_three d a b (-1) (-1) (-1) W).2.1
   have i2 := fun W => (index_three d a b (-1) (-1) (-1) W).2.2
   go_enter Tryz.func70, Tryz.ntmps70
   go_wp2_with fail
   refine (of_at n h1 h2 7 hf _).mono ?_
   rintro e w1 ⟨rfl, hb1⟩
   have hL1 := (hL.below (below_alloc' (Below.refl _ _) _)).below hb1
   have k1 := blk_keep hb1 (heap_alloc_new _ _)
   obtain ⟨d1, f1⟩ := blk_facts k1
   have z1 := blk_size k1
   have z1k : ∀ k, w.heap.size < w1.heap.size + k := fun k => by omega
   obtain ⟨l1, l2, l3, l4⟩ := hL1.cells 7 (by omega)
   simp only [Isa.atD, Isa.atA, Isa.atB, Isa.bits, Isa.layD, Isa.layA, Isa.layB, Isa.layN, List.getD_cons_succ, List.getD_cons_zero, Nat.reduceMul, Nat.reduceAdd, Int.cast_ofNat_Int] at l1 l2 l3 l4
   have z0 := hL1.lt
   have HB1 := Lib.hid (below_next (below_alloc' (Below.refl _ _) _) hb1)
   go_wp2_with fail
   refine wp_loop_rounds 4 ?_
   rw [rounds_succ]
   go_wp2_with fail
   go_ret2
   exact ⟨rfl, (below_alloc' (below_alloc' (below_alloc' HB1.out _) _) _)⟩
theorem enc_bad7a (n : Nat) (h1 : 1 ≤ n) (h2 : n < 49) (hf : (Isa.formOf n : Int) = 7) (d a b imm : Int) (hd : d = 0) (hb : 0 ≤ b ∧ b ≤ 255) (ha : 0 < a ∧ a ≤ 255) (him : -2147483648 ≤ imm ∧ imm ≤ 2147483647) (w : World) (hL : Isa.Laid w) :
 Calls Tryz.prog 70 #[.agg #[.int .i64 (n : Int), .int .u8 d, .int .u8 a, .int .u8 b, .int .i32 imm]] w (Isa.EncPost 0 101 w) := by
 by_cases h16 : 16 ≤ a
 · have h17 := h16
   subst hd
   have q1 : decide (16 ≤ a) = true := by simp; omega
   have i0 := fun W => (index_three 0 a b (-1) (-1) (-1) W).1
   have i1 := fun W => (index_three 0 a b (-1) (-1) (-1) W).2.1
   have i2 := fun W => (index_three 0 a b (-1) (-1) (-1) W).2.2
   go_enter Tryz.func70, Tryz.ntmps70
   go_wp2_with fail
   refine (of_at n h1 h2 7 hf _).mono ?_
   rintro e w1 ⟨rfl, hb1⟩
   have hL1 := (hL.below (below_alloc' (Below.refl _ _) _)).below hb1
   have k1 := blk_keep hb1 (heap_alloc_new _ _)
   obtain ⟨d1, f1⟩ := blk_facts k1
   have z1 := blk_size k1
   have z1k : ∀ k, w.heap.size < w1.heap.size + k := fun k => by omega
   obtain ⟨l1, l2, l3, l4⟩ := hL1.cells 7 (by omega)
   simp only [Isa.atD, Isa.atA, Isa.atB, Isa.bits, Isa.layD, Isa.layA, Isa.layB, Isa.layN, List.getD_cons_succ, List.getD_cons_zero, Nat.reduceMul, Nat.reduceAdd, Int.cast_ofNat_Int] at l1 l2 l3 l4
   have z0 := hL1.lt
   have HB1 := Lib.hid (below_next (below_alloc' (Below.refl _ _) _) hb1)
   go_wp2_with fail
   refine wp_loop_rounds 4 ?_
   rw [rounds_succ]
   go_wp2_with fail
   rw [rounds_succ]
   go_wp2_with fail
   go_ret2
   exact ⟨rfl, (below_alloc' (below_alloc' (below_alloc' (below_alloc' HB1.out _) _) _) _)⟩
 · have h17 := h16
   subst hd
   have q1 : decide (16 ≤ a) = false := by simp; omega
   have p1 : decide (0 < a) = true := by simp; omega
   have i0 := fun W => (index_three 0 a b (-1) (-1) (-1) W).1
   have i1 := fun W => (index_three 0 a b (-1) (-1) (-1) W).2.1
   have i2 := fun W => (index_three 0 a b (-1) (-1) (-1) W).2.2
   go_enter Tryz.func70, Tryz.ntmps70
   go_wp2_with fail
   refine (of_at n h1 h2 7 hf _).mono ?_
   rintro e w1 ⟨rfl, hb1⟩
   have hL1 := (hL.below (below_alloc' (Below.refl _ _) _)).below hb1
   have k1 := blk_keep hb1 (heap_alloc_new _ _)
   obtain ⟨d1, f1⟩ := blk_facts k1
   have z1 := blk_size k1
   have z1k : ∀ k, w.heap.size < w1.heap.size + k := fun k => by omega
   obtain ⟨l1, l2, l3, l4⟩ := hL1.cells 7 (by omega)
   simp only [Isa.atD, Isa.atA, Isa.atB, Isa.bits, Isa.layD, Isa.layA, Isa.layB, Isa.layN, List.getD_cons_succ, List.getD_cons_zero, Nat.reduceMul, Nat.reduceAdd, Int.cast_ofNat_Int] at l1 l2 l3 l4
   have z0 := hL1.lt
   have HB1 := Lib.hid (below_next (below_alloc' (Below.refl _ _) _) hb1)
   go_wp2_with fail
   refine wp_loop_rounds 4 ?_
   rw [rounds_succ]
   go_wp2_with fail
   rw [rounds_succ]
   go_wp2_with fail
   go_ret2
   exact ⟨rfl, (below_alloc' (below_alloc' (below_alloc' (below_alloc' HB1.out _) _) _) _)⟩
theorem enc_bad7b (n : Nat) (h1 : 1 ≤ n) (h2 : n < 49) (hf : (Isa.formOf n : Int) = 7) (d a b imm : Int) (hd : d = 0) (ha : a = 0) (hb : 0 < b ∧ b ≤ 255) (him : -2147483648 ≤ imm ∧ imm ≤ 2147483647) (w : World) (hL : Isa.Laid w) :
 Calls Tryz.prog 70 #[.agg #[.int .i64 (n : Int), .int .u8 d, .int .u8 a, .int .u8 b, .int .i32 imm]] w (Isa.EncPost 0 101 w) := by
 by_cases h16 : 16 ≤ b
 · have h17 := h16
   subst hd
   subst ha
   have q2 : decide (16 ≤ b) = true := by simp; omega
   have i0 := fun W => (index_three 0 0 b (-1) (-1) (-1) W).1
   have i1 := fun W => (index_three 0 0 b (-1) (-1) (-1) W).2.1
   have i2 := fun W => (index_three 0 0 b (-1) (-1) (-1) W).2.2
   go_enter Tryz.func70, Tryz.ntmps70
   go_wp2_with fail
   refine (of_at n h1 h2 7 hf _).mono ?_
   rintro e w1 ⟨rfl, hb1⟩
   have hL1 := (hL.below (below_alloc' (Below.refl _ _) _)).below hb1
   have k1 := blk_keep hb1 (heap_alloc_new _ _)
   obtain ⟨d1, f1⟩ := blk_facts k1
   have z1 := blk_size k1
   have z1k : ∀ k, w.heap.size < w1.heap.size + k := fun k => by omega
   obtain ⟨l1, l2, l3, l4⟩ := hL1.cells 7 (by omega)
   simp only [Isa.atD, Isa.atA, Isa.atB, Isa.bits, Isa.layD, Isa.layA, Isa.layB, Isa.layN, List.getD_cons_succ, List.getD_cons_zero, Nat.reduceMul, Nat.reduceAdd, Int.cast_ofNat_Int] at l1 l2 l3 l4
   have z0 := hL1.lt
   have HB1 := Lib.hid (below_next (below_alloc' (Below.refl _ _) _) hb1)
   go_wp2_with fail
   refine wp_loop_rounds 4 ?_
   rw [rounds_succ]
   go_wp2_with fail
   rw [rounds_succ]
   go_wp2_with fail
   rw [rounds_succ]
   go_wp2_with fail
   go_ret2
   exact ⟨rfl, (below_alloc' (below_alloc' (below_alloc' (below_alloc' (below_alloc' HB1.out _) _) _) _) _)⟩
 · have h17 := h16
   subst hd
   subst ha
   have q2 : decide (16 ≤ b) = false := by simp; omega
   have p2 : decide (0 < b) = true := by simp; omega
   have i0 := fun W => (index_three 0 0 b (-1) (-1) (-1) W).1
   have i1 := fun W => (index_three 0 0 b (-1) (-1) (-1) W).2.1
   have i2 := fun W => (index_three 0 0 b (-1) (-1) (-1) W).2.2
   go_enter Tryz.func70, Tryz.ntmps70
   go_wp2_with fail
   refine (of_at n h1 h2 7 hf _).mono ?_
   rintro e w1 ⟨rfl, hb1⟩
   have hL1 := (hL.below (below_alloc' (Below.refl _ _) _)).below hb1
   have k1 := blk_keep hb1 (heap_alloc_new _ _)
   obtain ⟨d1, f1⟩ := blk_facts k1
   have z1 := blk_size k1
   have z1k : ∀ k, w.heap.size < w1.heap.size + k := fun k => by omega
   obtain ⟨l1, l2, l3, l4⟩ := hL1.cells 7 (by omega)
   simp only [Isa.atD, Isa.atA, Isa.atB, Isa.bits, Isa.layD, Isa.layA, Isa.layB, Isa.layN, List.getD_cons_succ, List.getD_cons_zero, Nat.reduceMul, Nat.reduceAdd, Int.cast_ofNat_Int] at l1 l2 l3 l4
   have z0 := hL1.lt
   have HB1 := Lib.hid (below_next (below_alloc' (Below.refl _ _) _) hb1)
   go_wp2_with fail
   refine wp_loop_rounds 4 ?_
   rw [rounds_succ]
   go_wp2_with fail
   rw [rounds_succ]
   go_wp2_with fail
   rw [rounds_succ]
   go_wp2_with fail
   go_ret2
   exact ⟨rfl, (below_alloc' (below_alloc' (below_alloc' (below_alloc' (below_alloc' HB1.out _) _) _) _) _)⟩
theorem enc_good8 (n : Nat) (h1 : 1 ≤ n) (h2 : n < 49) (hf : (Isa.formOf n : Int) = 8) (imm : Int)  (him : -2147483648 ≤ imm ∧ imm ≤ 2147483647) (hF : Isa.fits 8 (Isa.numOf n) imm = true) (w : World) (hL : Isa.Laid w) :
 Calls Tryz.prog 70 #[.agg #[.int .i64 (n : Int), .int .u8 0, .int .u8 0, .int .u8 0, .int .i32 imm]] w (Isa.EncPost (bits BinOp.or IntKind.u32 ((n : Int) * 67108864) (bits BinOp.and IntKind.u32 (imm % 4294967296) 0)) (0) w) := by
 have i0 := fun W => (index_three 0 0 0 (-1) (-1) (-1) W).1
 have i1 := fun W => (index_three 0 0 0 (-1) (-1) (-1) W).2.1
 have i2 := fun W => (index_three 0 0 0 (-1) (-1) (-1) W).2.2
 go_enter Tryz.func70, Tryz.ntmps70
 go_wp2_with fail
 refine (of_at n h1 h2 8 hf _).mono ?_
 rintro e w1 ⟨rfl, hb1⟩
 have hL1 := (hL.below (below_alloc' (Below.refl _ _) _)).below hb1
 have k1 := blk_keep hb1 (heap_alloc_new _ _)
 obtain ⟨d1, f1⟩ := blk_facts k1
 have z1 := blk_size k1
 have z1k : ∀ k, w.heap.size < w1.heap.size + k := fun k => by omega
 obtain ⟨l1, l2, l3, l4⟩ := hL1.cells 8 (by omega)
 simp only [Isa.atD, Isa.atA, Isa.atB, Isa.bits, Isa.layD, Isa.layA, Isa.layB, Isa.layN, List.getD_cons_succ, List.getD_cons_zero, Nat.reduceMul, Nat.reduceAdd, Int.cast_ofNat_Int] at l1 l2 l3 l4
 have z0 := hL1.lt
 have HB1 := Lib.hid (below_next (below_alloc' (Below.refl _ _) _) hb1)
 go_wp2_with fail
 refine wp_loop_rounds 4 ?_
 rw [rounds_succ]
 go_wp2_with fail
 rw [rounds_succ]
 go_wp2_with fail
 rw [rounds_succ]
 go_wp2_with fail
 rw [rounds_succ]
 go_wp2_with fail
 refine (fits_at _ 8 8 rfl _ _ _ _ ?hl (Isa.table_facts ⟨n, h2⟩).1 (Isa.sig_at n h2 _ hf)).mono ?_
 case hl => exact ((((hL1.alloc _).alloc _).alloc _).alloc _).alloc _
 rintro e w2 ⟨rfl, hb2⟩
 have k2 := blk_keep hb2 (blk_alloc _ (blk_alloc _ (blk_alloc _ (blk_alloc _ (blk_alloc _ k1)))))
 have k3 := blk_keep hb2 (blk_alloc _ (blk_alloc _ (blk_alloc _ (heap_alloc2_new _ _ _))))
 obtain ⟨d2, f2⟩ := blk_facts k2
 obtain ⟨d3, f3⟩ := blk_facts k3
 have HB2 := Lib.hid (below_next (below_alloc' (below_alloc' (below_alloc' (below_alloc' (below_alloc' HB1.out _) _) _) _) _) hb2)
 go_wp2_with fail
 go_quiet (fail)
 go_wp2_with fail
 go_ret2
 exact ⟨rfl, below_drewN' HB2.out _⟩
theorem enc_imm8 (n : Nat) (h1 : 1 ≤ n) (h2 : n < 49) (hf : (Isa.formOf n : Int) = 8) (imm : Int)  (him : -2147483648 ≤ imm ∧ imm ≤ 2147483647) (hF : Isa.fits 8 (Isa.numOf n) imm = false) (w : World) (hL : Isa.Laid w) :
 Calls Tryz.prog 70 #[.agg #[.int .i64 (n : Int), .int .u8 0, .int .u8 0, .int .u8 0, .int .i32 imm]] w (Isa.EncPost (0) (102) w) := by
 have i0 := fun W => (index_three 0 0 0 (-1) (-1) (-1) W).1
 have i1 := fun W => (index_three 0 0 0 (-1) (-1) (-1) W).2.1
 have i2 := fun W => (index_three 0 0 0 (-1) (-1) (-1) W).2.2
 go_enter Tryz.func70, Tryz.ntmps70
 go_wp2_with fail
 refine (of_at n h1 h2 8 hf _).mono ?_
 rintro e w1 ⟨rfl, hb1⟩
 have hL1 := (hL.below (below_alloc' (Below.refl _ _) _)).below hb1
 have k1 := blk_keep hb1 (heap_alloc_new _ _)
 obtain ⟨d1, f1⟩ := blk_facts k1
 have z1 := blk_size k1
 have z1k : ∀ k, w.heap.size < w1.heap.size + k := fun k => by omega
 obtain ⟨l1, l2, l3, l4⟩ := hL1.cells 8 (by omega)
 simp only [Isa.atD, Isa.atA, Isa.atB, Isa.bits, Isa.layD, Isa.layA, Isa.layB, Isa.layN, List.getD_cons_succ, List.getD_cons_zero, Nat.reduceMul, Nat.reduceAdd, Int.cast_ofNat_Int] at l1 l2 l3 l4
 have z0 := hL1.lt
 have HB1 := Lib.hid (below_next (below_alloc' (Below.refl _ _) _) hb1)
 go_wp2_with fail
 refine wp_loop_rounds 4 ?_
 rw [rounds_succ]
 go_wp2_with fail
 rw [rounds_succ]
 go_wp2_with fail
 rw [rounds_succ]
 go_wp2_with fail
 rw [rounds_succ]
 go_wp2_with fail
 refine (fits_at _ 8 8 rfl _ _ _ _ ?hl (Isa.table_facts ⟨n, h2⟩).1 (Isa.sig_at n h2 _ hf)).mono ?_
 case hl => exact ((((hL1.alloc _).alloc _).alloc _).alloc _).alloc _
 rintro e w2 ⟨rfl, hb2⟩
 have k2 := blk_keep hb2 (blk_alloc _ (blk_alloc _ (blk_alloc _ (blk_alloc _ (blk_alloc _ k1)))))
 have k3 := blk_keep hb2 (blk_alloc _ (blk_alloc _ (blk_alloc _ (heap_alloc2_new _ _ _))))
 obtain ⟨d2, f2⟩ := blk_facts k2
 obtain ⟨d3, f3⟩ := blk_facts k3
 have HB2 := Lib.hid (below_next (below_alloc' (below_alloc' (below_alloc' (below_alloc' (below_alloc' HB1.out _) _) _) _) _) hb2)
 go_wp2_with fail
 go_ret2
 exact ⟨rfl, HB2.out⟩
theorem enc_bad8d (n : Nat) (h1 : 1 ≤ n) (h2 : n < 49) (hf : (Isa.formOf n : Int) = 8) (d a b imm : Int) (ha : 0 ≤ a ∧ a ≤ 255) (hb : 0 ≤ b ∧ b ≤ 255) (hd : 0 < d ∧ d ≤ 255) (him : -2147483648 ≤ imm ∧ imm ≤ 2147483647) (w : World) (hL : Isa.Laid w) :
 Calls Tryz.prog 70 #[.agg #[.int .i64 (n : Int), .int .u8 d, .int .u8 a, .int .u8 b, .int .i32 imm]] w (Isa.EncPost 0 101 w) := by
 by_cases h16 : 16 ≤ d
 · have h17 := h16
   have q0 : decide (16 ≤ d) = true := by simp; omega
   have i0 := fun W => (index_three d a b (-1) (-1) (-1) W).1
   have i1 := fun W => (index_three d a b (-1) (-1) (-1) W).2.1
   have i2 := fun W => (index_three d a b (-1) (-1) (-1) W).2.2
   go_enter Tryz.func70, Tryz.ntmps70
   go_wp2_with fail
   refine (of_at n h1 h2 8 hf _).mono ?_
   rintro e w1 ⟨rfl, hb1⟩
   have hL1 := (hL.below (below_alloc' (Below.refl _ _) _)).below hb1
   have k1 := blk_keep hb1 (heap_alloc_new _ _)
   obtain ⟨d1, f1⟩ := blk_facts k1
   have z1 := blk_size k1
   have z1k : ∀ k, w.heap.size < w1.heap.size + k := fun k => by omega
   obtain ⟨l1, l2, l3, l4⟩ := hL1.cells 8 (by omega)
   simp only [Isa.atD, Isa.atA, Isa.atB, Isa.bits, Isa.layD, Isa.layA, Isa.layB, Isa.layN, List.getD_cons_succ, List.getD_cons_zero, Nat.reduceMul, Nat.reduceAdd, Int.cast_ofNat_Int] at l1 l2 l3 l4
   have z0 := hL1.lt
   have HB1 := Lib.hid (below_next (below_alloc' (Below.refl _ _) _) hb1)
   go_wp2_with fail
   refine wp_loop_rounds 4 ?_
   rw [rounds_succ]
   go_wp2_with fail
   go_ret2
   exact ⟨rfl, (below_alloc' (below_alloc' (below_alloc' HB1.out _) _) _)⟩
 · have h17 := h16
   have q0 : decide (16 ≤ d) = false := by simp; omega
   have p0 : decide (0 < d) = true := by simp; omega
   have i0 := fun W => (index_three d a b (-1) (-1) (-1) W).1
   have i1 := fun W => (index_three d a b (-1) (-1) (-1) W).2.1
   have i2 := fun W => (index_three d a b (-1) (-1) (-1) W).2.2
   go_enter Tryz.func70, Tryz.ntmps70
   go_wp2_with fail
   refine (of_at n h1 h2 8 hf _).mono ?_
   rintro e w1 ⟨rfl, hb1⟩
   have hL1 := (hL.below (below_alloc' (Below.refl _ _) _)).below hb1
   have k1 := blk_keep hb1 (heap_alloc_new _ _)
   obtain ⟨d1, f1⟩ := blk_facts k1
   have z1 := blk_size k1
   have z1k : ∀ k, w.heap.size < w1.heap.size + k := fun k => by omega
   obtain ⟨l1, l2, l3, l4⟩ := hL1.cells 8 (by omega)
   simp only [Isa.atD, Isa.atA, Isa.atB, Isa.bits, Isa.layD, Isa.layA, Isa.layB, Isa.layN, List.getD_cons_succ, List.getD_cons_zero, Nat.reduceMul, Nat.reduceAdd, Int.cast_ofNat_Int] at l1 l2 l3 l4
   have z0 := hL1.lt
   have HB1 := Lib.hid (below_next (below_alloc' (Below.refl _ _) _) hb1)
   go_wp2_with fail
   refine wp_loop_rounds 4 ?_
   rw [rounds_succ]
   go_wp2_with fail
   go_ret2
   exact ⟨rfl, (below_alloc' (below_alloc' (below_alloc' HB1.out _) _) _)⟩
theorem enc_bad8a (n : Nat) (h1 : 1 ≤ n) (h2 : n < 49) (hf : (Isa.formOf n : Int) = 8) (d a b imm : Int) (hd : d = 0) (hb : 0 ≤ b ∧ b ≤ 255) (ha : 0 < a ∧ a ≤ 255) (him : -2147483648 ≤ imm ∧ imm ≤ 2147483647) (w : World) (hL : Isa.Laid w) :
 Calls Tryz.prog 70 #[.agg #[.int .i64 (n : Int), .int .u8 d, .int .u8 a, .int .u8 b, .int .i32 imm]] w (Isa.EncPost 0 101 w) := by
 by_cases h16 : 16 ≤ a
 · have h17 := h16
   subst hd
   have q1 : decide (16 ≤ a) = true := by simp; omega
   have i0 := fun W => (index_three 0 a b (-1) (-1) (-1) W).1
   have i1 := fun W => (index_three 0 a b (-1) (-1) (-1) W).2.1
   have i2 := fun W => (index_three 0 a b (-1) (-1) (-1) W).2.2
   go_enter Tryz.func70, Tryz.ntmps70
   go_wp2_with fail
   refine (of_at n h1 h2 8 hf _).mono ?_
   rintro e w1 ⟨rfl, hb1⟩
   have hL1 := (hL.below (below_alloc' (Below.refl _ _) _)).below hb1
   have k1 := blk_keep hb1 (heap_alloc_new _ _)
   obtain ⟨d1, f1⟩ := blk_facts k1
   have z1 := blk_size k1
   have z1k : ∀ k, w.heap.size < w1.heap.size + k := fun k => by omega
   obtain ⟨l1, l2, l3, l4⟩ := hL1.cells 8 (by omega)
   simp only [Isa.atD, Isa.atA, Isa.atB, Isa.bits, Isa.layD, Isa.layA, Isa.layB, Isa.layN, List.getD_cons_succ, List.getD_cons_zero, Nat.reduceMul, Nat.reduceAdd, Int.cast_ofNat_Int] at l1 l2 l3 l4
   have z0 := hL1.lt
   have HB1 := Lib.hid (below_next (below_alloc' (Below.refl _ _) _) hb1)
   go_wp2_with fail
   refine wp_loop_rounds 4 ?_
   rw [rounds_succ]
   go_wp2_with fail
   rw [rounds_succ]
   go_wp2_with fail
   go_ret2
   exact ⟨rfl, (below_alloc' (below_alloc' (below_alloc' (below_alloc' HB1.out _) _) _) _)⟩
 · have h17 := h16
   subst hd
   have q1 : decide (16 ≤ a) = false := by simp; omega
   have p1 : decide (0 < a) = true := by simp; omega
   have i0 := fun W => (index_three 0 a b (-1) (-1) (-1) W).1
   have i1 := fun W => (index_three 0 a b (-1) (-1) (-1) W).2.1
   have i2 := fun W => (index_three 0 a b (-1) (-1) (-1) W).2.2
   go_enter Tryz.func70, Tryz.ntmps70
   go_wp2_with fail
   refine (of_at n h1 h2 8 hf _).mono ?_
   rintro e w1 ⟨rfl, hb1⟩
   have hL1 := (hL.below (below_alloc' (Below.refl _ _) _)).below hb1
   have k1 := blk_keep hb1 (heap_alloc_new _ _)
   obtain ⟨d1, f1⟩ := blk_facts k1
   have z1 := blk_size k1
   have z1k : ∀ k, w.heap.size < w1.heap.size + k := fun k => by omega
   obtain ⟨l1, l2, l3, l4⟩ := hL1.cells 8 (by omega)
   simp only [Isa.atD, Isa.atA, Isa.atB, Isa.bits, Isa.layD, Isa.layA, Isa.layB, Isa.layN, List.getD_cons_succ, List.getD_cons_zero, Nat.reduceMul, Nat.reduceAdd, Int.cast_ofNat_Int] at l1 l2 l3 l4
   have z0 := hL1.lt
   have HB1 := Lib.hid (below_next (below_alloc' (Below.refl _ _) _) hb1)
   go_wp2_with fail
   refine wp_loop_rounds 4 ?_
   rw [rounds_succ]
   go_wp2_with fail
   rw [rounds_succ]
   go_wp2_with fail
   go_ret2
   exact ⟨rfl, (below_alloc' (below_alloc' (below_alloc' (below_alloc' HB1.out _) _) _) _)⟩
theorem enc_bad8b (n : Nat) (h1 : 1 ≤ n) (h2 : n < 49) (hf : (Isa.formOf n : Int) = 8) (d a b imm : Int) (hd : d = 0) (ha : a = 0) (hb : 0 < b ∧ b ≤ 255) (him : -2147483648 ≤ imm ∧ imm ≤ 2147483647) (w : World) (hL : Isa.Laid w) :
 Calls Tryz.prog 70 #[.agg #[.int .i64 (n : Int), .int .u8 d, .int .u8 a, .int .u8 b, .int .i32 imm]] w (Isa.EncPost 0 101 w) := by
 by_cases h16 : 16 ≤ b
 · have h17 := h16
   subst hd
   subst ha
   have q2 : decide (16 ≤ b) = true := by simp; omega
   have i0 := fun W => (index_three 0 0 b (-1) (-1) (-1) W).1
   have i1 := fun W => (index_three 0 0 b (-1) (-1) (-1) W).2.1
   have i2 := fun W => (index_three 0 0 b (-1) (-1) (-1) W).2.2
   go_enter Tryz.func70, Tryz.ntmps70
   go_wp2_with fail
   refine (of_at n h1 h2 8 hf _).mono ?_
   rintro e w1 ⟨rfl, hb1⟩
   have hL1 := (hL.below (below_alloc' (Below.refl _ _) _)).below hb1
   have k1 := blk_keep hb1 (heap_alloc_new _ _)
   obtain ⟨d1, f1⟩ := blk_facts k1
   have z1 := blk_size k1
   have z1k : ∀ k, w.heap.size < w1.heap.size + k := fun k => by omega
   obtain ⟨l1, l2, l3, l4⟩ := hL1.cells 8 (by omega)
   simp only [Isa.atD, Isa.atA, Isa.atB, Isa.bits, Isa.layD, Isa.layA, Isa.layB, Isa.layN, List.getD_cons_succ, List.getD_cons_zero, Nat.reduceMul, Nat.reduceAdd, Int.cast_ofNat_Int] at l1 l2 l3 l4
   have z0 := hL1.lt
   have HB1 := Lib.hid (below_next (below_alloc' (Below.refl _ _) _) hb1)
   go_wp2_with fail
   refine wp_loop_rounds 4 ?_
   rw [rounds_succ]
   go_wp2_with fail
   rw [rounds_succ]
   go_wp2_with fail
   rw [rounds_succ]
   go_wp2_with fail
   go_ret2
   exact ⟨rfl, (below_alloc' (below_alloc' (below_alloc' (below_alloc' (below_alloc' HB1.out _) _) _) _) _)⟩
 · have h17 := h16
   subst hd
   subst ha
   have q2 : decide (16 ≤ b) = false := by simp; omega
   have p2 : decide (0 < b) = true := by simp; omega
   have i0 := fun W => (index_three 0 0 b (-1) (-1) (-1) W).1
   have i1 := fun W => (index_three 0 0 b (-1) (-1) (-1) W).2.1
   have i2 := fun W => (index_three 0 0 b (-1) (-1) (-1) W).2.2
   go_enter Tryz.func70, Tryz.ntmps70
   go_wp2_with fail
   refine (of_at n h1 h2 8 hf _).mono ?_
   rintro e w1 ⟨rfl, hb1⟩
   have hL1 := (hL.below (below_alloc' (Below.refl _ _) _)).below hb1
   have k1 := blk_keep hb1 (heap_alloc_new _ _)
   obtain ⟨d1, f1⟩ := blk_facts k1
   have z1 := blk_size k1
   have z1k : ∀ k, w.heap.size < w1.heap.size + k := fun k => by omega
   obtain ⟨l1, l2, l3, l4⟩ := hL1.cells 8 (by omega)
   simp only [Isa.atD, Isa.atA, Isa.atB, Isa.bits, Isa.layD, Isa.layA, Isa.layB, Isa.layN, List.getD_cons_succ, List.getD_cons_zero, Nat.reduceMul, Nat.reduceAdd, Int.cast_ofNat_Int] at l1 l2 l3 l4
   have z0 := hL1.lt
   have HB1 := Lib.hid (below_next (below_alloc' (Below.refl _ _) _) hb1)
   go_wp2_with fail
   refine wp_loop_rounds 4 ?_
   rw [rounds_succ]
   go_wp2_with fail
   rw [rounds_succ]
   go_wp2_with fail
   rw [rounds_succ]
   go_wp2_with fail
   go_ret2
   exact ⟨rfl, (below_alloc' (below_alloc' (below_alloc' (below_alloc' (below_alloc' HB1.out _) _) _) _) _)⟩
end Go.Proofs.YtabmlbnnhhpaoaaGreatDoor
set_option maxHeartbeats 4000000
set_option maxRecDepth 100000
namespace Go.Proofs.YtabmlbnnhhpaoaaGreatDoor
open Go.RowKit
theorem enc_none (op : Int) (h : op < 1 ∨ 49 ≤ op) (d a b imm : Int) (w : World) (hL : Isa.Laid w) :
 Calls Tryz.prog 70 #[.agg #[.int .i64 op, .int .u8 d, .int .u8 a, .int .u8 b, .int .i32 imm]] w (Isa.EncPost 0 100 w) := by
 have hO := Lib.hid h
 clear h
 go_enter Tryz.func70, Tryz.ntmps70
 go_wp2_with fail
 refine (of_none op hO.out _).mono ?_
 rintro e w1 ⟨rfl, hb1⟩
 have HB1 := Lib.hid (below_next (below_alloc' (Below.refl _ _) _) hb1)
 go_wp2_with fail
 go_ret2
 exact ⟨rfl, below_alloc' HB1.out _⟩
theorem isa_word1 (n d a b imm : Int) (hn : 0 ≤ n ∧ n ≤ 48) (hd : 0 ≤ d ∧ d ≤ 15) (ha : 0 ≤ a ∧ a ≤ 15) (hb : 0 ≤ b ∧ b ≤ 15) : bits BinOp.or IntKind.u32 (bits BinOp.or IntKind.u32 (bits BinOp.or IntKind.u32 (bits BinOp.or IntKind.u32 (n * 67108864) (d * 4194304)) (a * 262144)) (b * 16384)) (bits BinOp.and IntKind.u32 (imm % 4294967296) 0) = n * 67108864 + d * 4194304 + a * 262144 + b * 16384 + imm % 1 := by
 have m0 : bits BinOp.and IntKind.u32 (imm % 4294967296) 0 = imm % 1 := by
  rw [show (0 : Int) = 2 ^ 0 - 1 from rfl, u32_mask 0 (by decide) _ (by omega) (by omega)]
  omega
 rw [m0]
 rw [u32_join 26 (n * 67108864) (d * 4194304) (by decide) (by omega) (by omega) (by omega) (by omega) (by omega)]
 rw [u32_join 22 (n * 67108864 + d * 4194304) (a * 262144) (by decide) (by omega) (by omega) (by omega) (by omega) (by omega)]
 rw [u32_join 18 (n * 67108864 + d * 4194304 + a * 262144) (b * 16384) (by decide) (by omega) (by omega) (by omega) (by omega) (by omega)]
 rw [u32_join 14 (n * 67108864 + d * 4194304 + a * 262144 + b * 16384) (imm % 1) (by decide) (by omega) (by omega) (by omega) (by omega) (by omega)]
theorem isa_word2 (n d a b imm : Int) (hn : 0 ≤ n ∧ n ≤ 48) (hd : 0 ≤ d ∧ d ≤ 15) (ha : 0 ≤ a ∧ a ≤ 15) : bits BinOp.or IntKind.u32 (bits BinOp.or IntKind.u32 (bits BinOp.or IntKind.u32 (n * 67108864) (d * 4194304)) (a * 262144)) (bits BinOp.and IntKind.u32 (imm % 4294967296) 262143) = n * 67108864 + d * 4194304 + a * 262144 + imm % 262144 := by
 have m0 : bits BinOp.and IntKind.u32 (imm % 4294967296) 262143 = imm % 262144 := by
  rw [show (262143 : Int) = 2 ^ 18 - 1 from rfl, u32_mask 18 (by decide) _ (by omega) (by omega)]
  omega
 rw [m0]
 rw [u32_join 26 (n * 67108864) (d * 4194304) (by decide) (by omega) (by omega) (by omega) (by omega) (by omega)]
 rw [u32_join 22 (n * 67108864 + d * 4194304) (a * 262144) (by decide) (by omega) (by omega) (by omega) (by omega) (by omega)]
 rw [u32_join 18 (n * 67108864 + d * 4194304 + a * 262144) (imm % 262144) (by decide) (by omega) (by omega) (by omega) (by omega) (by omega)]
theorem isa_word3 (n d a b imm : Int) (hn : 0 ≤ n ∧ n ≤ 48) (ha : 0 ≤ a ∧ a ≤ 15) (hb : 0 ≤ b ∧ b ≤ 15) : bits BinOp.or IntKind.u32 (bits BinOp.or IntKind.u32 (bits BinOp.or IntKind.u32 (n * 67108864) (a * 4194304)) (b * 262144)) (bits BinOp.and IntKind.u32 (imm % 4294967296) 262143) = n * 67108864 + a * 4194304 + b * 262144 + imm % 262144 := by
 have m0 : bits BinOp.and IntKind.u32 (imm % 4294967296) 262143 = imm % 262144 := by
  rw [show (262143 : Int) = 2 ^ 18 - 1 from rfl, u32_mask 18 (by decide) _ (by omega) (by omega)]
  omega
 rw [m0]
 rw [u32_join 26 (n * 67108864) (a * 4194304) (by decide) (by omega) (by omega) (by omega) (by omega) (by omega)]
 rw [u32_join 22 (n * 67108864 + a * 4194304) (b * 262144) (by decide) (by omega) (by omega) (by omega) (by omega) (by omega)]
 rw [u32_join 18 (n * 67108864 + a * 4194304 + b * 262144) (imm % 262144) (by decide) (by omega) (by omega) (by omega) (by omega) (by omega)]
theorem isa_word4 (n d a b imm : Int) (hn : 0 ≤ n ∧ n ≤ 48) (hd : 0 ≤ d ∧ d ≤ 15) : bits BinOp.or IntKind.u32 (bits BinOp.or IntKind.u32 (n * 67108864) (d * 4194304)) (bits BinOp.and IntKind.u32 (imm % 4294967296) 4194303) = n * 67108864 + d * 4194304 + imm % 4194304 := by
 have m0 : bits BinOp.and IntKind.u32 (imm % 4294967296) 4194303 = imm % 4194304 := by
  rw [show (4194303 : Int) = 2 ^ 22 - 1 from rfl, u32_mask 22 (by decide) _ (by omega) (by omega)]
  omega
 rw [m0]
 rw [u32_join 26 (n * 67108864) (d * 4194304) (by decide) (by omega) (by omega) (by omega) (by omega) (by omega)]
 rw [u32_join 22 (n * 67108864 + d * 4194304) (imm % 4194304) (by decide) (by omega) (by omega) (by omega) (by omega) (by omega)]
theorem isa_word5 (n d a b imm : Int) (hn : 0 ≤ n ∧ n ≤ 48) (hd : 0 ≤ d ∧ d ≤ 15) : bits BinOp.or IntKind.u32 (bits BinOp.or IntKind.u32 (n * 67108864) (d * 4194304)) (bits BinOp.and IntKind.u32 (imm % 4294967296) 0) = n * 67108864 + d * 4194304 + imm % 1 := by
 have m0 : bits BinOp.and IntKind.u32 (imm % 4294967296) 0 = imm % 1 := by
  rw [show (0 : Int) = 2 ^ 0 - 1 from rfl, u32_mask 0 (by decide) _ (by omega) (by omega)]
  omega
 rw [m0]
 rw [u32_join 26 (n * 67108864) (d * 4194304) (by decide) (by omega) (by omega) (by omega) (by omega) (by omega)]
 rw [u32_join 22 (n * 67108864 + d * 4194304) (imm % 1) (by decide) (by omega) (by omega) (by omega) (by omega) (by omega)]
theorem isa_word6 (n d a b imm : Int) (hn : 0 ≤ n ∧ n ≤ 48) (ha : 0 ≤ a ∧ a ≤ 15) : bits BinOp.or IntKind.u32 (bits BinOp.or IntKind.u32 (n * 67108864) (a * 4194304)) (bits BinOp.and IntKind.u32 (imm % 4294967296) 0) = n * 67108864 + a * 4194304 + imm % 1 := by
 have m0 : bits BinOp.and IntKind.u32 (imm % 4294967296) 0 = imm % 1 := by
  rw [show (0 : Int) = 2 ^ 0 - 1 from rfl, u32_mask 0 (by decide) _ (by omega) (by omega)]
  omega
 rw [m0]
 rw [u32_join 26 (n * 67108864) (a * 4194304) (by decide) (by omega) (by omega) (by omega) (by omega) (by omega)]
 rw [u32_join 22 (n * 67108864 + a * 4194304) (imm % 1) (by decide) (by omega) (by omega) (by omega) (by omega) (by omega)]
theorem isa_word7 (n d a b imm : Int) (hn : 0 ≤ n ∧ n ≤ 48)  : bits BinOp.or IntKind.u32 (n * 67108864) (bits BinOp.and IntKind.u32 (imm % 4294967296) 67108863) = n * 67108864 + imm % 67108864 := by
 have m0 : bits BinOp.and IntKind.u32 (imm % 4294967296) 67108863 = imm % 67108864 := by
  rw [show (67108863 : Int) = 2 ^ 26 - 1 from rfl, u32_mask 26 (by decide) _ (by omega) (by omega)]
  omega
 rw [m0]
 rw [u32_join 26 (n * 67108864) (imm % 67108864) (by decide) (by omega) (by omega) (by omega) (by omega) (by omega)]
theorem isa_word8 (n d a b imm : Int) (hn : 0 ≤ n ∧ n ≤ 48)  : bits BinOp.or IntKind.u32 (n * 67108864) (bits BinOp.and IntKind.u32 (imm % 4294967296) 0) = n * 67108864 + imm % 1 := by
 have m0 : bits BinOp.and IntKind.u32 (imm % 4294967296) 0 = imm % 1 := by
  rw [show (0 : Int) = 2 ^ 0 - 1 from rfl, u32_mask 0 (by decide) _ (by omega) (by omega)]
  omega
 rw [m0]
 rw [u32_join 26 (n * 67108864) (imm % 1) (by decide) (by omega) (by omega) (by omega) (by omega) (by omega)]
def Isa.badAt (at_ r : Int) : Bool := decide (16 ≤ r) || (decide (at_ < 0) && decide (0 < r))
def Isa.place (at_ r : Int) : Int := if 0 ≤ at_ then r * 2 ^ at_.toNat else 0
def Isa.wordF (f : Nat) (n d a b imm : Int) : Int := n * 67108864 + Isa.place (Isa.atD f) d + Isa.place (Isa.atA f) a + Isa.place (Isa.atB f) b + imm % 2 ^ Isa.bits f
def Isa.encF (f nu : Nat) (n d a b imm : Int) : Int × Int :=
 if (Isa.badAt (Isa.atD f) d || Isa.badAt (Isa.atA f) a || Isa.badAt (Isa.atB f) b) = true then (0, 101) else if Isa.fits f nu imm = true then (Isa.wordF f n d a b imm, 0) else (0, 102)
def Isa.enc (op d a b imm : Int) : Int × Int := if op < 1 ∨ 49 ≤ op then (0, 100) else Isa.encF (Isa.formOf op.toNat) (Isa.numOf op.toNat) op d a b imm
theorem enc_form1 (n : Nat) (h1 : 1 ≤ n) (h2 : n < 49) (hf : Isa.formOf n = 1) (d a b imm : Int) (hd : 0 ≤ d ∧ d ≤ 255) (ha : 0 ≤ a ∧ a ≤ 255) (hb : 0 ≤ b ∧ b ≤ 255) (him : -2147483648 ≤ imm ∧ imm ≤ 2147483647) (w : World) (hL : Isa.Laid w) :
 Calls Tryz.prog 70 #[.agg #[.int .i64 (n : Int), .int .u8 d, .int .u8 a, .int .u8 b, .int .i32 imm]] w (Isa.EncPost (Isa.encF 1 (Isa.numOf n) (n : Int) d a b imm).1 (Isa.encF 1 (Isa.numOf n) (n : Int) d a b imm).2 w) := by
 have hf' : (Isa.formOf n : Int) = 1 := by rw [hf]; rfl
 by_cases bd : 16 ≤ d
 · have e : Isa.encF 1 (Isa.numOf n) (n : Int) d a b imm = (0, 101) := by unfold Isa.encF; rw [if_pos]; simp [Isa.badAt, Isa.atD, Isa.atA, Isa.atB, Isa.layD, Isa.layA, Isa.layB, bd]
   rw [e]
   exact enc_bad1d n h1 h2 hf' d a b imm ha hb ⟨bd, hd.2⟩ him w hL
 · have gd : d ≤ 15 := by omega
   by_cases ba : 16 ≤ a
   · have e : Isa.encF 1 (Isa.numOf n) (n : Int) d a b imm = (0, 101) := by unfold Isa.encF; rw [if_pos]; simp [Isa.badAt, Isa.atD, Isa.atA, Isa.atB, Isa.layD, Isa.layA, Isa.layB, ba]
     rw [e]
     exact enc_bad1a n h1 h2 hf' d a b imm (by omega) hb ⟨ba, ha.2⟩ him w hL
   · have ga : a ≤ 15 := by omega
     by_cases bb : 16 ≤ b
     · have e : Isa.encF 1 (Isa.numOf n) (n : Int) d a b imm = (0, 101) := by unfold Isa.encF; rw [if_pos]; simp [Isa.badAt, Isa.atD, Isa.atA, Isa.atB, Isa.layD, Isa.layA, Isa.layB, bb]
       rw [e]
       exact enc_bad1b n h1 h2 hf' d a b imm (by omega) (by omega) ⟨bb, hb.2⟩ him w hL
     · have gb : b ≤ 15 := by omega
       have nb : ¬ (Isa.badAt (Isa.atD 1) d || Isa.badAt (Isa.atA 1) a || Isa.badAt (Isa.atB 1) b) = true := by
        simp [Isa.badAt, Isa.atD, Isa.atA, Isa.atB, Isa.layD, Isa.layA, Isa.layB]
        omega
       by_cases hF : Isa.fits 1 (Isa.numOf n) imm = true
       · have e : Isa.encF 1 (Isa.numOf n) (n : Int) d a b imm = (bits BinOp.or IntKind.u32 (bits BinOp.or IntKind.u32 (bits BinOp.or IntKind.u32 (bits BinOp.or IntKind.u32 ((n : Int) * 67108864) (d * 4194304)) (a * 262144)) (b * 16384)) (bits BinOp.and IntKind.u32 (imm % 4294967296) 0), 0) := by
          unfold Isa.encF
          rw [if_neg nb, if_pos hF, isa_word1 (n : Int) d a b imm (by omega) ⟨hd.1, gd⟩ ⟨ha.1, ga⟩ ⟨hb.1, gb⟩]
          simp [Isa.wordF, Isa.place, Isa.bits, Isa.layN, Isa.atD, Isa.atA, Isa.atB, Isa.layD, Isa.layA, Isa.layB]
         rw [e]
         exact enc_good1 n h1 h2 hf' d a b imm ⟨hd.1, gd⟩ ⟨ha.1, ga⟩ ⟨hb.1, gb⟩ him hF w hL
       · have hF2 : Isa.fits 1 (Isa.numOf n) imm = false := by simpa using hF
         have e : Isa.encF 1 (Isa.numOf n) (n : Int) d a b imm = (0, 102) := by unfold Isa.encF; rw [if_neg nb, if_neg hF]
         rw [e]
         exact enc_imm1 n h1 h2 hf' d a b imm ⟨hd.1, gd⟩ ⟨ha.1, ga⟩ ⟨hb.1, gb⟩ him hF2 w hL
theorem enc_form2 (n : Nat) (h1 : 1 ≤ n) (h2 : n < 49) (hf : Isa.formOf n = 2) (d a b imm : Int) (hd : 0 ≤ d ∧ d ≤ 255) (ha : 0 ≤ a ∧ a ≤ 255) (hb : 0 ≤ b ∧ b ≤ 255) (him : -2147483648 ≤ imm ∧ imm ≤ 2147483647) (w : World) (hL : Isa.Laid w) :
 Calls Tryz.prog 70 #[.agg #[.int .i64 (n : Int), .int .u8 d, .int .u8 a, .int .u8 b, .int .i32 imm]] w (Isa.EncPost (Isa.encF 2 (Isa.numOf n) (n : Int) d a b imm).1 (Isa.encF 2 (Isa.numOf n) (n : Int) d a b imm).2 w) := by
 have hf' : (Isa.formOf n : Int) = 2 := by rw [hf]; rfl
 by_cases bd : 16 ≤ d
 · have e : Isa.encF 2 (Isa.numOf n) (n : Int) d a b imm = (0, 101) := by unfold Isa.encF; rw [if_pos]; simp [Isa.badAt, Isa.atD, Isa.atA, Isa.atB, Isa.layD, Isa.layA, Isa.layB, bd]
   rw [e]
   exact enc_bad2d n h1 h2 hf' d a b imm ha hb ⟨bd, hd.2⟩ him w hL
 · have gd : d ≤ 15 := by omega
   by_cases ba : 16 ≤ a
   · have e : Isa.encF 2 (Isa.numOf n) (n : Int) d a b imm = (0, 101) := by unfold Isa.encF; rw [if_pos]; simp [Isa.badAt, Isa.atD, Isa.atA, Isa.atB, Isa.layD, Isa.layA, Isa.layB, ba]
     rw [e]
     exact enc_bad2a n h1 h2 hf' d a b imm (by omega) hb ⟨ba, ha.2⟩ him w hL
   · have ga : a ≤ 15 := by omega
     by_cases bb : 0 < b
     · have e : Isa.encF 2 (Isa.numOf n) (n : Int) d a b imm = (0, 101) := by unfold Isa.encF; rw [if_pos]; simp [Isa.badAt, Isa.atD, Isa.atA, Isa.atB, Isa.layD, Isa.layA, Isa.layB, bb]
       rw [e]
       exact enc_bad2b n h1 h2 hf' d a b imm (by omega) (by omega) ⟨bb, hb.2⟩ him w hL
     · have gb : b = 0 := by omega
       subst gb
       have nb : ¬ (Isa.badAt (Isa.atD 2) d || Isa.badAt (Isa.atA 2) a || Isa.badAt (Isa.atB 2) 0) = true := by
        simp [Isa.badAt, Isa.atD, Isa.atA, Isa.atB, Isa.layD, Isa.layA, Isa.layB]
        omega
       by_cases hF : Isa.fits 2 (Isa.numOf n) imm = true
       · have e : Isa.encF 2 (Isa.numOf n) (n : Int) d a 0 imm = (bits BinOp.or IntKind.u32 (bits BinOp.or IntKind.u32 (bits BinOp.or IntKind.u32 ((n : Int) * 67108864) (d * 4194304)) (a * 262144)) (bits BinOp.and IntKind.u32 (imm % 4294967296) 262143), 0) := by
          unfold Isa.encF
          rw [if_neg nb, if_pos hF, isa_word2 (n : Int) d a 0 imm (by omega) ⟨hd.1, gd⟩ ⟨ha.1, ga⟩]
          simp [Isa.wordF, Isa.place, Isa.bits, Isa.layN, Isa.atD, Isa.atA, Isa.atB, Isa.layD, Isa.layA, Isa.layB]
         rw [e]
         exact enc_good2 n h1 h2 hf' d a imm ⟨hd.1, gd⟩ ⟨ha.1, ga⟩ him hF w hL
       · have hF2 : Isa.fits 2 (Isa.numOf n) imm = false := by simpa using hF
         have e : Isa.encF 2 (Isa.numOf n) (n : Int) d a 0 imm = (0, 102) := by unfold Isa.encF; rw [if_neg nb, if_neg hF]
         rw [e]
         exact enc_imm2 n h1 h2 hf' d a imm ⟨hd.1, gd⟩ ⟨ha.1, ga⟩ him hF2 w hL
theorem enc_form3 (n : Nat) (h1 : 1 ≤ n) (h2 : n < 49) (hf : Isa.formOf n = 3) (d a b imm : Int) (hd : 0 ≤ d ∧ d ≤ 255) (ha : 0 ≤ a ∧ a ≤ 255) (hb : 0 ≤ b ∧ b ≤ 255) (him : -2147483648 ≤ imm ∧ imm ≤ 2147483647) (w : World) (hL : Isa.Laid w) :
 Calls Tryz.prog 70 #[.agg #[.int .i64 (n : Int), .int .u8 d, .int .u8 a, .int .u8 b, .int .i32 imm]] w (Isa.EncPost (Isa.encF 3 (Isa.numOf n) (n : Int) d a b imm).1 (Isa.encF 3 (Isa.numOf n) (n : Int) d a b imm).2 w) := by
 have hf' : (Isa.formOf n : Int) = 3 := by rw [hf]; rfl
 by_cases bd : 0 < d
 · have e : Isa.encF 3 (Isa.numOf n) (n : Int) d a b imm = (0, 101) := by unfold Isa.encF; rw [if_pos]; simp [Isa.badAt, Isa.atD, Isa.atA, Isa.atB, Isa.layD, Isa.layA, Isa.layB, bd]
   rw [e]
   exact enc_bad3d n h1 h2 hf' d a b imm ha hb ⟨bd, hd.2⟩ him w hL
 · have gd : d = 0 := by omega
   by_cases ba : 16 ≤ a
   · have e : Isa.encF 3 (Isa.numOf n) (n : Int) d a b imm = (0, 101) := by unfold Isa.encF; rw [if_pos]; simp [Isa.badAt, Isa.atD, Isa.atA, Isa.atB, Isa.layD, Isa.layA, Isa.layB, ba]
     rw [e]
     exact enc_bad3a n h1 h2 hf' d a b imm (by omega) hb ⟨ba, ha.2⟩ him w hL
   · have ga : a ≤ 15 := by omega
     by_cases bb : 16 ≤ b
     · have e : Isa.encF 3 (Isa.numOf n) (n : Int) d a b imm = (0, 101) := by unfold Isa.encF; rw [if_pos]; simp [Isa.badAt, Isa.atD, Isa.atA, Isa.atB, Isa.layD, Isa.layA, Isa.layB, bb]
       rw [e]
       exact enc_bad3b n h1 h2 hf' d a b imm (by omega) (by omega) ⟨bb, hb.2⟩ him w hL
     · have gb : b ≤ 15 := by omega
       subst gd
       have nb : ¬ (Isa.badAt (Isa.atD 3) 0 || Isa.badAt (Isa.atA 3) a || Isa.badAt (Isa.atB 3) b) = true := by
        simp [Isa.badAt, Isa.atD, Isa.atA, Isa.atB, Isa.layD, Isa.layA, Isa.layB]
        omega
       by_cases hF : Isa.fits 3 (Isa.numOf n) imm = true
       · have e : Isa.encF 3 (Isa.numOf n) (n : Int) 0 a b imm = (bits BinOp.or IntKind.u32 (bits BinOp.or IntKind.u32 (bits BinOp.or IntKind.u32 ((n : Int) * 67108864) (a * 4194304)) (b * 262144)) (bits BinOp.and IntKind.u32 (imm % 4294967296) 262143), 0) := by
          unfold Isa.encF
          rw [if_neg nb, if_pos hF, isa_word3 (n : Int) 0 a b imm (by omega) ⟨ha.1, ga⟩ ⟨hb.1, gb⟩]
          simp [Isa.wordF, Isa.place, Isa.bits, Isa.layN, Isa.atD, Isa.atA, Isa.atB, Isa.layD, Isa.layA, Isa.layB]
         rw [e]
         exact enc_good3 n h1 h2 hf' a b imm ⟨ha.1, ga⟩ ⟨hb.1, gb⟩ him hF w hL
       · have hF2 : Isa.fits 3 (Isa.numOf n) imm = false := by simpa using hF
         have e : Isa.encF 3 (Isa.numOf n) (n : Int) 0 a b imm = (0, 102) := by unfold Isa.encF; rw [if_neg nb, if_neg hF]
         rw [e]
         exact enc_imm3 n h1 h2 hf' a b imm ⟨ha.1, ga⟩ ⟨hb.1, gb⟩ him hF2 w hL
theorem enc_form4 (n : Nat) (h1 : 1 ≤ n) (h2 : n < 49) (hf : Isa.formOf n = 4) (d a b imm : Int) (hd : 0 ≤ d ∧ d ≤ 255) (ha : 0 ≤ a ∧ a ≤ 255) (hb : 0 ≤ b ∧ b ≤ 255) (him : -2147483648 ≤ imm ∧ imm ≤ 2147483647) (w : World) (hL : Isa.Laid w) :
 Calls Tryz.prog 70 #[.agg #[.int .i64 (n : Int), .int .u8 d, .int .u8 a, .int .u8 b, .int .i32 imm]] w (Isa.EncPost (Isa.encF 4 (Isa.numOf n) (n : Int) d a b imm).1 (Isa.encF 4 (Isa.numOf n) (n : Int) d a b imm).2 w) := by
 have hf' : (Isa.formOf n : Int) = 4 := by rw [hf]; rfl
 by_cases bd : 16 ≤ d
 · have e : Isa.encF 4 (Isa.numOf n) (n : Int) d a b imm = (0, 101) := by unfold Isa.encF; rw [if_pos]; simp [Isa.badAt, Isa.atD, Isa.atA, Isa.atB, Isa.layD, Isa.layA, Isa.layB, bd]
   rw [e]
   exact enc_bad4d n h1 h2 hf' d a b imm ha hb ⟨bd, hd.2⟩ him w hL
 · have gd : d ≤ 15 := by omega
   by_cases ba : 0 < a
   · have e : Isa.encF 4 (Isa.numOf n) (n : Int) d a b imm = (0, 101) := by unfold Isa.encF; rw [if_pos]; simp [Isa.badAt, Isa.atD, Isa.atA, Isa.atB, Isa.layD, Isa.layA, Isa.layB, ba]
     rw [e]
     exact enc_bad4a n h1 h2 hf' d a b imm (by omega) hb ⟨ba, ha.2⟩ him w hL
   · have ga : a = 0 := by omega
     by_cases bb : 0 < b
     · have e : Isa.encF 4 (Isa.numOf n) (n : Int) d a b imm = (0, 101) := by unfold Isa.encF; rw [if_pos]; simp [Isa.badAt, Isa.atD, Isa.atA, Isa.atB, Isa.layD, Isa.layA, Isa.layB, bb]
       rw [e]
       exact enc_bad4b n h1 h2 hf' d a b imm (by omega) (by omega) ⟨bb, hb.2⟩ him w hL
     · have gb : b = 0 := by omega
       subst ga
       subst gb
       have nb : ¬ (Isa.badAt (Isa.atD 4) d || Isa.badAt (Isa.atA 4) 0 || Isa.badAt (Isa.atB 4) 0) = true := by
        simp [Isa.badAt, Isa.atD, Isa.atA, Isa.atB, Isa.layD, Isa.layA, Isa.layB]
        omega
       by_cases hF : Isa.fits 4 (Isa.numOf n) imm = true
       · have e : Isa.encF 4 (Isa.numOf n) (n : Int) d 0 0 imm = (bits BinOp.or IntKind.u32 (bits BinOp.or IntKind.u32 ((n : Int) * 67108864) (d * 4194304)) (bits BinOp.and IntKind.u32 (imm % 4294967296) 4194303), 0) := by
          unfold Isa.encF
          rw [if_neg nb, if_pos hF, isa_word4 (n : Int) d 0 0 imm (by omega) ⟨hd.1, gd⟩]
          simp [Isa.wordF, Isa.place, Isa.bits, Isa.layN, Isa.atD, Isa.atA, Isa.atB, Isa.layD, Isa.layA, Isa.layB]
         rw [e]
         exact enc_good4 n h1 h2 hf' d imm ⟨hd.1, gd⟩ him hF w hL
       · have hF2 : Isa.fits 4 (Isa.numOf n) imm = false := by simpa using hF
         have e : Isa.encF 4 (Isa.numOf n) (n : Int) d 0 0 imm = (0, 102) := by unfold Isa.encF; rw [if_neg nb, if_neg hF]
         rw [e]
         exact enc_imm4 n h1 h2 hf' d imm ⟨hd.1, gd⟩ him hF2 w hL
theorem enc_form5 (n : Nat) (h1 : 1 ≤ n) (h2 : n < 49) (hf : Isa.formOf n = 5) (d a b imm : Int) (hd : 0 ≤ d ∧ d ≤ 255) (ha : 0 ≤ a ∧ a ≤ 255) (hb : 0 ≤ b ∧ b ≤ 255) (him : -2147483648 ≤ imm ∧ imm ≤ 2147483647) (w : World) (hL : Isa.Laid w) :
 Calls Tryz.prog 70 #[.agg #[.int .i64 (n : Int), .int .u8 d, .int .u8 a, .int .u8 b, .int .i32 imm]] w (Isa.EncPost (Isa.encF 5 (Isa.numOf n) (n : Int) d a b imm).1 (Isa.encF 5 (Isa.numOf n) (n : Int) d a b imm).2 w) := by
 have hf' : (Isa.formOf n : Int) = 5 := by rw [hf]; rfl
 by_cases bd : 16 ≤ d
 · have e : Isa.encF 5 (Isa.numOf n) (n : Int) d a b imm = (0, 101) := by unfold Isa.encF; rw [if_pos]; simp [Isa.badAt, Isa.atD, Isa.atA, Isa.atB, Isa.layD, Isa.layA, Isa.layB, bd]
   rw [e]
   exact enc_bad5d n h1 h2 hf' d a b imm ha hb ⟨bd, hd.2⟩ him w hL
 · have gd : d ≤ 15 := by omega
   by_cases ba : 0 < a
   · have e : Isa.encF 5 (Isa.numOf n) (n : Int) d a b imm = (0, 101) := by unfold Isa.encF; rw [if_pos]; simp [Isa.badAt, Isa.atD, Isa.atA, Isa.atB, Isa.layD, Isa.layA, Isa.layB, ba]
     rw [e]
     exact enc_bad5a n h1 h2 hf' d a b imm (by omega) hb ⟨ba, ha.2⟩ him w hL
   · have ga : a = 0 := by omega
     by_cases bb : 0 < b
     · have e : Isa.encF 5 (Isa.numOf n) (n : Int) d a b imm = (0, 101) := by unfold Isa.encF; rw [if_pos]; simp [Isa.badAt, Isa.atD, Isa.atA, Isa.atB, Isa.layD, Isa.layA, Isa.layB, bb]
       rw [e]
       exact enc_bad5b n h1 h2 hf' d a b imm (by omega) (by omega) ⟨bb, hb.2⟩ him w hL
     · have gb : b = 0 := by omega
       subst ga
       subst gb
       have nb : ¬ (Isa.badAt (Isa.atD 5) d || Isa.badAt (Isa.atA 5) 0 || Isa.badAt (Isa.atB 5) 0) = true := by
        simp [Isa.badAt, Isa.atD, Isa.atA, Isa.atB, Isa.layD, Isa.layA, Isa.layB]
        omega
       by_cases hF : Isa.fits 5 (Isa.numOf n) imm = true
       · have e : Isa.encF 5 (Isa.numOf n) (n : Int) d 0 0 imm = (bits BinOp.or IntKind.u32 (bits BinOp.or IntKind.u32 ((n : Int) * 67108864) (d * 4194304)) (bits BinOp.and IntKind.u32 (imm % 4294967296) 0), 0) := by
          unfold Isa.encF
          rw [if_neg nb, if_pos hF, isa_word5 (n : Int) d 0 0 imm (by omega) ⟨hd.1, gd⟩]
          simp [Isa.wordF, Isa.place, Isa.bits, Isa.layN, Isa.atD, Isa.atA, Isa.atB, Isa.layD, Isa.layA, Isa.layB]
         rw [e]
         exact enc_good5 n h1 h2 hf' d imm ⟨hd.1, gd⟩ him hF w hL
       · have hF2 : Isa.fits 5 (Isa.numOf n) imm = false := by simpa using hF
         have e : Isa.encF 5 (Isa.numOf n) (n : Int) d 0 0 imm = (0, 102) := by unfold Isa.encF; rw [if_neg nb, if_neg hF]
         rw [e]
         exact enc_imm5 n h1 h2 hf' d imm ⟨hd.1, gd⟩ him hF2 w hL
theorem enc_form6 (n : Nat) (h1 : 1 ≤ n) (h2 : n < 49) (hf : Isa.formOf n = 6) (d a b imm : Int) (hd : 0 ≤ d ∧ d ≤ 255) (ha : 0 ≤ a ∧ a ≤ 255) (hb : 0 ≤ b ∧ b ≤ 255) (him : -2147483648 ≤ imm ∧ imm ≤ 2147483647) (w : World) (hL : Isa.Laid w) :
 Calls Tryz.prog 70 #[.agg #[.int .i64 (n : Int), .int .u8 d, .int .u8 a, .int .u8 b, .int .i32 imm]] w (Isa.EncPost (Isa.encF 6 (Isa.numOf n) (n : Int) d a b imm).1 (Isa.encF 6 (Isa.numOf n) (n : Int) d a b imm).2 w) := by
 have hf' : (Isa.formOf n : Int) = 6 := by rw [hf]; rfl
 by_cases bd : 0 < d
 · have e : Isa.encF 6 (Isa.numOf n) (n : Int) d a b imm = (0, 101) := by unfold Isa.encF; rw [if_pos]; simp [Isa.badAt, Isa.atD, Isa.atA, Isa.atB, Isa.layD, Isa.layA, Isa.layB, bd]
   rw [e]
   exact enc_bad6d n h1 h2 hf' d a b imm ha hb ⟨bd, hd.2⟩ him w hL
 · have gd : d = 0 := by omega
   by_cases ba : 16 ≤ a
   · have e : Isa.encF 6 (Isa.numOf n) (n : Int) d a b imm = (0, 101) := by unfold Isa.encF; rw [if_pos]; simp [Isa.badAt, Isa.atD, Isa.atA, Isa.atB, Isa.layD, Isa.layA, Isa.layB, ba]
     rw [e]
     exact enc_bad6a n h1 h2 hf' d a b imm (by omega) hb ⟨ba, ha.2⟩ him w hL
   · have ga : a ≤ 15 := by omega
     by_cases bb : 0 < b
     · have e : Isa.encF 6 (Isa.numOf n) (n : Int) d a b imm = (0, 101) := by unfold Isa.encF; rw [if_pos]; simp [Isa.badAt, Isa.atD, Isa.atA, Isa.atB, Isa.layD, Isa.layA, Isa.layB, bb]
       rw [e]
       exact enc_bad6b n h1 h2 hf' d a b imm (by omega) (by omega) ⟨bb, hb.2⟩ him w hL
     · have gb : b = 0 := by omega
       subst gd
       subst gb
       have nb : ¬ (Isa.badAt (Isa.atD 6) 0 || Isa.badAt (Isa.atA 6) a || Isa.badAt (Isa.atB 6) 0) = true := by
        simp [Isa.badAt, Isa.atD, Isa.atA, Isa.atB, Isa.layD, Isa.layA, Isa.layB]
        omega
       by_cases hF : Isa.fits 6 (Isa.numOf n) imm = true
       · have e : Isa.encF 6 (Isa.numOf n) (n : Int) 0 a 0 imm = (bits BinOp.or IntKind.u32 (bits BinOp.or IntKind.u32 ((n : Int) * 67108864) (a * 4194304)) (bits BinOp.and IntKind.u32 (imm % 4294967296) 0), 0) := by
          unfold Isa.encF
          rw [if_neg nb, if_pos hF, isa_word6 (n : Int) 0 a 0 imm (by omega) ⟨ha.1, ga⟩]
          simp [Isa.wordF, Isa.place, Isa.bits, Isa.layN, Isa.atD, Isa.atA, Isa.atB, Isa.layD, Isa.layA, Isa.layB]
         rw [e]
         exact enc_good6 n h1 h2 hf' a imm ⟨ha.1, ga⟩ him hF w hL
       · have hF2 : Isa.fits 6 (Isa.numOf n) imm = false := by simpa using hF
         have e : Isa.encF 6 (Isa.numOf n) (n : Int) 0 a 0 imm = (0, 102) := by unfold Isa.encF; rw [if_neg nb, if_neg hF]
         rw [e]
         exact enc_imm6 n h1 h2 hf' a imm ⟨ha.1, ga⟩ him hF2 w hL
theorem enc_form7 (n : Nat) (h1 : 1 ≤ n) (h2 : n < 49) (hf : Isa.formOf n = 7) (d a b imm : Int) (hd : 0 ≤ d ∧ d ≤ 255) (ha : 0 ≤ a ∧ a ≤ 255) (hb : 0 ≤ b ∧ b ≤ 255) (him : -2147483648 ≤ imm ∧ imm ≤ 2147483647) (w : World) (hL : Isa.Laid w) :
 Calls Tryz.prog 70 #[.agg #[.int .i64 (n : Int), .int .u8 d, .int .u8 a, .int .u8 b, .int .i32 imm]] w (Isa.EncPost (Isa.encF 7 (Isa.numOf n) (n : Int) d a b imm).1 (Isa.encF 7 (Isa.numOf n) (n : Int) d a b imm).2 w) := by
 have hf' : (Isa.formOf n : Int) = 7 := by rw [hf]; rfl
 by_cases bd : 0 < d
 · have e : Isa.encF 7 (Isa.numOf n) (n : Int) d a b imm = (0, 101) := by unfold Isa.encF; rw [if_pos]; simp [Isa.badAt, Isa.atD, Isa.atA, Isa.atB, Isa.layD, Isa.layA, Isa.layB, bd]
   rw [e]
   exact enc_bad7d n h1 h2 hf' d a b imm ha hb ⟨bd, hd.2⟩ him w hL
 · have gd : d = 0 := by omega
   by_cases ba : 0 < a
   · have e : Isa.encF 7 (Isa.numOf n) (n : Int) d a b imm = (0, 101) := by unfold Isa.encF; rw [if_pos]; simp [Isa.badAt, Isa.atD, Isa.atA, Isa.atB, Isa.layD, Isa.layA, Isa.layB, ba]
     rw [e]
     exact enc_bad7a n h1 h2 hf' d a b imm (by omega) hb ⟨ba, ha.2⟩ him w hL
   · have ga : a = 0 := by omega
     by_cases bb : 0 < b
     · have e : Isa.encF 7 (Isa.numOf n) (n : Int) d a b imm = (0, 101) := by unfold Isa.encF; rw [if_pos]; simp [Isa.badAt, Isa.atD, Isa.atA, Isa.atB, Isa.layD, Isa.layA, Isa.layB, bb]
       rw [e]
       exact enc_bad7b n h1 h2 hf' d a b imm (by omega) (by omega) ⟨bb, hb.2⟩ him w hL
     · have gb : b = 0 := by omega
       subst gd
       subst ga
       subst gb
       have nb : ¬ (Isa.badAt (Isa.atD 7) 0 || Isa.badAt (Isa.atA 7) 0 || Isa.badAt (Isa.atB 7) 0) = true := by
        simp [Isa.badAt, Isa.atD, Isa.atA, Isa.atB, Isa.layD, Isa.layA, Isa.layB]
       by_cases hF : Isa.fits 7 (Isa.numOf n) imm = true
       · have e : Isa.encF 7 (Isa.numOf n) (n : Int) 0 0 0 imm = (bits BinOp.or IntKind.u32 ((n : Int) * 67108864) (bits BinOp.and IntKind.u32 (imm % 4294967296) 67108863), 0) := by
          unfold Isa.encF
          rw [if_neg nb, if_pos hF, isa_word7 (n : Int) 0 0 0 imm (by omega) ]
          simp [Isa.wordF, Isa.place, Isa.bits, Isa.layN, Isa.atD, Isa.atA, Isa.atB, Isa.layD, Isa.layA, Isa.layB]
         rw [e]
         exact enc_good7 n h1 h2 hf'  imm  him hF w hL
       · have hF2 : Isa.fits 7 (Isa.numOf n) imm = false := by simpa using hF
         have e : Isa.encF 7 (Isa.numOf n) (n : Int) 0 0 0 imm = (0, 102) := by unfold Isa.encF; rw [if_neg nb, if_neg hF]
         rw [e]
         exact enc_imm7 n h1 h2 hf'  imm  him hF2 w hL
theorem enc_form8 (n : Nat) (h1 : 1 ≤ n) (h2 : n < 49) (hf : Isa.formOf n = 8) (d a b imm : Int) (hd : 0 ≤ d ∧ d ≤ 255) (ha : 0 ≤ a ∧ a ≤ 255) (hb : 0 ≤ b ∧ b ≤ 255) (him : -2147483648 ≤ imm ∧ imm ≤ 2147483647) (w : World) (hL : Isa.Laid w) :
 Calls Tryz.prog 70 #[.agg #[.int .i64 (n : Int), .int .u8 d, .int .u8 a, .int .u8 b, .int .i32 imm]] w (Isa.EncPost (Isa.encF 8 (Isa.numOf n) (n : Int) d a b imm).1 (Isa.encF 8 (Isa.numOf n) (n : Int) d a b imm).2 w) := by
 have hf' : (Isa.formOf n : Int) = 8 := by rw [hf]; rfl
 by_cases bd : 0 < d
 · have e : Isa.encF 8 (Isa.numOf n) (n : Int) d a b imm = (0, 101) := by unfold Isa.encF; rw [if_pos]; simp [Isa.badAt, Isa.atD, Isa.atA, Isa.atB, Isa.layD, Isa.layA, Isa.layB, bd]
   rw [e]
   exact enc_bad8d n h1 h2 hf' d a b imm ha hb ⟨bd, hd.2⟩ him w hL
 · have gd : d = 0 := by omega
   by_cases ba : 0 < a
   · have e : Isa.encF 8 (Isa.numOf n) (n : Int) d a b imm = (0, 101) := by unfold Isa.encF; rw [if_pos]; simp [Isa.badAt, Isa.atD, Isa.atA, Isa.atB, Isa.layD, Isa.layA, Isa.layB, ba]
     rw [e]
     exact enc_bad8a n h1 h2 hf' d a b imm (by omega) hb ⟨ba, ha.2⟩ him w hL
   · have ga : a = 0 := by omega
     by_cases bb : 0 < b
     · have e : Isa.encF 8 (Isa.numOf n) (n : Int) d a b imm = (0, 101) := by unfold Isa.encF; rw [if_pos]; simp [Isa.badAt, Isa.atD, Isa.atA, Isa.atB, Isa.layD, Isa.layA, Isa.layB, bb]
       rw [e]
       exact enc_bad8b n h1 h2 hf' d a b imm (by omega) (by omega) ⟨bb, hb.2⟩ him w hL
     · have gb : b = 0 := by omega
       subst gd
       subst ga
       subst gb
       have nb : ¬ (Isa.badAt (Isa.atD 8) 0 || Isa.badAt (Isa.atA 8) 0 || Isa.badAt (Isa.atB 8) 0) = true := by
        simp [Isa.badAt, Isa.atD, Isa.atA, Isa.atB, Isa.layD, Isa.layA, Isa.layB]
       by_cases hF : Isa.fits 8 (Isa.numOf n) imm = true
       · have e : Isa.encF 8 (Isa.numOf n) (n : Int) 0 0 0 imm = (bits BinOp.or IntKind.u32 ((n : Int) * 67108864) (bits BinOp.and IntKind.u32 (imm % 4294967296) 0), 0) := by
          unfold Isa.encF
          rw [if_neg nb, if_pos hF, isa_word8 (n : Int) 0 0 0 imm (by omega) ]
          simp [Isa.wordF, Isa.place, Isa.bits, Isa.layN, Isa.atD, Isa.atA, Isa.atB, Isa.layD, Isa.layA, Isa.layB]
         rw [e]
         exact enc_good8 n h1 h2 hf'  imm  him hF w hL
       · have hF2 : Isa.fits 8 (Isa.numOf n) imm = false := by simpa using hF
         have e : Isa.encF 8 (Isa.numOf n) (n : Int) 0 0 0 imm = (0, 102) := by unfold Isa.encF; rw [if_neg nb, if_neg hF]
         rw [e]
         exact enc_imm8 n h1 h2 hf'  imm  him hF2 w hL
theorem Encode_calls (op d a b imm : Int) (hd : 0 ≤ d ∧ d ≤ 255) (ha : 0 ≤ a ∧ a ≤ 255) (hb : 0 ≤ b ∧ b ≤ 255) (him : -2147483648 ≤ imm ∧ imm ≤ 2147483647) (w : World) (hL : Isa.Laid w) :
 Calls Tryz.prog 70 #[.agg #[.int .i64 op, .int .u8 d, .int .u8 a, .int .u8 b, .int .i32 imm]] w (Isa.EncPost (Isa.enc op d a b imm).1 (Isa.enc op d a b imm).2 w) := by
 by_cases h : op < 1 ∨ 49 ≤ op
 · rw [show Isa.enc op d a b imm = (0, 100) from if_pos h]
   exact enc_none op h d a b imm w hL
 · obtain ⟨n, rfl⟩ : ∃ n : Nat, op = (n : Int) := ⟨op.toNat, by omega⟩
   rw [show Isa.enc (n : Int) d a b imm = Isa.encF (Isa.formOf n) (Isa.numOf n) (n : Int) d a b imm from if_neg h]
   have h1 : 1 ≤ n := by omega
   have h2 : n < 49 := by omega
   have h9 := (Isa.table_facts ⟨n, h2⟩).2.2.1
   have h0 := (Isa.table_facts ⟨n, h2⟩).2.2.2.1 h1
   simp only at h9 h0
   have hc : Isa.formOf n = 1 ∨ Isa.formOf n = 2 ∨ Isa.formOf n = 3 ∨ Isa.formOf n = 4 ∨ Isa.formOf n = 5 ∨ Isa.formOf n = 6 ∨ Isa.formOf n = 7 ∨ Isa.formOf n = 8 := by omega
   rcases hc with e | e | e | e | e | e | e | e
   · rw [e]; exact enc_form1 n h1 h2 e d a b imm hd ha hb him w hL
   · rw [e]; exact enc_form2 n h1 h2 e d a b imm hd ha hb him w hL
   · rw [e]; exact enc_form3 n h1 h2 e d a b imm hd ha hb him w hL
   · rw [e]; exact enc_form4 n h1 h2 e d a b imm hd ha hb him w hL
   · rw [e]; exact enc_form5 n h1 h2 e d a b imm hd ha hb him w hL
   · rw [e]; exact enc_form6 n h1 h2 e d a b imm hd ha hb him w hL
   · rw [e]; exact enc_form7 n h1 h2 e d a b imm hd ha hb him w hL
   · rw [e]; exact enc_form8 n h1 h2 e d a b imm hd ha hb him w hL
end Go.Proofs.YtabmlbnnhhpaoaaGreatDoor
