/- What this claim needs of IsaText1, IsaText2. -/
import Derived.Test.YtabmlbnnhhpaoaaGreatDoorEMIsaReg
set_option linter.unusedSimpArgs false
set_option linter.unusedVariables false
set_option maxHeartbeats 8000000
set_option maxRecDepth 100000
namespace Go.Proofs.YtabmlbnnhhpaoaaGreatDoor
open Go.RowKit Go.Proofs.YtabmlbnnhhpaoaaGreatDoorW.PrintWords
theorem text_1_0 (n : Nat) (h1 : 1 ≤ n) (h2 : n < 49) (hf : (Isa.formOf n : Int) = 1) (hs : (Isa.shapeOf n : Int) = 0) (nu : Int) (hn : (Isa.numOf n : Int) = nu) (hnu : (nu == 0) = true) (d a b : Nat) (imm : Int)
 (hd : d ≤ 15) (ha : a ≤ 15) (hb : b ≤ 15) (him : -2147483648 ≤ imm ∧ imm ≤ 2147483647) (hE : (Isa.enc (n : Int) (d : Int) (a : Int) (b : Int) imm).2 = 0) (hnm : (Isa.nameOf n).size ≤ 16) (w : World) (hL : Isa.Laid w) :
 Calls Tryz.prog 38 #[.agg #[.int .i64 (n : Int), .int .u8 (d : Int), .int .u8 (a : Int), .int .u8 (b : Int), .int .i32 imm]] w (Isa.TextPost ((Isa.nameOf n ++ ⟨#[32]⟩) ++ Isa.joined [Isa.reg (d : Int), Isa.reg (a : Int), Isa.reg (b : Int)]) w) := by
 have HE := Lib.hid hE
 clear hE
 go_enter Tryz.func38, Tryz.ntmps38
 go_wp2_with fail
 refine (Encode_calls (n : Int) (d : Int) (a : Int) (b : Int) imm (by omega) (by omega) (by omega) him _ (hL.alloc _)).mono ?_
 rintro e w1 ⟨rfl, hb1⟩
 rw [HE.out]
 have k1 := blk_keep hb1 (heap_alloc_new _ _)
 obtain ⟨d1, f1⟩ := blk_facts k1
 have hL1 := (hL.alloc _).below hb1
 have HB1 := Lib.hid (below_next (below_alloc' (Below.refl _ _) _) hb1)
 go_wp2_with fail
 refine (of_at3 n h1 h2 1 nu 0 hf hn hs _).mono ?_
 rintro e w2 ⟨rfl, hb2⟩
 have k2 := blk_keep hb2 k1
 have hL2 := hL1.below hb2
 have HB2 := Lib.hid (below_next HB1.out hb2)
 clear d1 f1
 obtain ⟨d2, f2⟩ := blk_facts k2
 have z2 := blk_size k2
 have z2k : ∀ k, w.heap.size < w2.heap.size + k := fun k => by omega
 obtain ⟨l1, l2, l3, l4⟩ := hL2.cells 1 (by omega)
 simp only [Isa.atD, Isa.atA, Isa.atB, Isa.bits, Isa.layD, Isa.layA, Isa.layB, Isa.layN, List.getD_cons_succ, List.getD_cons_zero, Nat.reduceMul, Nat.reduceAdd, Int.cast_ofNat_Int] at l1 l2 l3 l4
 have z0 := hL2.lt
 go_wp2_with fail
 refine (Itoa_calls _ (by omega) (by omega) _ ((hL2.alloc _).alloc _)).mono ?_
 rintro e w3 ⟨rfl, hb3⟩
 have k3 := blk_keep hb3 (blk_alloc _ (blk_alloc _ k2))
 have x3 := blk_keep hb3 (blk_alloc _ (heap_alloc_new _ _))
 have y3 := blk_keep hb3 (heap_alloc2_new _ _ _)
 have HB3 := Lib.hid (below_next (below_alloc' (below_alloc' HB2.out _) _) hb3)
 clear d2 f2
 obtain ⟨d3, f3⟩ := blk_facts k3
 have dx := (blk_facts x3).1
 have dy := (blk_facts y3).1
 have si := Isa.num_size imm (by omega) (by omega)
 have sd := Isa.reg_size (d : Int) (by omega) (by omega)
 have sb := Isa.reg_size (b : Int) (by omega) (by omega)
 have sa := Isa.reg_size (a : Int) (by omega) (by omega)
 go_wp2_with fail
 refine (reg_same d (by omega) _).mono ?_
 rintro e w' ⟨rfl, rfl⟩
 go_wp2_with (at_builtin; refine print_append (w0 := w3) w3.heap.size rfl _ _ 52 9 (.string ⟨#[]⟩) 16 rfl Tryz.underlying52 isa_info9 rfl (by decide) (.slice none 0 0) [] (.string (Isa.reg (d : Int))) rfl rfl rfl (own_nil _ _ _ _) (Below.refl _ _) (Nat.le_refl _) (by simp) ?_; intro v1 u1 O1 B1 _ _; have k4 := blk_keep B1 k3; have x4 := blk_keep B1 x3; have y4 := blk_keep B1 y3; obtain ⟨d4, f4⟩ := blk_facts k4; have dx4 := (blk_facts x4).1; have dy4 := (blk_facts y4).1; clear d3 f3 dx dy)
 go_wp2_with fail
 refine (reg_same a (by omega) _).mono ?_
 rintro e w' ⟨rfl, rfl⟩
 go_wp2_with (at_builtin; refine print_append (w0 := w3) w3.heap.size rfl _ _ 52 9 (.string ⟨#[]⟩) 16 rfl Tryz.underlying52 isa_info9 rfl (by decide) v1 [.string (Isa.reg (d : Int))] (.string (Isa.reg (a : Int))) rfl rfl rfl O1 B1 B1.size (by simp) ?_; intro v2 u2 O2 B2 _ _; have k5 := blk_keep B2 k3; have x5 := blk_keep B2 x3; have y5 := blk_keep B2 y3; obtain ⟨d5, f5⟩ := blk_facts k5; have dx5 := (blk_facts x5).1; have dy5 := (blk_facts y5).1; clear d4 f4 dx4 dy4)
 go_wp2_with fail
 refine (reg_same b (by omega) _).mono ?_
 rintro e w' ⟨rfl, rfl⟩
 go_wp2_with (at_builtin; refine print_append (w0 := w3) w3.heap.size rfl _ _ 52 9 (.string ⟨#[]⟩) 16 rfl Tryz.underlying52 isa_info9 rfl (by decide) v2 [.string (Isa.reg (d : Int)), .string (Isa.reg (a : Int))] (.string (Isa.reg (b : Int))) rfl rfl rfl O2 B2 B2.size (by simp) ?_; intro v3 u3 O3 B3 _ _; have k6 := blk_keep B3 k3; have x6 := blk_keep B3 x3; have y6 := blk_keep B3 y3; obtain ⟨d6, f6⟩ := blk_facts k6; have dx6 := (blk_facts x6).1; have dy6 := (blk_facts y6).1; clear d5 f5 dx5 dy5; rcases O3.2 with ⟨_, hz⟩ | ⟨g, cap, cur, rfl, hgb, hrow, hcap, _, _, htake⟩; (simp at hz); skip)
 have hsz : ∀ p ∈ [Isa.reg (d : Int), Isa.reg (a : Int), Isa.reg (b : Int)], p.size ≤ 22 := by simp; omega
 have hj := Isa.joined_size _ 22 hsz
 have hj2 : (Isa.joined [Isa.reg (d : Int), Isa.reg (a : Int), Isa.reg (b : Int)]).size ≤ 200 := Nat.le_trans hj (by simp)
 have JN := fun W (hW : W.heap = u3.heap) => join_at g cap 3 [Isa.reg (d : Int), Isa.reg (a : Int), Isa.reg (b : Int)] rfl W (by rw [hW]; exact hrow) htake hcap 22 (by decide) hsz (by decide)
 clear hj hsz htake
 go_region_with ((go_at_call 73; refine (JN _ (by rfl)).mono ?_; rintro e w9 ⟨rfl, hB9⟩; have k9 := blk_keep hB9 x6; have dx9 := (blk_facts k9).1))
 all_goals
  (go_wp2_with fail
   go_ret
   refine ⟨rfl, ?_⟩
   repeat (first | exact below_next (Below.drew (below_next HB3.out B3)) hB9 | refine Below.drew ?_ | refine below_drewN' ?_ _))
theorem text_2_0 (n : Nat) (h1 : 1 ≤ n) (h2 : n < 49) (hf : (Isa.formOf n : Int) = 2) (hs : (Isa.shapeOf n : Int) = 0) (nu : Int) (hn : (Isa.numOf n : Int) = nu) (hnu : (nu == 0) = false) (d a b : Nat) (imm : Int)
 (hd : d ≤ 15) (ha : a ≤ 15) (hb : b ≤ 15) (him : -2147483648 ≤ imm ∧ imm ≤ 2147483647) (hE : (Isa.enc (n : Int) (d : Int) (a : Int) (b : Int) imm).2 = 0) (hnm : (Isa.nameOf n).size ≤ 16) (w : World) (hL : Isa.Laid w) :
 Calls Tryz.prog 38 #[.agg #[.int .i64 (n : Int), .int .u8 (d : Int), .int .u8 (a : Int), .int .u8 (b : Int), .int .i32 imm]] w (Isa.TextPost ((Isa.nameOf n ++ ⟨#[32]⟩) ++ Isa.joined [Isa.reg (d : Int), Isa.reg (a : Int), Isa.num imm]) w) := by
 have HE := Lib.hid hE
 clear hE
 go_enter Tryz.func38, Tryz.ntmps38
 go_wp2_with fail
 refine (Encode_calls (n : Int) (d : Int) (a : Int) (b : Int) imm (by omega) (by omega) (by omega) him _ (hL.alloc _)).mono ?_
 rintro e w1 ⟨rfl, hb1⟩
 rw [HE.out]
 have k1 := blk_keep hb1 (heap_alloc_new _ _)
 obtain ⟨d1, f1⟩ := blk_facts k1
 have hL1 := (hL.alloc _).below hb1
 have HB1 := Lib.hid (below_next (below_alloc' (Below.refl _ _) _) hb1)
 go_wp2_with fail
 refine (of_at3 n h1 h2 2 nu 0 hf hn hs _).mono ?_
 rintro e w2 ⟨rfl, hb2⟩
 have k2 := blk_keep hb2 k1
 have hL2 := hL1.below hb2
 have HB2 := Lib.hid (below_next HB1.out hb2)
 clear d1 f1
 obtain ⟨d2, f2⟩ := blk_facts k2
 have z2 := blk_size k2
 have z2k : ∀ k, w.heap.size < w2.heap.size + k := fun k => by omega
 obtain ⟨l1, l2, l3, l4⟩ := hL2.cells 2 (by omega)
 simp only [Isa.atD, Isa.atA, Isa.atB, Isa.bits, Isa.layD, Isa.layA, Isa.layB, Isa.layN, List.getD_cons_succ, List.getD_cons_zero, Nat.reduceMul, Nat.reduceAdd, Int.cast_ofNat_Int] at l1 l2 l3 l4
 have z0 := hL2.lt
 go_wp2_with fail
 refine (Itoa_calls _ (by omega) (by omega) _ ((hL2.alloc _).alloc _)).mono ?_
 rintro e w3 ⟨rfl, hb3⟩
 have k3 := blk_keep hb3 (blk_alloc _ (blk_alloc _ k2))
 have x3 := blk_keep hb3 (blk_alloc _ (heap_alloc_new _ _))
 have y3 := blk_keep hb3 (heap_alloc2_new _ _ _)
 have HB3 := Lib.hid (below_next (below_alloc' (below_alloc' HB2.out _) _) hb3)
 clear d2 f2
 obtain ⟨d3, f3⟩ := blk_facts k3
 have dx := (blk_facts x3).1
 have dy := (blk_facts y3).1
 have si := Isa.num_size imm (by omega) (by omega)
 have sd := Isa.reg_size (d : Int) (by omega) (by omega)
 have sb := Isa.reg_size (b : Int) (by omega) (by omega)
 have sa := Isa.reg_size (a : Int) (by omega) (by omega)
 go_wp2_with fail
 refine (reg_same d (by omega) _).mono ?_
 rintro e w' ⟨rfl, rfl⟩
 go_wp2_with (at_builtin; refine print_append (w0 := w3) w3.heap.size rfl _ _ 52 9 (.string ⟨#[]⟩) 16 rfl Tryz.underlying52 isa_info9 rfl (by decide) (.slice none 0 0) [] (.string (Isa.reg (d : Int))) rfl rfl rfl (own_nil _ _ _ _) (Below.refl _ _) (Nat.le_refl _) (by simp) ?_; intro v1 u1 O1 B1 _ _; have k4 := blk_keep B1 k3; have x4 := blk_keep B1 x3; have y4 := blk_keep B1 y3; obtain ⟨d4, f4⟩ := blk_facts k4; have dx4 := (blk_facts x4).1; have dy4 := (blk_facts y4).1; clear d3 f3 dx dy)
 go_wp2_with fail
 refine (reg_same a (by omega) _).mono ?_
 rintro e w' ⟨rfl, rfl⟩
 go_wp2_with (first | (at_builtin; refine print_append (w0 := w3) w3.heap.size rfl _ _ 52 9 (.string ⟨#[]⟩) 16 rfl Tryz.underlying52 isa_info9 rfl (by decide) v1 [.string (Isa.reg (d : Int))] (.string (Isa.reg (a : Int))) rfl rfl rfl O1 B1 B1.size (by simp) ?_; intro v2 u2 O2 B2 _ _; have k5 := blk_keep B2 k3; have x5 := blk_keep B2 x3; have y5 := blk_keep B2 y3; obtain ⟨d5, f5⟩ := blk_facts k5; have dx5 := (blk_facts x5).1; have dy5 := (blk_facts y5).1; clear d4 f4 dx4 dy4) | (at_builtin; refine print_append (w0 := w3) w3.heap.size rfl _ _ 52 9 (.string ⟨#[]⟩) 16 rfl Tryz.underlying52 isa_info9 rfl (by decide) v2 [.string (Isa.reg (d : Int)), .string (Isa.reg (a : Int))] (.string (Isa.num imm)) rfl rfl rfl O2 B2 B2.size (by simp) ?_; intro v3 u3 O3 B3 _ _; have k6 := blk_keep B3 k3; have x6 := blk_keep B3 x3; have y6 := blk_keep B3 y3; obtain ⟨d6, f6⟩ := blk_facts k6; have dx6 := (blk_facts x6).1; have dy6 := (blk_facts y6).1; clear d5 f5 dx5 dy5; rcases O3.2 with ⟨_, hz⟩ | ⟨g, cap, cur, rfl, hgb, hrow, hcap, _, _, htake⟩; (simp at hz); skip))
 have hsz : ∀ p ∈ [Isa.reg (d : Int), Isa.reg (a : Int), Isa.num imm], p.size ≤ 22 := by simp; omega
 have hj := Isa.joined_size _ 22 hsz
 have hj2 : (Isa.joined [Isa.reg (d : Int), Isa.reg (a : Int), Isa.num imm]).size ≤ 200 := Nat.le_trans hj (by simp)
 have JN := fun W (hW : W.heap = u3.heap) => join_at g cap 3 [Isa.reg (d : Int), Isa.reg (a : Int), Isa.num imm] rfl W (by rw [hW]; exact hrow) htake hcap 22 (by decide) hsz (by decide)
 clear hj hsz htake
 go_region_with ((go_at_call 73; refine (JN _ (by rfl)).mono ?_; rintro e w9 ⟨rfl, hB9⟩; have k9 := blk_keep hB9 x6; have dx9 := (blk_facts k9).1))
 all_goals
  (go_wp2_with fail
   go_ret
   refine ⟨rfl, ?_⟩
   repeat (first | exact below_next (Below.drew (below_next HB3.out B3)) hB9 | refine Below.drew ?_ | refine below_drewN' ?_ _))
end Go.Proofs.YtabmlbnnhhpaoaaGreatDoor
set_option maxHeartbeats 8000000
set_option maxRecDepth 100000
namespace Go.Proofs.YtabmlbnnhhpaoaaGreatDoor
open Go.RowKit Go.Proofs.YtabmlbnnhhpaoaaGreatDoorW.PrintWords
theorem text_2_1 (n : Nat) (h1 : 1 ≤ n) (h2 : n < 49) (hf : (Isa.formOf n : Int) = 2) (hs : (Isa.shapeOf n : Int) = 1) (nu : Int) (hn : (Isa.numOf n : Int) = nu) (hnu : (nu == 0) = false) (d a b : Nat) (imm : Int)
 (hd : d ≤ 15) (ha : a ≤ 15) (hb : b ≤ 15) (him : -2147483648 ≤ imm ∧ imm ≤ 2147483647) (hE : (Isa.enc (n : Int) (d : Int) (a : Int) (b : Int) imm).2 = 0) (hnm : (Isa.nameOf n).size ≤ 16) (w : World) (hL : Isa.Laid w) :
 Calls Tryz.prog 38 #[.agg #[.int .i64 (n : Int), .int .u8 (d : Int), .int .u8 (a : Int), .int .u8 (b : Int), .int .i32 imm]] w (Isa.TextPost (((((((Isa.nameOf n ++ ⟨#[32]⟩) ++ Isa.reg (d : Int)) ++ ⟨#[44, 32]⟩) ++ Isa.num imm) ++ ⟨#[40]⟩) ++ Isa.reg (a : Int)) ++ ⟨#[41]⟩) w) := by
 have HE := Lib.hid hE
 clear hE
 go_enter Tryz.func38, Tryz.ntmps38
 go_wp2_with fail
 refine (Encode_calls (n : Int) (d : Int) (a : Int) (b : Int) imm (by omega) (by omega) (by omega) him _ (hL.alloc _)).mono ?_
 rintro e w1 ⟨rfl, hb1⟩
 rw [HE.out]
 have k1 := blk_keep hb1 (heap_alloc_new _ _)
 obtain ⟨d1, f1⟩ := blk_facts k1
 have hL1 := (hL.alloc _).below hb1
 have HB1 := Lib.hid (below_next (below_alloc' (Below.refl _ _) _) hb1)
 go_wp2_with fail
 refine (of_at3 n h1 h2 2 nu 1 hf hn hs _).mono ?_
 rintro e w2 ⟨rfl, hb2⟩
 have k2 := blk_keep hb2 k1
 have hL2 := hL1.below hb2
 have HB2 := Lib.hid (below_next HB1.out hb2)
 clear d1 f1
 obtain ⟨d2, f2⟩ := blk_facts k2
 have z2 := blk_size k2
 have z2k : ∀ k, w.heap.size < w2.heap.size + k := fun k => by omega
 obtain ⟨l1, l2, l3, l4⟩ := hL2.cells 2 (by omega)
 simp only [Isa.atD, Isa.atA, Isa.atB, Isa.bits, Isa.layD, Isa.layA, Isa.layB, Isa.layN, List.getD_cons_succ, List.getD_cons_zero, Nat.reduceMul, Nat.reduceAdd, Int.cast_ofNat_Int] at l1 l2 l3 l4
 have z0 := hL2.lt
 go_wp2_with fail
 refine (Itoa_calls _ (by omega) (by omega) _ ((hL2.alloc _).alloc _)).mono ?_
 rintro e w3 ⟨rfl, hb3⟩
 have k3 := blk_keep hb3 (blk_alloc _ (blk_alloc _ k2))
 have x3 := blk_keep hb3 (blk_alloc _ (heap_alloc_new _ _))
 have y3 := blk_keep hb3 (heap_alloc2_new _ _ _)
 have HB3 := Lib.hid (below_next (below_alloc' (below_alloc' HB2.out _) _) hb3)
 clear d2 f2
 obtain ⟨d3, f3⟩ := blk_facts k3
 have dx := (blk_facts x3).1
 have dy := (blk_facts y3).1
 have si := Isa.num_size imm (by omega) (by omega)
 have sd := Isa.reg_size (d : Int) (by omega) (by omega)
 have sb := Isa.reg_size (b : Int) (by omega) (by omega)
 have sa := Isa.reg_size (a : Int) (by omega) (by omega)
 go_wp2_with fail
 go_quiet ((go_at_call 72; first | exact Calls.quiet_of_same (reg_calls d (by omega) _) | exact Calls.quiet_of_same (reg_calls a (by omega) _)))
 go_wp2_with fail
 go_ret
 exact ⟨rfl, below_drewN' HB3.out _⟩
theorem text_3_0 (n : Nat) (h1 : 1 ≤ n) (h2 : n < 49) (hf : (Isa.formOf n : Int) = 3) (hs : (Isa.shapeOf n : Int) = 0) (nu : Int) (hn : (Isa.numOf n : Int) = nu) (hnu : (nu == 0) = false) (d a b : Nat) (imm : Int)
 (hd : d ≤ 15) (ha : a ≤ 15) (hb : b ≤ 15) (him : -2147483648 ≤ imm ∧ imm ≤ 2147483647) (hE : (Isa.enc (n : Int) (d : Int) (a : Int) (b : Int) imm).2 = 0) (hnm : (Isa.nameOf n).size ≤ 16) (w : World) (hL : Isa.Laid w) :
 Calls Tryz.prog 38 #[.agg #[.int .i64 (n : Int), .int .u8 (d : Int), .int .u8 (a : Int), .int .u8 (b : Int), .int .i32 imm]] w (Isa.TextPost ((Isa.nameOf n ++ ⟨#[32]⟩) ++ Isa.joined [Isa.reg (a : Int), Isa.reg (b : Int), Isa.num imm]) w) := by
 have HE := Lib.hid hE
 clear hE
 go_enter Tryz.func38, Tryz.ntmps38
 go_wp2_with fail
 refine (Encode_calls (n : Int) (d : Int) (a : Int) (b : Int) imm (by omega) (by omega) (by omega) him _ (hL.alloc _)).mono ?_
 rintro e w1 ⟨rfl, hb1⟩
 rw [HE.out]
 have k1 := blk_keep hb1 (heap_alloc_new _ _)
 obtain ⟨d1, f1⟩ := blk_facts k1
 have hL1 := (hL.alloc _).below hb1
 have HB1 := Lib.hid (below_next (below_alloc' (Below.refl _ _) _) hb1)
 go_wp2_with fail
 refine (of_at3 n h1 h2 3 nu 0 hf hn hs _).mono ?_
 rintro e w2 ⟨rfl, hb2⟩
 have k2 := blk_keep hb2 k1
 have hL2 := hL1.below hb2
 have HB2 := Lib.hid (below_next HB1.out hb2)
 clear d1 f1
 obtain ⟨d2, f2⟩ := blk_facts k2
 have z2 := blk_size k2
 have z2k : ∀ k, w.heap.size < w2.heap.size + k := fun k => by omega
 obtain ⟨l1, l2, l3, l4⟩ := hL2.cells 3 (by omega)
 simp only [Isa.atD, Isa.atA, Isa.atB, Isa.bits, Isa.layD, Isa.layA, Isa.layB, Isa.layN, List.getD_cons_succ, List.getD_cons_zero, Nat.reduceMul, Nat.reduceAdd, Int.cast_ofNat_Int] at l1 l2 l3 l4
 have z0 := hL2.lt
 go_wp2_with fail
 refine (Itoa_calls _ (by omega) (by omega) _ ((hL2.alloc _).alloc _)).mono ?_
 rintro e w3 ⟨rfl, hb3⟩
 have k3 := blk_keep hb3 (blk_alloc _ (blk_alloc _ k2))
 have x3 := blk_keep hb3 (blk_alloc _ (heap_alloc_new _ _))
 have y3 := blk_keep hb3 (heap_alloc2_new _ _ _)
 have HB3 := Lib.hid (below_next (below_alloc' (below_alloc' HB2.out _) _) hb3)
 clear d2 f2
 obtain ⟨d3, f3⟩ := blk_facts k3
 have dx := (blk_facts x3).1
 have dy := (blk_facts y3).1
 have si := Isa.num_size imm (by omega) (by omega)
 have sd := Isa.reg_size (d : Int) (by omega) (by omega)
 have sb := Isa.reg_size (b : Int) (by omega) (by omega)
 have sa := Isa.reg_size (a : Int) (by omega) (by omega)
 go_wp2_with fail
 refine (reg_same a (by omega) _).mono ?_
 rintro e w' ⟨rfl, rfl⟩
 go_wp2_with (at_builtin; refine print_append (w0 := w3) w3.heap.size rfl _ _ 52 9 (.string ⟨#[]⟩) 16 rfl Tryz.underlying52 isa_info9 rfl (by decide) (.slice none 0 0) [] (.string (Isa.reg (a : Int))) rfl rfl rfl (own_nil _ _ _ _) (Below.refl _ _) (Nat.le_refl _) (by simp) ?_; intro v1 u1 O1 B1 _ _; have k4 := blk_keep B1 k3; have x4 := blk_keep B1 x3; have y4 := blk_keep B1 y3; obtain ⟨d4, f4⟩ := blk_facts k4; have dx4 := (blk_facts x4).1; have dy4 := (blk_facts y4).1; clear d3 f3 dx dy)
 go_wp2_with fail
 refine (reg_same b (by omega) _).mono ?_
 rintro e w' ⟨rfl, rfl⟩
 go_wp2_with (first | (at_builtin; refine print_append (w0 := w3) w3.heap.size rfl _ _ 52 9 (.string ⟨#[]⟩) 16 rfl Tryz.underlying52 isa_info9 rfl (by decide) v1 [.string (Isa.reg (a : Int))] (.string (Isa.reg (b : Int))) rfl rfl rfl O1 B1 B1.size (by simp) ?_; intro v2 u2 O2 B2 _ _; have k5 := blk_keep B2 k3; have x5 := blk_keep B2 x3; have y5 := blk_keep B2 y3; obtain ⟨d5, f5⟩ := blk_facts k5; have dx5 := (blk_facts x5).1; have dy5 := (blk_facts y5).1; clear d4 f4 dx4 dy4) | (at_builtin; refine print_append (w0 := w3) w3.heap.size rfl _ _ 52 9 (.string ⟨#[]⟩) 16 rfl Tryz.underlying52 isa_info9 rfl (by decide) v2 [.string (Isa.reg (a : Int)), .string (Isa.reg (b : Int))] (.string (Isa.num imm)) rfl rfl rfl O2 B2 B2.size (by simp) ?_; intro v3 u3 O3 B3 _ _; have k6 := blk_keep B3 k3; have x6 := blk_keep B3 x3; have y6 := blk_keep B3 y3; obtain ⟨d6, f6⟩ := blk_facts k6; have dx6 := (blk_facts x6).1; have dy6 := (blk_facts y6).1; clear d5 f5 dx5 dy5; rcases O3.2 with ⟨_, hz⟩ | ⟨g, cap, cur, rfl, hgb, hrow, hcap, _, _, htake⟩; (simp at hz); skip))
 have hsz : ∀ p ∈ [Isa.reg (a : Int), Isa.reg (b : Int), Isa.num imm], p.size ≤ 22 := by simp; omega
 have hj := Isa.joined_size _ 22 hsz
 have hj2 : (Isa.joined [Isa.reg (a : Int), Isa.reg (b : Int), Isa.num imm]).size ≤ 200 := Nat.le_trans hj (by simp)
 have JN := fun W (hW : W.heap = u3.heap) => join_at g cap 3 [Isa.reg (a : Int), Isa.reg (b : Int), Isa.num imm] rfl W (by rw [hW]; exact hrow) htake hcap 22 (by decide) hsz (by decide)
 clear hj hsz htake
 go_region_with ((go_at_call 73; refine (JN _ (by rfl)).mono ?_; rintro e w9 ⟨rfl, hB9⟩; have k9 := blk_keep hB9 x6; have dx9 := (blk_facts k9).1))
 all_goals
  (go_wp2_with fail
   go_ret
   refine ⟨rfl, ?_⟩
   repeat (first | exact below_next (Below.drew (below_next HB3.out B3)) hB9 | refine Below.drew ?_ | refine below_drewN' ?_ _))
theorem text_3_1 (n : Nat) (h1 : 1 ≤ n) (h2 : n < 49) (hf : (Isa.formOf n : Int) = 3) (hs : (Isa.shapeOf n : Int) = 1) (nu : Int) (hn : (Isa.numOf n : Int) = nu) (hnu : (nu == 0) = false) (d a b : Nat) (imm : Int)
 (hd : d ≤ 15) (ha : a ≤ 15) (hb : b ≤ 15) (him : -2147483648 ≤ imm ∧ imm ≤ 2147483647) (hE : (Isa.enc (n : Int) (d : Int) (a : Int) (b : Int) imm).2 = 0) (hnm : (Isa.nameOf n).size ≤ 16) (w : World) (hL : Isa.Laid w) :
 Calls Tryz.prog 38 #[.agg #[.int .i64 (n : Int), .int .u8 (d : Int), .int .u8 (a : Int), .int .u8 (b : Int), .int .i32 imm]] w (Isa.TextPost (((((((Isa.nameOf n ++ ⟨#[32]⟩) ++ Isa.reg (b : Int)) ++ ⟨#[44, 32]⟩) ++ Isa.num imm) ++ ⟨#[40]⟩) ++ Isa.reg (a : Int)) ++ ⟨#[41]⟩) w) := by
 have HE := Lib.hid hE
 clear hE
 go_enter Tryz.func38, Tryz.ntmps38
 go_wp2_with fail
 refine (Encode_calls (n : Int) (d : Int) (a : Int) (b : Int) imm (by omega) (by omega) (by omega) him _ (hL.alloc _)).mono ?_
 rintro e w1 ⟨rfl, hb1⟩
 rw [HE.out]
 have k1 := blk_keep hb1 (heap_alloc_new _ _)
 obtain ⟨d1, f1⟩ := blk_facts k1
 have hL1 := (hL.alloc _).below hb1
 have HB1 := Lib.hid (below_next (below_alloc' (Below.refl _ _) _) hb1)
 go_wp2_with fail
 refine (of_at3 n h1 h2 3 nu 1 hf hn hs _).mono ?_
 rintro e w2 ⟨rfl, hb2⟩
 have k2 := blk_keep hb2 k1
 have hL2 := hL1.below hb2
 have HB2 := Lib.hid (below_next HB1.out hb2)
 clear d1 f1
 obtain ⟨d2, f2⟩ := blk_facts k2
 have z2 := blk_size k2
 have z2k : ∀ k, w.heap.size < w2.heap.size + k := fun k => by omega
 obtain ⟨l1, l2, l3, l4⟩ := hL2.cells 3 (by omega)
 simp only [Isa.atD, Isa.atA, Isa.atB, Isa.bits, Isa.layD, Isa.layA, Isa.layB, Isa.layN, List.getD_cons_succ, List.getD_cons_zero, Nat.reduceMul, Nat.reduceAdd, Int.cast_ofNat_Int] at l1 l2 l3 l4
 have z0 := hL2.lt
 go_wp2_with fail
 refine (Itoa_calls _ (by omega) (by omega) _ ((hL2.alloc _).alloc _)).mono ?_
 rintro e w3 ⟨rfl, hb3⟩
 have k3 := blk_keep hb3 (blk_alloc _ (blk_alloc _ k2))
 have x3 := blk_keep hb3 (blk_alloc _ (heap_alloc_new _ _))
 have y3 := blk_keep hb3 (heap_alloc2_new _ _ _)
 have HB3 := Lib.hid (below_next (below_alloc' (below_alloc' HB2.out _) _) hb3)
 clear d2 f2
 obtain ⟨d3, f3⟩ := blk_facts k3
 have dx := (blk_facts x3).1
 have dy := (blk_facts y3).1
 have si := Isa.num_size imm (by omega) (by omega)
 have sd := Isa.reg_size (d : Int) (by omega) (by omega)
 have sb := Isa.reg_size (b : Int) (by omega) (by omega)
 have sa := Isa.reg_size (a : Int) (by omega) (by omega)
 go_wp2_with fail
 go_quiet ((go_at_call 72; first | exact Calls.quiet_of_same (reg_calls b (by omega) _) | exact Calls.quiet_of_same (reg_calls a (by omega) _)))
 go_wp2_with fail
 go_ret
 exact ⟨rfl, below_drewN' HB3.out _⟩
end Go.Proofs.YtabmlbnnhhpaoaaGreatDoor
