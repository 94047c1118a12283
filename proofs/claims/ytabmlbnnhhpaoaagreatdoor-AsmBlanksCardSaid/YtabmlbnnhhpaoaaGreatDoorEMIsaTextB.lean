/- What this claim needs of IsaText3, IsaText4, IsaTextAll. -/
import Derived.Test.YtabmlbnnhhpaoaaGreatDoorEMIsaReg
import Derived.Test.YtabmlbnnhhpaoaaGreatDoorEMIsaTextA
set_option linter.unusedSimpArgs false
set_option linter.unusedVariables false
set_option maxHeartbeats 8000000
set_option maxRecDepth 100000
namespace Go.Proofs.YtabmlbnnhhpaoaaGreatDoor
open Go.RowKit Go.Proofs.YtabmlbnnhhpaoaaGreatDoorW.PrintWords
theorem text_4_0 (n : Nat) (h1 : 1 ≤ n) (h2 : n < 49) (hf : (Isa.formOf n : Int) = 4) (hs : (Isa.shapeOf n : Int) = 0) (nu : Int) (hn : (Isa.numOf n : Int) = nu) (hnu : (nu == 0) = false) (d a b : Nat) (imm : Int)
 (hd : d ≤ 15) (ha : a ≤ 15) (hb : b ≤ 15) (him : -2147483648 ≤ imm ∧ imm ≤ 2147483647) (hE : (Isa.enc (n : Int) (d : Int) (a : Int) (b : Int) imm).2 = 0) (hnm : (Isa.nameOf n).size ≤ 16) (w : World) (hL : Isa.Laid w) :
 Calls Tryz.prog 38 #[.agg #[.int .i64 (n : Int), .int .u8 (d : Int), .int .u8 (a : Int), .int .u8 (b : Int), .int .i32 imm]] w (Isa.TextPost ((Isa.nameOf n ++ ⟨#[32]⟩) ++ Isa.joined [Isa.reg (d : Int), Isa.num imm]) w) := by
 have HE := Lib.hid hE
 clear hE
 go_enter Tryz.func38, Tryz.ntmps38
 go_wp2_with fail
 refine (Encode_calls (n : Int) (d : Int) (a : Int) (b : Int) imm (by omega) (by omega) (by omega) him _ (hL.alloc _)).mono ?_
 rintro e w1 ⟨rfl, hb1⟩
 rw [HE.out]
 have k1 := blk_keep hb1 (heap_alloc_new _ _)
 obtain ⟨d1, f1⟩ := blk_facts k1
 have hL1 := (hL.alloc _).below hb1
 have HB1 := Lib.hid (below_next (below_alloc' (Below.refl _ _) _) hb1)
 go_wp2_with fail
 refine (of_at3 n h1 h2 4 nu 0 hf hn hs _).mono ?_
 rintro e w2 ⟨rfl, hb2⟩
 have k2 := blk_keep hb2 k1
 have hL2 := hL1.below hb2
 have HB2 := Lib.hid (below_next HB1.out hb2)
 clear d1 f1
 obtain ⟨d2, f2⟩ := blk_facts k2
 have z2 := blk_size k2
 have z2k : ∀ k, w.heap.size < w2.heap.size + k := fun k => by omega
 obtain ⟨l1, l2, l3, l4⟩ := hL2.cells 4 (by omega)
 simp only [Isa.atD, Isa.atA, Isa.atB, Isa.bits, Isa.layD, Isa.layA, Isa.layB, Isa.layN, List.getD_cons_succ, List.getD_cons_zero, Nat.reduceMul, Nat.reduceAdd, Int.cast_ofNat_Int] at l1 l2 l3 l4
 have z0 := hL2.lt
 go_wp2_with fail
 refine (Itoa_calls _ (by omega) (by omega) _ ((hL2.alloc _).alloc _)).mono ?_
 rintro e w3 ⟨rfl, hb3⟩
 have k3 := blk_keep hb3 (blk_alloc _ (blk_alloc _ k2))
 have x3 := blk_keep hb3 (blk_alloc _ (heap_alloc_new _ _))
 have y3 := blk_keep hb3 (heap_alloc2_new _ _ _)
 have HB3 := Lib.hid (below_next (below_alloc' (below_alloc' HB2.out _) _) hb3)
 clear d2 f2
 obtain ⟨d3, f3⟩ := blk_facts k3
 have dx := (blk_facts x3).1
 have dy := (blk_facts y3).1
 have si := Isa.num_size imm (by omega) (by omega)
 have sd := Isa.reg_size (d : Int) (by omega) (by omega)
 have sb := Isa.reg_size (b : Int) (by omega) (by omega)
 have sa := Isa.reg_size (a : Int) (by omega) (by omega)
 go_wp2_with fail
 refine (reg_same d (by omega) _).mono ?_
 rintro e w' ⟨rfl, rfl⟩
 go_wp2_with (first | (at_builtin; refine print_append (w0 := w3) w3.heap.size rfl _ _ 52 9 (.string ⟨#[]⟩) 16 rfl Tryz.underlying52 isa_info9 rfl (by decide) (.slice none 0 0) [] (.string (Isa.reg (d : Int))) rfl rfl rfl (own_nil _ _ _ _) (Below.refl _ _) (Nat.le_refl _) (by simp) ?_; intro v1 u1 O1 B1 _ _; have k4 := blk_keep B1 k3; have x4 := blk_keep B1 x3; have y4 := blk_keep B1 y3; obtain ⟨d4, f4⟩ := blk_facts k4; have dx4 := (blk_facts x4).1; have dy4 := (blk_facts y4).1; clear d3 f3 dx dy) | (at_builtin; refine print_append (w0 := w3) w3.heap.size rfl _ _ 52 9 (.string ⟨#[]⟩) 16 rfl Tryz.underlying52 isa_info9 rfl (by decide) v1 [.string (Isa.reg (d : Int))] (.string (Isa.num imm)) rfl rfl rfl O1 B1 B1.size (by simp) ?_; intro v2 u2 O2 B2 _ _; have k5 := blk_keep B2 k3; have x5 := blk_keep B2 x3; have y5 := blk_keep B2 y3; obtain ⟨d5, f5⟩ := blk_facts k5; have dx5 := (blk_facts x5).1; have dy5 := (blk_facts y5).1; clear d4 f4 dx4 dy4; rcases O2.2 with ⟨_, hz⟩ | ⟨g, cap, cur, rfl, hgb, hrow, hcap, _, _, htake⟩; (simp at hz); skip))
 have hsz : ∀ p ∈ [Isa.reg (d : Int), Isa.num imm], p.size ≤ 22 := by simp; omega
 have hj := Isa.joined_size _ 22 hsz
 have hj2 : (Isa.joined [Isa.reg (d : Int), Isa.num imm]).size ≤ 200 := Nat.le_trans hj (by simp)
 have JN := fun W (hW : W.heap = u2.heap) => join_at g cap 2 [Isa.reg (d : Int), Isa.num imm] rfl W (by rw [hW]; exact hrow) htake hcap 22 (by decide) hsz (by decide)
 clear hj hsz htake
 go_region_with ((go_at_call 73; refine (JN _ (by rfl)).mono ?_; rintro e w9 ⟨rfl, hB9⟩; have k9 := blk_keep hB9 x5; have dx9 := (blk_facts k9).1))
 all_goals
  (go_wp2_with fail
   go_ret
   refine ⟨rfl, ?_⟩
   repeat (first | exact below_next (Below.drew (below_next HB3.out B2)) hB9 | refine Below.drew ?_ | refine below_drewN' ?_ _))
theorem text_5_0 (n : Nat) (h1 : 1 ≤ n) (h2 : n < 49) (hf : (Isa.formOf n : Int) = 5) (hs : (Isa.shapeOf n : Int) = 0) (nu : Int) (hn : (Isa.numOf n : Int) = nu) (hnu : (nu == 0) = true) (d a b : Nat) (imm : Int)
 (hd : d ≤ 15) (ha : a ≤ 15) (hb : b ≤ 15) (him : -2147483648 ≤ imm ∧ imm ≤ 2147483647) (hE : (Isa.enc (n : Int) (d : Int) (a : Int) (b : Int) imm).2 = 0) (hnm : (Isa.nameOf n).size ≤ 16) (w : World) (hL : Isa.Laid w) :
 Calls Tryz.prog 38 #[.agg #[.int .i64 (n : Int), .int .u8 (d : Int), .int .u8 (a : Int), .int .u8 (b : Int), .int .i32 imm]] w (Isa.TextPost ((Isa.nameOf n ++ ⟨#[32]⟩) ++ Isa.joined [Isa.reg (d : Int)]) w) := by
 have HE := Lib.hid hE
 clear hE
 go_enter Tryz.func38, Tryz.ntmps38
 go_wp2_with fail
 refine (Encode_calls (n : Int) (d : Int) (a : Int) (b : Int) imm (by omega) (by omega) (by omega) him _ (hL.alloc _)).mono ?_
 rintro e w1 ⟨rfl, hb1⟩
 rw [HE.out]
 have k1 := blk_keep hb1 (heap_alloc_new _ _)
 obtain ⟨d1, f1⟩ := blk_facts k1
 have hL1 := (hL.alloc _).below hb1
 have HB1 := Lib.hid (below_next (below_alloc' (Below.refl _ _) _) hb1)
 go_wp2_with fail
 refine (of_at3 n h1 h2 5 nu 0 hf hn hs _).mono ?_
 rintro e w2 ⟨rfl, hb2⟩
 have k2 := blk_keep hb2 k1
 have hL2 := hL1.below hb2
 have HB2 := Lib.hid (below_next HB1.out hb2)
 clear d1 f1
 obtain ⟨d2, f2⟩ := blk_facts k2
 have z2 := blk_size k2
 have z2k : ∀ k, w.heap.size < w2.heap.size + k := fun k => by omega
 obtain ⟨l1, l2, l3, l4⟩ := hL2.cells 5 (by omega)
 simp only [Isa.atD, Isa.atA, Isa.atB, Isa.bits, Isa.layD, Isa.layA, Isa.layB, Isa.layN, List.getD_cons_succ, List.getD_cons_zero, Nat.reduceMul, Nat.reduceAdd, Int.cast_ofNat_Int] at l1 l2 l3 l4
 have z0 := hL2.lt
 go_wp2_with fail
 refine (Itoa_calls _ (by omega) (by omega) _ ((hL2.alloc _).alloc _)).mono ?_
 rintro e w3 ⟨rfl, hb3⟩
 have k3 := blk_keep hb3 (blk_alloc _ (blk_alloc _ k2))
 have x3 := blk_keep hb3 (blk_alloc _ (heap_alloc_new _ _))
 have y3 := blk_keep hb3 (heap_alloc2_new _ _ _)
 have HB3 := Lib.hid (below_next (below_alloc' (below_alloc' HB2.out _) _) hb3)
 clear d2 f2
 obtain ⟨d3, f3⟩ := blk_facts k3
 have dx := (blk_facts x3).1
 have dy := (blk_facts y3).1
 have si := Isa.num_size imm (by omega) (by omega)
 have sd := Isa.reg_size (d : Int) (by omega) (by omega)
 have sb := Isa.reg_size (b : Int) (by omega) (by omega)
 have sa := Isa.reg_size (a : Int) (by omega) (by omega)
 go_wp2_with fail
 refine (reg_same d (by omega) _).mono ?_
 rintro e w' ⟨rfl, rfl⟩
 go_wp2_with (at_builtin; refine print_append (w0 := w3) w3.heap.size rfl _ _ 52 9 (.string ⟨#[]⟩) 16 rfl Tryz.underlying52 isa_info9 rfl (by decide) (.slice none 0 0) [] (.string (Isa.reg (d : Int))) rfl rfl rfl (own_nil _ _ _ _) (Below.refl _ _) (Nat.le_refl _) (by simp) ?_; intro v1 u1 O1 B1 _ _; have k4 := blk_keep B1 k3; have x4 := blk_keep B1 x3; have y4 := blk_keep B1 y3; obtain ⟨d4, f4⟩ := blk_facts k4; have dx4 := (blk_facts x4).1; have dy4 := (blk_facts y4).1; clear d3 f3 dx dy; rcases O1.2 with ⟨_, hz⟩ | ⟨g, cap, cur, rfl, hgb, hrow, hcap, _, _, htake⟩; (simp at hz); skip)
 have hsz : ∀ p ∈ [Isa.reg (d : Int)], p.size ≤ 22 := by simp; omega
 have hj := Isa.joined_size _ 22 hsz
 have hj2 : (Isa.joined [Isa.reg (d : Int)]).size ≤ 200 := Nat.le_trans hj (by simp)
 have JN := fun W (hW : W.heap = u1.heap) => join_at g cap 1 [Isa.reg (d : Int)] rfl W (by rw [hW]; exact hrow) htake hcap 22 (by decide) hsz (by decide)
 clear hj hsz htake
 go_region_with ((go_at_call 73; refine (JN _ (by rfl)).mono ?_; rintro e w9 ⟨rfl, hB9⟩; have k9 := blk_keep hB9 x4; have dx9 := (blk_facts k9).1))
 all_goals
  (go_wp2_with fail
   go_ret
   refine ⟨rfl, ?_⟩
   repeat (first | exact below_next (Below.drew (below_next HB3.out B1)) hB9 | refine Below.drew ?_ | refine below_drewN' ?_ _))
end Go.Proofs.YtabmlbnnhhpaoaaGreatDoor
set_option maxHeartbeats 8000000
set_option maxRecDepth 100000
namespace Go.Proofs.YtabmlbnnhhpaoaaGreatDoor
open Go.RowKit Go.Proofs.YtabmlbnnhhpaoaaGreatDoorW.PrintWords
theorem text_6_0 (n : Nat) (h1 : 1 ≤ n) (h2 : n < 49) (hf : (Isa.formOf n : Int) = 6) (hs : (Isa.shapeOf n : Int) = 0) (nu : Int) (hn : (Isa.numOf n : Int) = nu) (hnu : (nu == 0) = true) (d a b : Nat) (imm : Int)
 (hd : d ≤ 15) (ha : a ≤ 15) (hb : b ≤ 15) (him : -2147483648 ≤ imm ∧ imm ≤ 2147483647) (hE : (Isa.enc (n : Int) (d : Int) (a : Int) (b : Int) imm).2 = 0) (hnm : (Isa.nameOf n).size ≤ 16) (w : World) (hL : Isa.Laid w) :
 Calls Tryz.prog 38 #[.agg #[.int .i64 (n : Int), .int .u8 (d : Int), .int .u8 (a : Int), .int .u8 (b : Int), .int .i32 imm]] w (Isa.TextPost ((Isa.nameOf n ++ ⟨#[32]⟩) ++ Isa.joined [Isa.reg (a : Int)]) w) := by
 have HE := Lib.hid hE
 clear hE
 go_enter Tryz.func38, Tryz.ntmps38
 go_wp2_with fail
 refine (Encode_calls (n : Int) (d : Int) (a : Int) (b : Int) imm (by omega) (by omega) (by omega) him _ (hL.alloc _)).mono ?_
 rintro e w1 ⟨rfl, hb1⟩
 rw [HE.out]
 have k1 := blk_keep hb1 (heap_alloc_new _ _)
 obtain ⟨d1, f1⟩ := blk_facts k1
 have hL1 := (hL.alloc _).below hb1
 have HB1 := Lib.hid (below_next (below_alloc' (Below.refl _ _) _) hb1)
 go_wp2_with fail
 refine (of_at3 n h1 h2 6 nu 0 hf hn hs _).mono ?_
 rintro e w2 ⟨rfl, hb2⟩
 have k2 := blk_keep hb2 k1
 have hL2 := hL1.below hb2
 have HB2 := Lib.hid (below_next HB1.out hb2)
 clear d1 f1
 obtain ⟨d2, f2⟩ := blk_facts k2
 have z2 := blk_size k2
 have z2k : ∀ k, w.heap.size < w2.heap.size + k := fun k => by omega
 obtain ⟨l1, l2, l3, l4⟩ := hL2.cells 6 (by omega)
 simp only [Isa.atD, Isa.atA, Isa.atB, Isa.bits, Isa.layD, Isa.layA, Isa.layB, Isa.layN, List.getD_cons_succ, List.getD_cons_zero, Nat.reduceMul, Nat.reduceAdd, Int.cast_ofNat_Int] at l1 l2 l3 l4
 have z0 := hL2.lt
 go_wp2_with fail
 refine (Itoa_calls _ (by omega) (by omega) _ ((hL2.alloc _).alloc _)).mono ?_
 rintro e w3 ⟨rfl, hb3⟩
 have k3 := blk_keep hb3 (blk_alloc _ (blk_alloc _ k2))
 have x3 := blk_keep hb3 (blk_alloc _ (heap_alloc_new _ _))
 have y3 := blk_keep hb3 (heap_alloc2_new _ _ _)
 have HB3 := Lib.hid (below_next (below_alloc' (below_alloc' HB2.out _) _) hb3)
 clear d2 f2
 obtain ⟨d3, f3⟩ := blk_facts k3
 have dx := (blk_facts x3).1
 have dy := (blk_facts y3).1
 have si := Isa.num_size imm (by omega) (by omega)
 have sd := Isa.reg_size (d : Int) (by omega) (by omega)
 have sb := Isa.reg_size (b : Int) (by omega) (by omega)
 have sa := Isa.reg_size (a : Int) (by omega) (by omega)
 go_wp2_with fail
 refine (reg_same a (by omega) _).mono ?_
 rintro e w' ⟨rfl, rfl⟩
 go_wp2_with (at_builtin; refine print_append (w0 := w3) w3.heap.size rfl _ _ 52 9 (.string ⟨#[]⟩) 16 rfl Tryz.underlying52 isa_info9 rfl (by decide) (.slice none 0 0) [] (.string (Isa.reg (a : Int))) rfl rfl rfl (own_nil _ _ _ _) (Below.refl _ _) (Nat.le_refl _) (by simp) ?_; intro v1 u1 O1 B1 _ _; have k4 := blk_keep B1 k3; have x4 := blk_keep B1 x3; have y4 := blk_keep B1 y3; obtain ⟨d4, f4⟩ := blk_facts k4; have dx4 := (blk_facts x4).1; have dy4 := (blk_facts y4).1; clear d3 f3 dx dy; rcases O1.2 with ⟨_, hz⟩ | ⟨g, cap, cur, rfl, hgb, hrow, hcap, _, _, htake⟩; (simp at hz); skip)
 have hsz : ∀ p ∈ [Isa.reg (a : Int)], p.size ≤ 22 := by simp; omega
 have hj := Isa.joined_size _ 22 hsz
 have hj2 : (Isa.joined [Isa.reg (a : Int)]).size ≤ 200 := Nat.le_trans hj (by simp)
 have JN := fun W (hW : W.heap = u1.heap) => join_at g cap 1 [Isa.reg (a : Int)] rfl W (by rw [hW]; exact hrow) htake hcap 22 (by decide) hsz (by decide)
 clear hj hsz htake
 go_region_with ((go_at_call 73; refine (JN _ (by rfl)).mono ?_; rintro e w9 ⟨rfl, hB9⟩; have k9 := blk_keep hB9 x4; have dx9 := (blk_facts k9).1))
 all_goals
  (go_wp2_with fail
   go_ret
   refine ⟨rfl, ?_⟩
   repeat (first | exact below_next (Below.drew (below_next HB3.out B1)) hB9 | refine Below.drew ?_ | refine below_drewN' ?_ _))
theorem text_7_0 (n : Nat) (h1 : 1 ≤ n) (h2 : n < 49) (hf : (Isa.formOf n : Int) = 7) (hs : (Isa.shapeOf n : Int) = 0) (nu : Int) (hn : (Isa.numOf n : Int) = nu) (hnu : (nu == 0) = false) (d a b : Nat) (imm : Int)
 (hd : d ≤ 15) (ha : a ≤ 15) (hb : b ≤ 15) (him : -2147483648 ≤ imm ∧ imm ≤ 2147483647) (hE : (Isa.enc (n : Int) (d : Int) (a : Int) (b : Int) imm).2 = 0) (hnm : (Isa.nameOf n).size ≤ 16) (w : World) (hL : Isa.Laid w) :
 Calls Tryz.prog 38 #[.agg #[.int .i64 (n : Int), .int .u8 (d : Int), .int .u8 (a : Int), .int .u8 (b : Int), .int .i32 imm]] w (Isa.TextPost ((Isa.nameOf n ++ ⟨#[32]⟩) ++ Isa.joined [Isa.num imm]) w) := by
 have HE := Lib.hid hE
 clear hE
 go_enter Tryz.func38, Tryz.ntmps38
 go_wp2_with fail
 refine (Encode_calls (n : Int) (d : Int) (a : Int) (b : Int) imm (by omega) (by omega) (by omega) him _ (hL.alloc _)).mono ?_
 rintro e w1 ⟨rfl, hb1⟩
 rw [HE.out]
 have k1 := blk_keep hb1 (heap_alloc_new _ _)
 obtain ⟨d1, f1⟩ := blk_facts k1
 have hL1 := (hL.alloc _).below hb1
 have HB1 := Lib.hid (below_next (below_alloc' (Below.refl _ _) _) hb1)
 go_wp2_with fail
 refine (of_at3 n h1 h2 7 nu 0 hf hn hs _).mono ?_
 rintro e w2 ⟨rfl, hb2⟩
 have k2 := blk_keep hb2 k1
 have hL2 := hL1.below hb2
 have HB2 := Lib.hid (below_next HB1.out hb2)
 clear d1 f1
 obtain ⟨d2, f2⟩ := blk_facts k2
 have z2 := blk_size k2
 have z2k : ∀ k, w.heap.size < w2.heap.size + k := fun k => by omega
 obtain ⟨l1, l2, l3, l4⟩ := hL2.cells 7 (by omega)
 simp only [Isa.atD, Isa.atA, Isa.atB, Isa.bits, Isa.layD, Isa.layA, Isa.layB, Isa.layN, List.getD_cons_succ, List.getD_cons_zero, Nat.reduceMul, Nat.reduceAdd, Int.cast_ofNat_Int] at l1 l2 l3 l4
 have z0 := hL2.lt
 go_wp2_with fail
 refine (Itoa_calls _ (by omega) (by omega) _ ((hL2.alloc _).alloc _)).mono ?_
 rintro e w3 ⟨rfl, hb3⟩
 have k3 := blk_keep hb3 (blk_alloc _ (blk_alloc _ k2))
 have x3 := blk_keep hb3 (blk_alloc _ (heap_alloc_new _ _))
 have y3 := blk_keep hb3 (heap_alloc2_new _ _ _)
 have HB3 := Lib.hid (below_next (below_alloc' (below_alloc' HB2.out _) _) hb3)
 clear d2 f2
 obtain ⟨d3, f3⟩ := blk_facts k3
 have dx := (blk_facts x3).1
 have dy := (blk_facts y3).1
 have si := Isa.num_size imm (by omega) (by omega)
 have sd := Isa.reg_size (d : Int) (by omega) (by omega)
 have sb := Isa.reg_size (b : Int) (by omega) (by omega)
 have sa := Isa.reg_size (a : Int) (by omega) (by omega)
 go_wp2_with (at_builtin; refine print_append (w0 := w3) w3.heap.size rfl _ _ 52 9 (.string ⟨#[]⟩) 16 rfl Tryz.underlying52 isa_info9 rfl (by decide) (.slice none 0 0) [] (.string (Isa.num imm)) rfl rfl rfl (own_nil _ _ _ _) (Below.refl _ _) (Nat.le_refl _) (by simp) ?_; intro v1 u1 O1 B1 _ _; have k4 := blk_keep B1 k3; have x4 := blk_keep B1 x3; have y4 := blk_keep B1 y3; obtain ⟨d4, f4⟩ := blk_facts k4; have dx4 := (blk_facts x4).1; have dy4 := (blk_facts y4).1; clear d3 f3 dx dy; rcases O1.2 with ⟨_, hz⟩ | ⟨g, cap, cur, rfl, hgb, hrow, hcap, _, _, htake⟩; (simp at hz); skip)
 have hsz : ∀ p ∈ [Isa.num imm], p.size ≤ 22 := by simp; omega
 have hj := Isa.joined_size _ 22 hsz
 have hj2 : (Isa.joined [Isa.num imm]).size ≤ 200 := Nat.le_trans hj (by simp)
 have JN := fun W (hW : W.heap = u1.heap) => join_at g cap 1 [Isa.num imm] rfl W (by rw [hW]; exact hrow) htake hcap 22 (by decide) hsz (by decide)
 clear hj hsz htake
 go_region_with ((go_at_call 73; refine (JN _ (by rfl)).mono ?_; rintro e w9 ⟨rfl, hB9⟩; have k9 := blk_keep hB9 x4; have dx9 := (blk_facts k9).1))
 all_goals
  (go_wp2_with fail
   go_ret
   refine ⟨rfl, ?_⟩
   repeat (first | exact below_next (Below.drew (below_next HB3.out B1)) hB9 | refine Below.drew ?_ | refine below_drewN' ?_ _))
theorem text_8_0 (n : Nat) (h1 : 1 ≤ n) (h2 : n < 49) (hf : (Isa.formOf n : Int) = 8) (hs : (Isa.shapeOf n : Int) = 0) (nu : Int) (hn : (Isa.numOf n : Int) = nu) (hnu : (nu == 0) = true) (d a b : Nat) (imm : Int)
 (hd : d ≤ 15) (ha : a ≤ 15) (hb : b ≤ 15) (him : -2147483648 ≤ imm ∧ imm ≤ 2147483647) (hE : (Isa.enc (n : Int) (d : Int) (a : Int) (b : Int) imm).2 = 0) (hnm : (Isa.nameOf n).size ≤ 16) (w : World) (hL : Isa.Laid w) :
 Calls Tryz.prog 38 #[.agg #[.int .i64 (n : Int), .int .u8 (d : Int), .int .u8 (a : Int), .int .u8 (b : Int), .int .i32 imm]] w (Isa.TextPost (Isa.nameOf n) w) := by
 have HE := Lib.hid hE
 clear hE
 go_enter Tryz.func38, Tryz.ntmps38
 go_wp2_with fail
 refine (Encode_calls (n : Int) (d : Int) (a : Int) (b : Int) imm (by omega) (by omega) (by omega) him _ (hL.alloc _)).mono ?_
 rintro e w1 ⟨rfl, hb1⟩
 rw [HE.out]
 have k1 := blk_keep hb1 (heap_alloc_new _ _)
 obtain ⟨d1, f1⟩ := blk_facts k1
 have hL1 := (hL.alloc _).below hb1
 have HB1 := Lib.hid (below_next (below_alloc' (Below.refl _ _) _) hb1)
 go_wp2_with fail
 refine (of_at3 n h1 h2 8 nu 0 hf hn hs _).mono ?_
 rintro e w2 ⟨rfl, hb2⟩
 have k2 := blk_keep hb2 k1
 have hL2 := hL1.below hb2
 have HB2 := Lib.hid (below_next HB1.out hb2)
 clear d1 f1
 obtain ⟨d2, f2⟩ := blk_facts k2
 have z2 := blk_size k2
 have z2k : ∀ k, w.heap.size < w2.heap.size + k := fun k => by omega
 obtain ⟨l1, l2, l3, l4⟩ := hL2.cells 8 (by omega)
 simp only [Isa.atD, Isa.atA, Isa.atB, Isa.bits, Isa.layD, Isa.layA, Isa.layB, Isa.layN, List.getD_cons_succ, List.getD_cons_zero, Nat.reduceMul, Nat.reduceAdd, Int.cast_ofNat_Int] at l1 l2 l3 l4
 have z0 := hL2.lt
 go_wp2_with fail
 refine (Itoa_calls _ (by omega) (by omega) _ ((hL2.alloc _).alloc _)).mono ?_
 rintro e w3 ⟨rfl, hb3⟩
 have k3 := blk_keep hb3 (blk_alloc _ (blk_alloc _ k2))
 have x3 := blk_keep hb3 (blk_alloc _ (heap_alloc_new _ _))
 have y3 := blk_keep hb3 (heap_alloc2_new _ _ _)
 have HB3 := Lib.hid (below_next (below_alloc' (below_alloc' HB2.out _) _) hb3)
 clear d2 f2
 obtain ⟨d3, f3⟩ := blk_facts k3
 have dx := (blk_facts x3).1
 have dy := (blk_facts y3).1
 have si := Isa.num_size imm (by omega) (by omega)
 have sd := Isa.reg_size (d : Int) (by omega) (by omega)
 have sb := Isa.reg_size (b : Int) (by omega) (by omega)
 have sa := Isa.reg_size (a : Int) (by omega) (by omega)
 go_wp2_with fail
 go_ret
 exact ⟨rfl, HB3.out⟩
end Go.Proofs.YtabmlbnnhhpaoaaGreatDoor
set_option maxHeartbeats 4000000
set_option maxRecDepth 100000
namespace Go.Proofs.YtabmlbnnhhpaoaaGreatDoor
open Go.RowKit
theorem Isa.enc_ok {op d a b imm : Int} (h : (Isa.enc op d a b imm).2 = 0) : (1 ≤ op ∧ op < 49) ∧ Isa.badAt (Isa.atD (Isa.formOf op.toNat)) d = false ∧ Isa.badAt (Isa.atA (Isa.formOf op.toNat)) a = false ∧ Isa.badAt (Isa.atB (Isa.formOf op.toNat)) b = false ∧ Isa.fits (Isa.formOf op.toNat) (Isa.numOf op.toNat) imm = true ∧ (Isa.enc op d a b imm).1 = Isa.wordF (Isa.formOf op.toNat) op d a b imm := by
 unfold Isa.enc at h ⊢
 by_cases h1 : op < 1 ∨ 49 ≤ op
 · rw [if_pos h1] at h; exact absurd h (by decide)
 · rw [if_neg h1] at h ⊢
   unfold Isa.encF at h ⊢
   by_cases h2 : (Isa.badAt (Isa.atD (Isa.formOf op.toNat)) d || Isa.badAt (Isa.atA (Isa.formOf op.toNat)) a || Isa.badAt (Isa.atB (Isa.formOf op.toNat)) b) = true
   · rw [if_pos h2] at h; exact absurd h (by decide)
   · rw [if_neg h2] at h ⊢
     by_cases h3 : Isa.fits (Isa.formOf op.toNat) (Isa.numOf op.toNat) imm = true
     · rw [if_pos h3]
       simp only [Bool.or_eq_true, not_or, Bool.not_eq_true] at h2
       exact ⟨by omega, h2.1.1, h2.1.2, h2.2, h3, rfl⟩
     · rw [if_neg h3] at h; exact absurd h (by decide)
theorem Isa.badAt_le {at_ r : Int} (h : Isa.badAt at_ r = false) : r ≤ 15 ∧ (at_ < 0 → r ≤ 0) := by
 unfold Isa.badAt at h
 simp only [Bool.or_eq_false_iff, decide_eq_false_iff_not, Bool.and_eq_false_imp, decide_eq_true_eq] at h
 exact ⟨by omega, fun hh => by have := h.2 hh; omega⟩
def Isa.parts (f nu : Nat) (d a b imm : Int) : List ByteArray :=
 (if 0 ≤ Isa.atD f then [Isa.reg d] else []) ++ (if 0 ≤ Isa.atA f then [Isa.reg a] else []) ++ (if 0 ≤ Isa.atB f then [Isa.reg b] else []) ++ (if nu ≠ 0 then [Isa.num imm] else [])
def Isa.textF (f nu s : Nat) (nm : ByteArray) (d a b imm : Int) : ByteArray :=
 if s = 1 then (((((((nm ++ ⟨#[32]⟩) ++ Isa.reg (if 0 ≤ Isa.atB f then b else d)) ++ ⟨#[44, 32]⟩) ++ Isa.num imm) ++ ⟨#[40]⟩) ++ Isa.reg a) ++ ⟨#[41]⟩)
 else if Isa.parts f nu d a b imm = [] then nm else (nm ++ ⟨#[32]⟩) ++ Isa.joined (Isa.parts f nu d a b imm)
def Isa.text (op d a b imm : Int) : ByteArray :=
 if (Isa.enc op d a b imm).2 ≠ 0 then ⟨#[]⟩ else Isa.textF (Isa.formOf op.toNat) (Isa.numOf op.toNat) (Isa.shapeOf op.toNat) (Isa.nameOf op.toNat) d a b imm
theorem text_none (op d a b imm : Int) (hd : 0 ≤ d ∧ d ≤ 255) (ha : 0 ≤ a ∧ a ≤ 255) (hb : 0 ≤ b ∧ b ≤ 255) (him : -2147483648 ≤ imm ∧ imm ≤ 2147483647) (hE : (Isa.enc op d a b imm).2 ≠ 0) (w : World) (hL : Isa.Laid w) :
 Calls Tryz.prog 38 #[.agg #[.int .i64 op, .int .u8 d, .int .u8 a, .int .u8 b, .int .i32 imm]] w (Isa.TextPost ⟨#[]⟩ w) := by
 have hq : ((Isa.enc op d a b imm).2 == 0) = false := by simpa using hE
 clear hE
 go_enter Tryz.func38, Tryz.ntmps38
 go_wp2_with fail
 refine (Encode_calls op d a b imm hd ha hb him _ (hL.alloc _)).mono ?_
 rintro e w1 ⟨rfl, hb1⟩
 have HB1 := Lib.hid (below_next (below_alloc' (Below.refl _ _) _) hb1)
 go_wp2_with fail
 go_ret
 exact ⟨rfl, HB1.out⟩
theorem Isa.name_le : ∀ n : Fin 49, (Isa.nameOf n.1).size ≤ 16 := by decide
theorem Isa.text_combos : ∀ n : Fin 49, 1 ≤ n.1 → (Isa.formOf n.1 = 1 ∧ Isa.shapeOf n.1 = 0 ∧ Isa.numOf n.1 = 0) ∨ (Isa.formOf n.1 = 2 ∧ Isa.shapeOf n.1 = 0 ∧ Isa.numOf n.1 ≠ 0) ∨ (Isa.formOf n.1 = 2 ∧ Isa.shapeOf n.1 = 1 ∧ Isa.numOf n.1 ≠ 0) ∨ (Isa.formOf n.1 = 3 ∧ Isa.shapeOf n.1 = 0 ∧ Isa.numOf n.1 ≠ 0) ∨ (Isa.formOf n.1 = 3 ∧ Isa.shapeOf n.1 = 1 ∧ Isa.numOf n.1 ≠ 0) ∨ (Isa.formOf n.1 = 4 ∧ Isa.shapeOf n.1 = 0 ∧ Isa.numOf n.1 ≠ 0) ∨ (Isa.formOf n.1 = 5 ∧ Isa.shapeOf n.1 = 0 ∧ Isa.numOf n.1 = 0) ∨ (Isa.formOf n.1 = 6 ∧ Isa.shapeOf n.1 = 0 ∧ Isa.numOf n.1 = 0) ∨ (Isa.formOf n.1 = 7 ∧ Isa.shapeOf n.1 = 0 ∧ Isa.numOf n.1 ≠ 0) ∨ (Isa.formOf n.1 = 8 ∧ Isa.shapeOf n.1 = 0 ∧ Isa.numOf n.1 = 0) := by decide
theorem Text_calls (op d a b imm : Int) (hd : 0 ≤ d ∧ d ≤ 255) (ha : 0 ≤ a ∧ a ≤ 255) (hb : 0 ≤ b ∧ b ≤ 255) (him : -2147483648 ≤ imm ∧ imm ≤ 2147483647) (w : World) (hL : Isa.Laid w) :
 Calls Tryz.prog 38 #[.agg #[.int .i64 op, .int .u8 d, .int .u8 a, .int .u8 b, .int .i32 imm]] w (Isa.TextPost (Isa.text op d a b imm) w) := by
 unfold Isa.text
 by_cases hE : (Isa.enc op d a b imm).2 = 0
 · rw [if_neg (by simpa using hE)]
   obtain ⟨ho, b1, b2, b3, hf, _⟩ := Isa.enc_ok hE
   have b1' := (Isa.badAt_le b1).1
   have b2' := (Isa.badAt_le b2).1
   have b3' := (Isa.badAt_le b3).1
   clear b1 b2 b3 hf
   obtain ⟨n, rfl⟩ : ∃ n : Nat, op = (n : Int) := ⟨op.toNat, by omega⟩
   obtain ⟨d, rfl⟩ : ∃ n : Nat, d = (n : Int) := ⟨d.toNat, by omega⟩
   obtain ⟨a, rfl⟩ : ∃ n : Nat, a = (n : Int) := ⟨a.toNat, by omega⟩
   obtain ⟨b, rfl⟩ : ∃ n : Nat, b = (n : Int) := ⟨b.toNat, by omega⟩
   have h1 : 1 ≤ n := by omega
   have h2 : n < 49 := by omega
   have hn := Isa.name_le ⟨n, h2⟩
   have hc := Isa.text_combos ⟨n, h2⟩ h1
   simp only [Int.toNat_natCast] at hc hn ⊢
   rcases hc with ⟨e1, e2, e3⟩ | ⟨e1, e2, e3⟩ | ⟨e1, e2, e3⟩ | ⟨e1, e2, e3⟩ | ⟨e1, e2, e3⟩ | ⟨e1, e2, e3⟩ | ⟨e1, e2, e3⟩ | ⟨e1, e2, e3⟩ | ⟨e1, e2, e3⟩ | ⟨e1, e2, e3⟩
   · have r := text_1_0 n h1 h2 (by rw [e1]; rfl) (by rw [e2]; rfl) (Isa.numOf n : Int) rfl (by rw [e3]; rfl) d a b imm (by omega) (by omega) (by omega) him hE hn w hL
     have q : Isa.textF (Isa.formOf n) (Isa.numOf n) (Isa.shapeOf n) (Isa.nameOf n) (d : Int) (a : Int) (b : Int) imm = ((Isa.nameOf n ++ ⟨#[32]⟩) ++ Isa.joined [Isa.reg (d : Int), Isa.reg (a : Int), Isa.reg (b : Int)]) := by
      rw [e1, e2]; rw [e3]
      simp [Isa.textF, Isa.parts, Isa.atD, Isa.atA, Isa.atB, Isa.layD, Isa.layA, Isa.layB]
     rw [q]; exact r
   · have r := text_2_0 n h1 h2 (by rw [e1]; rfl) (by rw [e2]; rfl) (Isa.numOf n : Int) rfl (by simp; omega) d a b imm (by omega) (by omega) (by omega) him hE hn w hL
     have q : Isa.textF (Isa.formOf n) (Isa.numOf n) (Isa.shapeOf n) (Isa.nameOf n) (d : Int) (a : Int) (b : Int) imm = ((Isa.nameOf n ++ ⟨#[32]⟩) ++ Isa.joined [Isa.reg (d : Int), Isa.reg (a : Int), Isa.num imm]) := by
      rw [e1, e2]
      simp [Isa.textF, Isa.parts, Isa.atD, Isa.atA, Isa.atB, Isa.layD, Isa.layA, Isa.layB, e3]
     rw [q]; exact r
   · have r := text_2_1 n h1 h2 (by rw [e1]; rfl) (by rw [e2]; rfl) (Isa.numOf n : Int) rfl (by simp; omega) d a b imm (by omega) (by omega) (by omega) him hE hn w hL
     have q : Isa.textF (Isa.formOf n) (Isa.numOf n) (Isa.shapeOf n) (Isa.nameOf n) (d : Int) (a : Int) (b : Int) imm = (((((((Isa.nameOf n ++ ⟨#[32]⟩) ++ Isa.reg (d : Int)) ++ ⟨#[44, 32]⟩) ++ Isa.num imm) ++ ⟨#[40]⟩) ++ Isa.reg (a : Int)) ++ ⟨#[41]⟩) := by
      rw [e1, e2]
      simp [Isa.textF, Isa.parts, Isa.atD, Isa.atA, Isa.atB, Isa.layD, Isa.layA, Isa.layB, e3]
     rw [q]; exact r
   · have r := text_3_0 n h1 h2 (by rw [e1]; rfl) (by rw [e2]; rfl) (Isa.numOf n : Int) rfl (by simp; omega) d a b imm (by omega) (by omega) (by omega) him hE hn w hL
     have q : Isa.textF (Isa.formOf n) (Isa.numOf n) (Isa.shapeOf n) (Isa.nameOf n) (d : Int) (a : Int) (b : Int) imm = ((Isa.nameOf n ++ ⟨#[32]⟩) ++ Isa.joined [Isa.reg (a : Int), Isa.reg (b : Int), Isa.num imm]) := by
      rw [e1, e2]
      simp [Isa.textF, Isa.parts, Isa.atD, Isa.atA, Isa.atB, Isa.layD, Isa.layA, Isa.layB, e3]
     rw [q]; exact r
   · have r := text_3_1 n h1 h2 (by rw [e1]; rfl) (by rw [e2]; rfl) (Isa.numOf n : Int) rfl (by simp; omega) d a b imm (by omega) (by omega) (by omega) him hE hn w hL
     have q : Isa.textF (Isa.formOf n) (Isa.numOf n) (Isa.shapeOf n) (Isa.nameOf n) (d : Int) (a : Int) (b : Int) imm = (((((((Isa.nameOf n ++ ⟨#[32]⟩) ++ Isa.reg (b : Int)) ++ ⟨#[44, 32]⟩) ++ Isa.num imm) ++ ⟨#[40]⟩) ++ Isa.reg (a : Int)) ++ ⟨#[41]⟩) := by
      rw [e1, e2]
      simp [Isa.textF, Isa.parts, Isa.atD, Isa.atA, Isa.atB, Isa.layD, Isa.layA, Isa.layB, e3]
     rw [q]; exact r
   · have r := text_4_0 n h1 h2 (by rw [e1]; rfl) (by rw [e2]; rfl) (Isa.numOf n : Int) rfl (by simp; omega) d a b imm (by omega) (by omega) (by omega) him hE hn w hL
     have q : Isa.textF (Isa.formOf n) (Isa.numOf n) (Isa.shapeOf n) (Isa.nameOf n) (d : Int) (a : Int) (b : Int) imm = ((Isa.nameOf n ++ ⟨#[32]⟩) ++ Isa.joined [Isa.reg (d : Int), Isa.num imm]) := by
      rw [e1, e2]
      simp [Isa.textF, Isa.parts, Isa.atD, Isa.atA, Isa.atB, Isa.layD, Isa.layA, Isa.layB, e3]
     rw [q]; exact r
   · have r := text_5_0 n h1 h2 (by rw [e1]; rfl) (by rw [e2]; rfl) (Isa.numOf n : Int) rfl (by rw [e3]; rfl) d a b imm (by omega) (by omega) (by omega) him hE hn w hL
     have q : Isa.textF (Isa.formOf n) (Isa.numOf n) (Isa.shapeOf n) (Isa.nameOf n) (d : Int) (a : Int) (b : Int) imm = ((Isa.nameOf n ++ ⟨#[32]⟩) ++ Isa.joined [Isa.reg (d : Int)]) := by
      rw [e1, e2]; rw [e3]
      simp [Isa.textF, Isa.parts, Isa.atD, Isa.atA, Isa.atB, Isa.layD, Isa.layA, Isa.layB]
     rw [q]; exact r
   · have r := text_6_0 n h1 h2 (by rw [e1]; rfl) (by rw [e2]; rfl) (Isa.numOf n : Int) rfl (by rw [e3]; rfl) d a b imm (by omega) (by omega) (by omega) him hE hn w hL
     have q : Isa.textF (Isa.formOf n) (Isa.numOf n) (Isa.shapeOf n) (Isa.nameOf n) (d : Int) (a : Int) (b : Int) imm = ((Isa.nameOf n ++ ⟨#[32]⟩) ++ Isa.joined [Isa.reg (a : Int)]) := by
      rw [e1, e2]; rw [e3]
      simp [Isa.textF, Isa.parts, Isa.atD, Isa.atA, Isa.atB, Isa.layD, Isa.layA, Isa.layB]
     rw [q]; exact r
   · have r := text_7_0 n h1 h2 (by rw [e1]; rfl) (by rw [e2]; rfl) (Isa.numOf n : Int) rfl (by simp; omega) d a b imm (by omega) (by omega) (by omega) him hE hn w hL
     have q : Isa.textF (Isa.formOf n) (Isa.numOf n) (Isa.shapeOf n) (Isa.nameOf n) (d : Int) (a : Int) (b : Int) imm = ((Isa.nameOf n ++ ⟨#[32]⟩) ++ Isa.joined [Isa.num imm]) := by
      rw [e1, e2]
      simp [Isa.textF, Isa.parts, Isa.atD, Isa.atA, Isa.atB, Isa.layD, Isa.layA, Isa.layB, e3]
     rw [q]; exact r
   · have r := text_8_0 n h1 h2 (by rw [e1]; rfl) (by rw [e2]; rfl) (Isa.numOf n : Int) rfl (by rw [e3]; rfl) d a b imm (by omega) (by omega) (by omega) him hE hn w hL
     have q : Isa.textF (Isa.formOf n) (Isa.numOf n) (Isa.shapeOf n) (Isa.nameOf n) (d : Int) (a : Int) (b : Int) imm = (Isa.nameOf n) := by
      rw [e1, e2]; rw [e3]
      simp [Isa.textF, Isa.parts, Isa.atD, Isa.atA, Isa.atB, Isa.layD, Isa.layA, Isa.layB]
     rw [q]; exact r
 · rw [if_pos hE]
   exact text_none op d a b imm hd ha hb him hE w hL
end Go.Proofs.YtabmlbnnhhpaoaaGreatDoor
