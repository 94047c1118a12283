/- IsaOne: the walk of the law's body. -/
import Derived.Test.YtedjkbekhhffeaaDoorIsaTextInj
import Derived.Test.YtedjkbekhhffeaaDoorIsaRound
namespace Go.Proofs.YtedjkbekhhffeaaDoor
open Go.RowKit
set_option linter.unusedSimpArgs false
set_option linter.unusedVariables false
set_option maxHeartbeats 8000000 in
set_option maxRecDepth 100000 in
theorem isaOne_err0 (op d a b m op' d' a' b' m' x x' y y' : Int) (hd : 0 ≤ d ∧ d ≤ 255) (ha : 0 ≤ a ∧ a ≤ 255) (hb : 0 ≤ b ∧ b ≤ 255) (hm : -2147483648 ≤ m ∧ m ≤ 2147483647) (hd' : 0 ≤ d' ∧ d' ≤ 255) (ha' : 0 ≤ a' ∧ a' ≤ 255) (hb' : 0 ≤ b' ∧ b' ≤ 255) (hm' : -2147483648 ≤ m' ∧ m' ≤ 2147483647) (s s' : ByteArray) (hx : Isa.enc op d a b m = (x, y)) (hx' : Isa.enc op' d' a' b' m' = (x', y')) (hs : Isa.text op d a b m = s) (hs' : Isa.text op' d' a' b' m' = s')
    (hy : (y == 0) = false) (hy' : (y' == 0) = false) (hz : (y != 0) = true) (hz' : (y' != 0) = true) (hq : (!s.toList.isEmpty) = false) (hq' : (!s'.toList.isEmpty) = false) (hr : s.toList.isEmpty = true) (hr' : s'.toList.isEmpty = true) (w : World) (hL : Isa.Laid w) :
    Calls Tryd.prog 4 #[.agg #[.int .i64 op, .int .u8 d, .int .u8 a, .int .u8 b, .int .i32 m], .agg #[.int .i64 op', .int .u8 d', .int .u8 a', .int .u8 b', .int .i32 m']] w fun e w' => e = .returned (.bool true) ∧ Below w.heap.size w w' := by
  have hE := Encode_calls op d a b m hd ha hb hm
  have hE' := Encode_calls op' d' a' b' m' hd' ha' hb' hm'
  have hT := Text_calls op d a b m hd ha hb hm
  have hT' := Text_calls op' d' a' b' m' hd' ha' hb' hm'
  rw [hx] at hE
  rw [hx'] at hE'
  rw [hs] at hT
  rw [hs'] at hT'
  clear hx hx' hs hs'
  go_enter Tryd.func4, Tryd.ntmps4
  go_wp2_with fail
  refine (known_calls _ ((hL.alloc _).alloc _)).mono ?_
  rintro e w1 ⟨rfl, hb1⟩
  have hL1 := ((hL.alloc _).alloc _).below hb1
  have k1 := blk_keep hb1 (blk_alloc _ (heap_alloc_new _ _))
  have j1 := blk_keep hb1 (heap_alloc2_new _ _ _)
  have HB1 := Lib.hid (below_next (below_alloc' (below_alloc' (Below.refl _ _) _) _) hb1)
  obtain ⟨d1, f1⟩ := blk_facts k1
  obtain ⟨c1, g1⟩ := blk_facts j1
  go_wp2_with fail
  refine (hE _ hL1).mono ?_
  rintro e w2 ⟨rfl, hb2⟩
  have hL2 := hL1.below hb2
  have k2 := blk_keep hb2 k1
  have j2 := blk_keep hb2 j1
  have HB2 := Lib.hid (below_next HB1.out hb2)
  clear d1 f1 c1 g1
  obtain ⟨d2, f2⟩ := blk_facts k2
  obtain ⟨c2, g2⟩ := blk_facts j2
  go_wp2_with fail
  refine (hE' _ hL2).mono ?_
  rintro e w3 ⟨rfl, hb3⟩
  have hL3 := hL2.below hb3
  have k3 := blk_keep hb3 k2
  have j3 := blk_keep hb3 j2
  have HB3 := Lib.hid (below_next HB2.out hb3)
  clear d2 f2 c2 g2
  obtain ⟨d3, f3⟩ := blk_facts k3
  obtain ⟨c3, g3⟩ := blk_facts j3
  go_wp2_with fail
  refine (hT _ hL3).mono ?_
  rintro e w4 ⟨rfl, hb4⟩
  have hL4 := hL3.below hb4
  have k4 := blk_keep hb4 k3
  have j4 := blk_keep hb4 j3
  have HB4 := Lib.hid (below_next HB3.out hb4)
  clear d3 f3 c3 g3
  obtain ⟨d4, f4⟩ := blk_facts k4
  obtain ⟨c4, g4⟩ := blk_facts j4
  go_wp2_with fail
  refine (hT' _ hL4).mono ?_
  rintro e w5 ⟨rfl, hb5⟩
  have hL5 := hL4.below hb5
  have k5 := blk_keep hb5 k4
  have j5 := blk_keep hb5 j4
  have HB5 := Lib.hid (below_next HB4.out hb5)
  clear d4 f4 c4 g4
  obtain ⟨d5, f5⟩ := blk_facts k5
  obtain ⟨c5, g5⟩ := blk_facts j5
  have z5 := blk_size k5
  have y5 := blk_size j5
  go_wp2_with fail
  go_ret
  exact ⟨rfl, HB5.out⟩
set_option maxHeartbeats 8000000 in
set_option maxRecDepth 100000 in
theorem isaOne_err1 (op d a b m op' d' a' b' m' x x' y y' : Int) (hd : 0 ≤ d ∧ d ≤ 255) (ha : 0 ≤ a ∧ a ≤ 255) (hb : 0 ≤ b ∧ b ≤ 255) (hm : -2147483648 ≤ m ∧ m ≤ 2147483647) (hd' : 0 ≤ d' ∧ d' ≤ 255) (ha' : 0 ≤ a' ∧ a' ≤ 255) (hb' : 0 ≤ b' ∧ b' ≤ 255) (hm' : -2147483648 ≤ m' ∧ m' ≤ 2147483647) (s s' : ByteArray) (hx : Isa.enc op d a b m = (x, y)) (hx' : Isa.enc op' d' a' b' m' = (x', y')) (hs : Isa.text op d a b m = s) (hs' : Isa.text op' d' a' b' m' = s')
    (hy : (y == 0) = false) (hy' : (y' == 0) = true) (hz : (y != 0) = true) (hz' : (y' != 0) = false) (hq : (!s.toList.isEmpty) = false) (hq' : (!s'.toList.isEmpty) = true) (hr : s.toList.isEmpty = true) (hr' : s'.toList.isEmpty = false) (w : World) (hL : Isa.Laid w) :
    Calls Tryd.prog 4 #[.agg #[.int .i64 op, .int .u8 d, .int .u8 a, .int .u8 b, .int .i32 m], .agg #[.int .i64 op', .int .u8 d', .int .u8 a', .int .u8 b', .int .i32 m']] w fun e w' => e = .returned (.bool true) ∧ Below w.heap.size w w' := by
  have hE := Encode_calls op d a b m hd ha hb hm
  have hE' := Encode_calls op' d' a' b' m' hd' ha' hb' hm'
  have hT := Text_calls op d a b m hd ha hb hm
  have hT' := Text_calls op' d' a' b' m' hd' ha' hb' hm'
  rw [hx] at hE
  rw [hx'] at hE'
  rw [hs] at hT
  rw [hs'] at hT'
  clear hx hx' hs hs'
  go_enter Tryd.func4, Tryd.ntmps4
  go_wp2_with fail
  refine (known_calls _ ((hL.alloc _).alloc _)).mono ?_
  rintro e w1 ⟨rfl, hb1⟩
  have hL1 := ((hL.alloc _).alloc _).below hb1
  have k1 := blk_keep hb1 (blk_alloc _ (heap_alloc_new _ _))
  have j1 := blk_keep hb1 (heap_alloc2_new _ _ _)
  have HB1 := Lib.hid (below_next (below_alloc' (below_alloc' (Below.refl _ _) _) _) hb1)
  obtain ⟨d1, f1⟩ := blk_facts k1
  obtain ⟨c1, g1⟩ := blk_facts j1
  go_wp2_with fail
  refine (hE _ hL1).mono ?_
  rintro e w2 ⟨rfl, hb2⟩
  have hL2 := hL1.below hb2
  have k2 := blk_keep hb2 k1
  have j2 := blk_keep hb2 j1
  have HB2 := Lib.hid (below_next HB1.out hb2)
  clear d1 f1 c1 g1
  obtain ⟨d2, f2⟩ := blk_facts k2
  obtain ⟨c2, g2⟩ := blk_facts j2
  go_wp2_with fail
  refine (hE' _ hL2).mono ?_
  rintro e w3 ⟨rfl, hb3⟩
  have hL3 := hL2.below hb3
  have k3 := blk_keep hb3 k2
  have j3 := blk_keep hb3 j2
  have HB3 := Lib.hid (below_next HB2.out hb3)
  clear d2 f2 c2 g2
  obtain ⟨d3, f3⟩ := blk_facts k3
  obtain ⟨c3, g3⟩ := blk_facts j3
  go_wp2_with fail
  refine (hT _ hL3).mono ?_
  rintro e w4 ⟨rfl, hb4⟩
  have hL4 := hL3.below hb4
  have k4 := blk_keep hb4 k3
  have j4 := blk_keep hb4 j3
  have HB4 := Lib.hid (below_next HB3.out hb4)
  clear d3 f3 c3 g3
  obtain ⟨d4, f4⟩ := blk_facts k4
  obtain ⟨c4, g4⟩ := blk_facts j4
  go_wp2_with fail
  refine (hT' _ hL4).mono ?_
  rintro e w5 ⟨rfl, hb5⟩
  have hL5 := hL4.below hb5
  have k5 := blk_keep hb5 k4
  have j5 := blk_keep hb5 j4
  have HB5 := Lib.hid (below_next HB4.out hb5)
  clear d4 f4 c4 g4
  obtain ⟨d5, f5⟩ := blk_facts k5
  obtain ⟨c5, g5⟩ := blk_facts j5
  have z5 := blk_size k5
  have y5 := blk_size j5
  go_wp2_with fail
  go_ret
  exact ⟨rfl, HB5.out⟩
set_option maxHeartbeats 8000000 in
set_option maxRecDepth 100000 in
theorem isaOne_err2 (op d a b m op' d' a' b' m' x x' y y' : Int) (hd : 0 ≤ d ∧ d ≤ 255) (ha : 0 ≤ a ∧ a ≤ 255) (hb : 0 ≤ b ∧ b ≤ 255) (hm : -2147483648 ≤ m ∧ m ≤ 2147483647) (hd' : 0 ≤ d' ∧ d' ≤ 255) (ha' : 0 ≤ a' ∧ a' ≤ 255) (hb' : 0 ≤ b' ∧ b' ≤ 255) (hm' : -2147483648 ≤ m' ∧ m' ≤ 2147483647) (s s' : ByteArray) (hx : Isa.enc op d a b m = (x, y)) (hx' : Isa.enc op' d' a' b' m' = (x', y')) (hs : Isa.text op d a b m = s) (hs' : Isa.text op' d' a' b' m' = s')
    (hy : (y == 0) = true) (hy' : (y' == 0) = false) (hz : (y != 0) = false) (hz' : (y' != 0) = true) (hq : (!s.toList.isEmpty) = true) (hq' : (!s'.toList.isEmpty) = false) (hr : s.toList.isEmpty = false) (hr' : s'.toList.isEmpty = true) (w : World) (hL : Isa.Laid w) :
    Calls Tryd.prog 4 #[.agg #[.int .i64 op, .int .u8 d, .int .u8 a, .int .u8 b, .int .i32 m], .agg #[.int .i64 op', .int .u8 d', .int .u8 a', .int .u8 b', .int .i32 m']] w fun e w' => e = .returned (.bool true) ∧ Below w.heap.size w w' := by
  have hE := Encode_calls op d a b m hd ha hb hm
  have hE' := Encode_calls op' d' a' b' m' hd' ha' hb' hm'
  have hT := Text_calls op d a b m hd ha hb hm
  have hT' := Text_calls op' d' a' b' m' hd' ha' hb' hm'
  rw [hx] at hE
  rw [hx'] at hE'
  rw [hs] at hT
  rw [hs'] at hT'
  clear hx hx' hs hs'
  go_enter Tryd.func4, Tryd.ntmps4
  go_wp2_with fail
  refine (known_calls _ ((hL.alloc _).alloc _)).mono ?_
  rintro e w1 ⟨rfl, hb1⟩
  have hL1 := ((hL.alloc _).alloc _).below hb1
  have k1 := blk_keep hb1 (blk_alloc _ (heap_alloc_new _ _))
  have j1 := blk_keep hb1 (heap_alloc2_new _ _ _)
  have HB1 := Lib.hid (below_next (below_alloc' (below_alloc' (Below.refl _ _) _) _) hb1)
  obtain ⟨d1, f1⟩ := blk_facts k1
  obtain ⟨c1, g1⟩ := blk_facts j1
  go_wp2_with fail
  refine (hE _ hL1).mono ?_
  rintro e w2 ⟨rfl, hb2⟩
  have hL2 := hL1.below hb2
  have k2 := blk_keep hb2 k1
  have j2 := blk_keep hb2 j1
  have HB2 := Lib.hid (below_next HB1.out hb2)
  clear d1 f1 c1 g1
  obtain ⟨d2, f2⟩ := blk_facts k2
  obtain ⟨c2, g2⟩ := blk_facts j2
  go_wp2_with fail
  refine (hE' _ hL2).mono ?_
  rintro e w3 ⟨rfl, hb3⟩
  have hL3 := hL2.below hb3
  have k3 := blk_keep hb3 k2
  have j3 := blk_keep hb3 j2
  have HB3 := Lib.hid (below_next HB2.out hb3)
  clear d2 f2 c2 g2
  obtain ⟨d3, f3⟩ := blk_facts k3
  obtain ⟨c3, g3⟩ := blk_facts j3
  go_wp2_with fail
  refine (hT _ hL3).mono ?_
  rintro e w4 ⟨rfl, hb4⟩
  have hL4 := hL3.below hb4
  have k4 := blk_keep hb4 k3
  have j4 := blk_keep hb4 j3
  have HB4 := Lib.hid (below_next HB3.out hb4)
  clear d3 f3 c3 g3
  obtain ⟨d4, f4⟩ := blk_facts k4
  obtain ⟨c4, g4⟩ := blk_facts j4
  go_wp2_with fail
  refine (hT' _ hL4).mono ?_
  rintro e w5 ⟨rfl, hb5⟩
  have hL5 := hL4.below hb5
  have k5 := blk_keep hb5 k4
  have j5 := blk_keep hb5 j4
  have HB5 := Lib.hid (below_next HB4.out hb5)
  clear d4 f4 c4 g4
  obtain ⟨d5, f5⟩ := blk_facts k5
  obtain ⟨c5, g5⟩ := blk_facts j5
  have z5 := blk_size k5
  have y5 := blk_size j5
  go_wp2_with fail
  go_ret
  exact ⟨rfl, HB5.out⟩
set_option maxHeartbeats 8000000 in
set_option maxRecDepth 100000 in
theorem isaOne_ok0 (op d a b m op' d' a' b' m' x x' : Int) (hd : 0 ≤ d ∧ d ≤ 255) (ha : 0 ≤ a ∧ a ≤ 255) (hb : 0 ≤ b ∧ b ≤ 255) (hm : -2147483648 ≤ m ∧ m ≤ 2147483647) (hd' : 0 ≤ d' ∧ d' ≤ 255) (ha' : 0 ≤ a' ∧ a' ≤ 255) (hb' : 0 ≤ b' ∧ b' ≤ 255) (hm' : -2147483648 ≤ m' ∧ m' ≤ 2147483647) (s s' : ByteArray) (hx0 : 0 ≤ x ∧ x ≤ 4294967295) (hx : Isa.enc op d a b m = (x, 0)) (hx' : Isa.enc op' d' a' b' m' = (x', 0)) (hs : Isa.text op d a b m = s) (hs' : Isa.text op' d' a' b' m' = s') (hdec : Isa.dec x = (op, d, a, b, m, 0))
    (hq : (!s.toList.isEmpty) = true) (hr : s.toList.isEmpty = false) (hq' : (!s'.toList.isEmpty) = true) (hr' : s'.toList.isEmpty = false) (hxx : (x == x') = false) (hss : (s.toList == s'.toList) = false) (hne : (op == op') = false) (w : World) (hL : Isa.Laid w) :
    Calls Tryd.prog 4 #[.agg #[.int .i64 op, .int .u8 d, .int .u8 a, .int .u8 b, .int .i32 m], .agg #[.int .i64 op', .int .u8 d', .int .u8 a', .int .u8 b', .int .i32 m']] w fun e w' => e = .returned (.bool true) ∧ Below w.heap.size w w' := by
  have hE := Encode_calls op d a b m hd ha hb hm
  have hE' := Encode_calls op' d' a' b' m' hd' ha' hb' hm'
  have hT := Text_calls op d a b m hd ha hb hm
  have hT' := Text_calls op' d' a' b' m' hd' ha' hb' hm'
  have hD := Decode_calls x hx0.1 hx0.2
  rw [hx] at hE
  rw [hx'] at hE'
  rw [hs] at hT
  rw [hs'] at hT'
  rw [hdec] at hD
  clear hx hs hdec hx' hs'
  go_enter Tryd.func4, Tryd.ntmps4
  go_wp2_with fail
  refine (known_calls _ ((hL.alloc _).alloc _)).mono ?_
  rintro e w1 ⟨rfl, hb1⟩
  have hL1 := ((hL.alloc _).alloc _).below hb1
  have k1 := blk_keep hb1 (blk_alloc _ (heap_alloc_new _ _))
  have j1 := blk_keep hb1 (heap_alloc2_new _ _ _)
  have HB1 := Lib.hid (below_next (below_alloc' (below_alloc' (Below.refl _ _) _) _) hb1)
  obtain ⟨d1, f1⟩ := blk_facts k1
  obtain ⟨c1, g1⟩ := blk_facts j1
  go_wp2_with fail
  refine (hE _ hL1).mono ?_
  rintro e w2 ⟨rfl, hb2⟩
  have hL2 := hL1.below hb2
  have k2 := blk_keep hb2 k1
  have j2 := blk_keep hb2 j1
  have HB2 := Lib.hid (below_next HB1.out hb2)
  clear d1 f1 c1 g1
  obtain ⟨d2, f2⟩ := blk_facts k2
  obtain ⟨c2, g2⟩ := blk_facts j2
  go_wp2_with fail
  refine (hE' _ hL2).mono ?_
  rintro e w3 ⟨rfl, hb3⟩
  have hL3 := hL2.below hb3
  have k3 := blk_keep hb3 k2
  have j3 := blk_keep hb3 j2
  have HB3 := Lib.hid (below_next HB2.out hb3)
  clear d2 f2 c2 g2
  obtain ⟨d3, f3⟩ := blk_facts k3
  obtain ⟨c3, g3⟩ := blk_facts j3
  go_wp2_with fail
  refine (hT _ hL3).mono ?_
  rintro e w4 ⟨rfl, hb4⟩
  have hL4 := hL3.below hb4
  have k4 := blk_keep hb4 k3
  have j4 := blk_keep hb4 j3
  have HB4 := Lib.hid (below_next HB3.out hb4)
  clear d3 f3 c3 g3
  obtain ⟨d4, f4⟩ := blk_facts k4
  obtain ⟨c4, g4⟩ := blk_facts j4
  go_wp2_with fail
  refine (hT' _ hL4).mono ?_
  rintro e w5 ⟨rfl, hb5⟩
  have hL5 := hL4.below hb5
  have k5 := blk_keep hb5 k4
  have j5 := blk_keep hb5 j4
  have HB5 := Lib.hid (below_next HB4.out hb5)
  clear d4 f4 c4 g4
  obtain ⟨d5, f5⟩ := blk_facts k5
  obtain ⟨c5, g5⟩ := blk_facts j5
  have z5 := blk_size k5
  have y5 := blk_size j5
  go_wp2_with fail
  refine (hD _ hL5).mono ?_
  rintro e w6 ⟨rfl, hb6⟩
  have k6 := blk_keep hb6 k5
  have j6 := blk_keep hb6 j5
  have HB6 := Lib.hid (below_next HB5.out hb6)
  clear d5 f5 c5 g5
  obtain ⟨d6, f6⟩ := blk_facts k6
  obtain ⟨c6, g6⟩ := blk_facts j6
  have z6 := blk_size k6
  have y6 := blk_size j6
  have z6k : ∀ k, w.heap.size < w6.heap.size + k := fun k => by omega
  have y6k : ∀ k, w.heap.size + 1 < w6.heap.size + k := fun k => by omega
  go_wp2_with fail
  go_ret
  exact ⟨rfl, below_alloc' HB6.out _⟩
set_option maxHeartbeats 8000000 in
set_option maxRecDepth 100000 in
theorem isaOne_ok1 (op d a b m d' a' b' m' x x' : Int) (hd : 0 ≤ d ∧ d ≤ 255) (ha : 0 ≤ a ∧ a ≤ 255) (hb : 0 ≤ b ∧ b ≤ 255) (hm : -2147483648 ≤ m ∧ m ≤ 2147483647) (hd' : 0 ≤ d' ∧ d' ≤ 255) (ha' : 0 ≤ a' ∧ a' ≤ 255) (hb' : 0 ≤ b' ∧ b' ≤ 255) (hm' : -2147483648 ≤ m' ∧ m' ≤ 2147483647) (s s' : ByteArray) (hx0 : 0 ≤ x ∧ x ≤ 4294967295) (hx : Isa.enc op d a b m = (x, 0)) (hx' : Isa.enc op d' a' b' m' = (x', 0)) (hs : Isa.text op d a b m = s) (hs' : Isa.text op d' a' b' m' = s') (hdec : Isa.dec x = (op, d, a, b, m, 0))
    (hq : (!s.toList.isEmpty) = true) (hr : s.toList.isEmpty = false) (hq' : (!s'.toList.isEmpty) = true) (hr' : s'.toList.isEmpty = false) (hxx : (x == x') = false) (hss : (s.toList == s'.toList) = false) (hne : (d == d') = false) (w : World) (hL : Isa.Laid w) :
    Calls Tryd.prog 4 #[.agg #[.int .i64 op, .int .u8 d, .int .u8 a, .int .u8 b, .int .i32 m], .agg #[.int .i64 op, .int .u8 d', .int .u8 a', .int .u8 b', .int .i32 m']] w fun e w' => e = .returned (.bool true) ∧ Below w.heap.size w w' := by
  have hE := Encode_calls op d a b m hd ha hb hm
  have hE' := Encode_calls op d' a' b' m' hd' ha' hb' hm'
  have hT := Text_calls op d a b m hd ha hb hm
  have hT' := Text_calls op d' a' b' m' hd' ha' hb' hm'
  have hD := Decode_calls x hx0.1 hx0.2
  rw [hx] at hE
  rw [hx'] at hE'
  rw [hs] at hT
  rw [hs'] at hT'
  rw [hdec] at hD
  clear hx hs hdec hx' hs'
  go_enter Tryd.func4, Tryd.ntmps4
  go_wp2_with fail
  refine (known_calls _ ((hL.alloc _).alloc _)).mono ?_
  rintro e w1 ⟨rfl, hb1⟩
  have hL1 := ((hL.alloc _).alloc _).below hb1
  have k1 := blk_keep hb1 (blk_alloc _ (heap_alloc_new _ _))
  have j1 := blk_keep hb1 (heap_alloc2_new _ _ _)
  have HB1 := Lib.hid (below_next (below_alloc' (below_alloc' (Below.refl _ _) _) _) hb1)
  obtain ⟨d1, f1⟩ := blk_facts k1
  obtain ⟨c1, g1⟩ := blk_facts j1
  go_wp2_with fail
  refine (hE _ hL1).mono ?_
  rintro e w2 ⟨rfl, hb2⟩
  have hL2 := hL1.below hb2
  have k2 := blk_keep hb2 k1
  have j2 := blk_keep hb2 j1
  have HB2 := Lib.hid (below_next HB1.out hb2)
  clear d1 f1 c1 g1
  obtain ⟨d2, f2⟩ := blk_facts k2
  obtain ⟨c2, g2⟩ := blk_facts j2
  go_wp2_with fail
  refine (hE' _ hL2).mono ?_
  rintro e w3 ⟨rfl, hb3⟩
  have hL3 := hL2.below hb3
  have k3 := blk_keep hb3 k2
  have j3 := blk_keep hb3 j2
  have HB3 := Lib.hid (below_next HB2.out hb3)
  clear d2 f2 c2 g2
  obtain ⟨d3, f3⟩ := blk_facts k3
  obtain ⟨c3, g3⟩ := blk_facts j3
  go_wp2_with fail
  refine (hT _ hL3).mono ?_
  rintro e w4 ⟨rfl, hb4⟩
  have hL4 := hL3.below hb4
  have k4 := blk_keep hb4 k3
  have j4 := blk_keep hb4 j3
  have HB4 := Lib.hid (below_next HB3.out hb4)
  clear d3 f3 c3 g3
  obtain ⟨d4, f4⟩ := blk_facts k4
  obtain ⟨c4, g4⟩ := blk_facts j4
  go_wp2_with fail
  refine (hT' _ hL4).mono ?_
  rintro e w5 ⟨rfl, hb5⟩
  have hL5 := hL4.below hb5
  have k5 := blk_keep hb5 k4
  have j5 := blk_keep hb5 j4
  have HB5 := Lib.hid (below_next HB4.out hb5)
  clear d4 f4 c4 g4
  obtain ⟨d5, f5⟩ := blk_facts k5
  obtain ⟨c5, g5⟩ := blk_facts j5
  have z5 := blk_size k5
  have y5 := blk_size j5
  go_wp2_with fail
  refine (hD _ hL5).mono ?_
  rintro e w6 ⟨rfl, hb6⟩
  have k6 := blk_keep hb6 k5
  have j6 := blk_keep hb6 j5
  have HB6 := Lib.hid (below_next HB5.out hb6)
  clear d5 f5 c5 g5
  obtain ⟨d6, f6⟩ := blk_facts k6
  obtain ⟨c6, g6⟩ := blk_facts j6
  have z6 := blk_size k6
  have y6 := blk_size j6
  have z6k : ∀ k, w.heap.size < w6.heap.size + k := fun k => by omega
  have y6k : ∀ k, w.heap.size + 1 < w6.heap.size + k := fun k => by omega
  go_wp2_with fail
  go_ret
  exact ⟨rfl, below_alloc' HB6.out _⟩
set_option maxHeartbeats 8000000 in
set_option maxRecDepth 100000 in
theorem isaOne_ok2 (op d a b m a' b' m' x x' : Int) (hd : 0 ≤ d ∧ d ≤ 255) (ha : 0 ≤ a ∧ a ≤ 255) (hb : 0 ≤ b ∧ b ≤ 255) (hm : -2147483648 ≤ m ∧ m ≤ 2147483647) (ha' : 0 ≤ a' ∧ a' ≤ 255) (hb' : 0 ≤ b' ∧ b' ≤ 255) (hm' : -2147483648 ≤ m' ∧ m' ≤ 2147483647) (s s' : ByteArray) (hx0 : 0 ≤ x ∧ x ≤ 4294967295) (hx : Isa.enc op d a b m = (x, 0)) (hx' : Isa.enc op d a' b' m' = (x', 0)) (hs : Isa.text op d a b m = s) (hs' : Isa.text op d a' b' m' = s') (hdec : Isa.dec x = (op, d, a, b, m, 0))
    (hq : (!s.toList.isEmpty) = true) (hr : s.toList.isEmpty = false) (hq' : (!s'.toList.isEmpty) = true) (hr' : s'.toList.isEmpty = false) (hxx : (x == x') = false) (hss : (s.toList == s'.toList) = false) (hne : (a == a') = false) (w : World) (hL : Isa.Laid w) :
    Calls Tryd.prog 4 #[.agg #[.int .i64 op, .int .u8 d, .int .u8 a, .int .u8 b, .int .i32 m], .agg #[.int .i64 op, .int .u8 d, .int .u8 a', .int .u8 b', .int .i32 m']] w fun e w' => e = .returned (.bool true) ∧ Below w.heap.size w w' := by
  have hE := Encode_calls op d a b m hd ha hb hm
  have hE' := Encode_calls op d a' b' m' hd ha' hb' hm'
  have hT := Text_calls op d a b m hd ha hb hm
  have hT' := Text_calls op d a' b' m' hd ha' hb' hm'
  have hD := Decode_calls x hx0.1 hx0.2
  rw [hx] at hE
  rw [hx'] at hE'
  rw [hs] at hT
  rw [hs'] at hT'
  rw [hdec] at hD
  clear hx hs hdec hx' hs'
  go_enter Tryd.func4, Tryd.ntmps4
  go_wp2_with fail
  refine (known_calls _ ((hL.alloc _).alloc _)).mono ?_
  rintro e w1 ⟨rfl, hb1⟩
  have hL1 := ((hL.alloc _).alloc _).below hb1
  have k1 := blk_keep hb1 (blk_alloc _ (heap_alloc_new _ _))
  have j1 := blk_keep hb1 (heap_alloc2_new _ _ _)
  have HB1 := Lib.hid (below_next (below_alloc' (below_alloc' (Below.refl _ _) _) _) hb1)
  obtain ⟨d1, f1⟩ := blk_facts k1
  obtain ⟨c1, g1⟩ := blk_facts j1
  go_wp2_with fail
  refine (hE _ hL1).mono ?_
  rintro e w2 ⟨rfl, hb2⟩
  have hL2 := hL1.below hb2
  have k2 := blk_keep hb2 k1
  have j2 := blk_keep hb2 j1
  have HB2 := Lib.hid (below_next HB1.out hb2)
  clear d1 f1 c1 g1
  obtain ⟨d2, f2⟩ := blk_facts k2
  obtain ⟨c2, g2⟩ := blk_facts j2
  go_wp2_with fail
  refine (hE' _ hL2).mono ?_
  rintro e w3 ⟨rfl, hb3⟩
  have hL3 := hL2.below hb3
  have k3 := blk_keep hb3 k2
  have j3 := blk_keep hb3 j2
  have HB3 := Lib.hid (below_next HB2.out hb3)
  clear d2 f2 c2 g2
  obtain ⟨d3, f3⟩ := blk_facts k3
  obtain ⟨c3, g3⟩ := blk_facts j3
  go_wp2_with fail
  refine (hT _ hL3).mono ?_
  rintro e w4 ⟨rfl, hb4⟩
  have hL4 := hL3.below hb4
  have k4 := blk_keep hb4 k3
  have j4 := blk_keep hb4 j3
  have HB4 := Lib.hid (below_next HB3.out hb4)
  clear d3 f3 c3 g3
  obtain ⟨d4, f4⟩ := blk_facts k4
  obtain ⟨c4, g4⟩ := blk_facts j4
  go_wp2_with fail
  refine (hT' _ hL4).mono ?_
  rintro e w5 ⟨rfl, hb5⟩
  have hL5 := hL4.below hb5
  have k5 := blk_keep hb5 k4
  have j5 := blk_keep hb5 j4
  have HB5 := Lib.hid (below_next HB4.out hb5)
  clear d4 f4 c4 g4
  obtain ⟨d5, f5⟩ := blk_facts k5
  obtain ⟨c5, g5⟩ := blk_facts j5
  have z5 := blk_size k5
  have y5 := blk_size j5
  go_wp2_with fail
  refine (hD _ hL5).mono ?_
  rintro e w6 ⟨rfl, hb6⟩
  have k6 := blk_keep hb6 k5
  have j6 := blk_keep hb6 j5
  have HB6 := Lib.hid (below_next HB5.out hb6)
  clear d5 f5 c5 g5
  obtain ⟨d6, f6⟩ := blk_facts k6
  obtain ⟨c6, g6⟩ := blk_facts j6
  have z6 := blk_size k6
  have y6 := blk_size j6
  have z6k : ∀ k, w.heap.size < w6.heap.size + k := fun k => by omega
  have y6k : ∀ k, w.heap.size + 1 < w6.heap.size + k := fun k => by omega
  go_wp2_with fail
  go_ret
  exact ⟨rfl, below_alloc' HB6.out _⟩
set_option maxHeartbeats 8000000 in
set_option maxRecDepth 100000 in
theorem isaOne_ok3 (op d a b m b' m' x x' : Int) (hd : 0 ≤ d ∧ d ≤ 255) (ha : 0 ≤ a ∧ a ≤ 255) (hb : 0 ≤ b ∧ b ≤ 255) (hm : -2147483648 ≤ m ∧ m ≤ 2147483647) (hb' : 0 ≤ b' ∧ b' ≤ 255) (hm' : -2147483648 ≤ m' ∧ m' ≤ 2147483647) (s s' : ByteArray) (hx0 : 0 ≤ x ∧ x ≤ 4294967295) (hx : Isa.enc op d a b m = (x, 0)) (hx' : Isa.enc op d a b' m' = (x', 0)) (hs : Isa.text op d a b m = s) (hs' : Isa.text op d a b' m' = s') (hdec : Isa.dec x = (op, d, a, b, m, 0))
    (hq : (!s.toList.isEmpty) = true) (hr : s.toList.isEmpty = false) (hq' : (!s'.toList.isEmpty) = true) (hr' : s'.toList.isEmpty = false) (hxx : (x == x') = false) (hss : (s.toList == s'.toList) = false) (hne : (b == b') = false) (w : World) (hL : Isa.Laid w) :
    Calls Tryd.prog 4 #[.agg #[.int .i64 op, .int .u8 d, .int .u8 a, .int .u8 b, .int .i32 m], .agg #[.int .i64 op, .int .u8 d, .int .u8 a, .int .u8 b', .int .i32 m']] w fun e w' => e = .returned (.bool true) ∧ Below w.heap.size w w' := by
  have hE := Encode_calls op d a b m hd ha hb hm
  have hE' := Encode_calls op d a b' m' hd ha hb' hm'
  have hT := Text_calls op d a b m hd ha hb hm
  have hT' := Text_calls op d a b' m' hd ha hb' hm'
  have hD := Decode_calls x hx0.1 hx0.2
  rw [hx] at hE
  rw [hx'] at hE'
  rw [hs] at hT
  rw [hs'] at hT'
  rw [hdec] at hD
  clear hx hs hdec hx' hs'
  go_enter Tryd.func4, Tryd.ntmps4
  go_wp2_with fail
  refine (known_calls _ ((hL.alloc _).alloc _)).mono ?_
  rintro e w1 ⟨rfl, hb1⟩
  have hL1 := ((hL.alloc _).alloc _).below hb1
  have k1 := blk_keep hb1 (blk_alloc _ (heap_alloc_new _ _))
  have j1 := blk_keep hb1 (heap_alloc2_new _ _ _)
  have HB1 := Lib.hid (below_next (below_alloc' (below_alloc' (Below.refl _ _) _) _) hb1)
  obtain ⟨d1, f1⟩ := blk_facts k1
  obtain ⟨c1, g1⟩ := blk_facts j1
  go_wp2_with fail
  refine (hE _ hL1).mono ?_
  rintro e w2 ⟨rfl, hb2⟩
  have hL2 := hL1.below hb2
  have k2 := blk_keep hb2 k1
  have j2 := blk_keep hb2 j1
  have HB2 := Lib.hid (below_next HB1.out hb2)
  clear d1 f1 c1 g1
  obtain ⟨d2, f2⟩ := blk_facts k2
  obtain ⟨c2, g2⟩ := blk_facts j2
  go_wp2_with fail
  refine (hE' _ hL2).mono ?_
  rintro e w3 ⟨rfl, hb3⟩
  have hL3 := hL2.below hb3
  have k3 := blk_keep hb3 k2
  have j3 := blk_keep hb3 j2
  have HB3 := Lib.hid (below_next HB2.out hb3)
  clear d2 f2 c2 g2
  obtain ⟨d3, f3⟩ := blk_facts k3
  obtain ⟨c3, g3⟩ := blk_facts j3
  go_wp2_with fail
  refine (hT _ hL3).mono ?_
  rintro e w4 ⟨rfl, hb4⟩
  have hL4 := hL3.below hb4
  have k4 := blk_keep hb4 k3
  have j4 := blk_keep hb4 j3
  have HB4 := Lib.hid (below_next HB3.out hb4)
  clear d3 f3 c3 g3
  obtain ⟨d4, f4⟩ := blk_facts k4
  obtain ⟨c4, g4⟩ := blk_facts j4
  go_wp2_with fail
  refine (hT' _ hL4).mono ?_
  rintro e w5 ⟨rfl, hb5⟩
  have hL5 := hL4.below hb5
  have k5 := blk_keep hb5 k4
  have j5 := blk_keep hb5 j4
  have HB5 := Lib.hid (below_next HB4.out hb5)
  clear d4 f4 c4 g4
  obtain ⟨d5, f5⟩ := blk_facts k5
  obtain ⟨c5, g5⟩ := blk_facts j5
  have z5 := blk_size k5
  have y5 := blk_size j5
  go_wp2_with fail
  refine (hD _ hL5).mono ?_
  rintro e w6 ⟨rfl, hb6⟩
  have k6 := blk_keep hb6 k5
  have j6 := blk_keep hb6 j5
  have HB6 := Lib.hid (below_next HB5.out hb6)
  clear d5 f5 c5 g5
  obtain ⟨d6, f6⟩ := blk_facts k6
  obtain ⟨c6, g6⟩ := blk_facts j6
  have z6 := blk_size k6
  have y6 := blk_size j6
  have z6k : ∀ k, w.heap.size < w6.heap.size + k := fun k => by omega
  have y6k : ∀ k, w.heap.size + 1 < w6.heap.size + k := fun k => by omega
  go_wp2_with fail
  go_ret
  exact ⟨rfl, below_alloc' HB6.out _⟩
set_option maxHeartbeats 8000000 in
set_option maxRecDepth 100000 in
theorem isaOne_ok4 (op d a b m m' x x' : Int) (hd : 0 ≤ d ∧ d ≤ 255) (ha : 0 ≤ a ∧ a ≤ 255) (hb : 0 ≤ b ∧ b ≤ 255) (hm : -2147483648 ≤ m ∧ m ≤ 2147483647) (hm' : -2147483648 ≤ m' ∧ m' ≤ 2147483647) (s s' : ByteArray) (hx0 : 0 ≤ x ∧ x ≤ 4294967295) (hx : Isa.enc op d a b m = (x, 0)) (hx' : Isa.enc op d a b m' = (x', 0)) (hs : Isa.text op d a b m = s) (hs' : Isa.text op d a b m' = s') (hdec : Isa.dec x = (op, d, a, b, m, 0))
    (hq : (!s.toList.isEmpty) = true) (hr : s.toList.isEmpty = false) (hq' : (!s'.toList.isEmpty) = true) (hr' : s'.toList.isEmpty = false) (hxx : (x == x') = false) (hss : (s.toList == s'.toList) = false) (hne : (m == m') = false) (w : World) (hL : Isa.Laid w) :
    Calls Tryd.prog 4 #[.agg #[.int .i64 op, .int .u8 d, .int .u8 a, .int .u8 b, .int .i32 m], .agg #[.int .i64 op, .int .u8 d, .int .u8 a, .int .u8 b, .int .i32 m']] w fun e w' => e = .returned (.bool true) ∧ Below w.heap.size w w' := by
  have hE := Encode_calls op d a b m hd ha hb hm
  have hE' := Encode_calls op d a b m' hd ha hb hm'
  have hT := Text_calls op d a b m hd ha hb hm
  have hT' := Text_calls op d a b m' hd ha hb hm'
  have hD := Decode_calls x hx0.1 hx0.2
  rw [hx] at hE
  rw [hx'] at hE'
  rw [hs] at hT
  rw [hs'] at hT'
  rw [hdec] at hD
  clear hx hs hdec hx' hs'
  go_enter Tryd.func4, Tryd.ntmps4
  go_wp2_with fail
  refine (known_calls _ ((hL.alloc _).alloc _)).mono ?_
  rintro e w1 ⟨rfl, hb1⟩
  have hL1 := ((hL.alloc _).alloc _).below hb1
  have k1 := blk_keep hb1 (blk_alloc _ (heap_alloc_new _ _))
  have j1 := blk_keep hb1 (heap_alloc2_new _ _ _)
  have HB1 := Lib.hid (below_next (below_alloc' (below_alloc' (Below.refl _ _) _) _) hb1)
  obtain ⟨d1, f1⟩ := blk_facts k1
  obtain ⟨c1, g1⟩ := blk_facts j1
  go_wp2_with fail
  refine (hE _ hL1).mono ?_
  rintro e w2 ⟨rfl, hb2⟩
  have hL2 := hL1.below hb2
  have k2 := blk_keep hb2 k1
  have j2 := blk_keep hb2 j1
  have HB2 := Lib.hid (below_next HB1.out hb2)
  clear d1 f1 c1 g1
  obtain ⟨d2, f2⟩ := blk_facts k2
  obtain ⟨c2, g2⟩ := blk_facts j2
  go_wp2_with fail
  refine (hE' _ hL2).mono ?_
  rintro e w3 ⟨rfl, hb3⟩
  have hL3 := hL2.below hb3
  have k3 := blk_keep hb3 k2
  have j3 := blk_keep hb3 j2
  have HB3 := Lib.hid (below_next HB2.out hb3)
  clear d2 f2 c2 g2
  obtain ⟨d3, f3⟩ := blk_facts k3
  obtain ⟨c3, g3⟩ := blk_facts j3
  go_wp2_with fail
  refine (hT _ hL3).mono ?_
  rintro e w4 ⟨rfl, hb4⟩
  have hL4 := hL3.below hb4
  have k4 := blk_keep hb4 k3
  have j4 := blk_keep hb4 j3
  have HB4 := Lib.hid (below_next HB3.out hb4)
  clear d3 f3 c3 g3
  obtain ⟨d4, f4⟩ := blk_facts k4
  obtain ⟨c4, g4⟩ := blk_facts j4
  go_wp2_with fail
  refine (hT' _ hL4).mono ?_
  rintro e w5 ⟨rfl, hb5⟩
  have hL5 := hL4.below hb5
  have k5 := blk_keep hb5 k4
  have j5 := blk_keep hb5 j4
  have HB5 := Lib.hid (below_next HB4.out hb5)
  clear d4 f4 c4 g4
  obtain ⟨d5, f5⟩ := blk_facts k5
  obtain ⟨c5, g5⟩ := blk_facts j5
  have z5 := blk_size k5
  have y5 := blk_size j5
  go_wp2_with fail
  refine (hD _ hL5).mono ?_
  rintro e w6 ⟨rfl, hb6⟩
  have k6 := blk_keep hb6 k5
  have j6 := blk_keep hb6 j5
  have HB6 := Lib.hid (below_next HB5.out hb6)
  clear d5 f5 c5 g5
  obtain ⟨d6, f6⟩ := blk_facts k6
  obtain ⟨c6, g6⟩ := blk_facts j6
  have z6 := blk_size k6
  have y6 := blk_size j6
  have z6k : ∀ k, w.heap.size < w6.heap.size + k := fun k => by omega
  have y6k : ∀ k, w.heap.size + 1 < w6.heap.size + k := fun k => by omega
  go_wp2_with fail
  go_ret
  exact ⟨rfl, below_alloc' HB6.out _⟩
set_option maxHeartbeats 8000000 in
set_option maxRecDepth 100000 in
theorem isaOne_ok5 (op d a b m  x : Int) (hd : 0 ≤ d ∧ d ≤ 255) (ha : 0 ≤ a ∧ a ≤ 255) (hb : 0 ≤ b ∧ b ≤ 255) (hm : -2147483648 ≤ m ∧ m ≤ 2147483647)  (s : ByteArray) (hx0 : 0 ≤ x ∧ x ≤ 4294967295) (hx : Isa.enc op d a b m = (x, 0)) (hs : Isa.text op d a b m = s) (hdec : Isa.dec x = (op, d, a, b, m, 0))
    (hq : (!s.toList.isEmpty) = true) (hr : s.toList.isEmpty = false)  (w : World) (hL : Isa.Laid w) :
    Calls Tryd.prog 4 #[.agg #[.int .i64 op, .int .u8 d, .int .u8 a, .int .u8 b, .int .i32 m], .agg #[.int .i64 op, .int .u8 d, .int .u8 a, .int .u8 b, .int .i32 m]] w fun e w' => e = .returned (.bool true) ∧ Below w.heap.size w w' := by
  have hE := Encode_calls op d a b m hd ha hb hm
  have hE' := Encode_calls op d a b m hd ha hb hm
  have hT := Text_calls op d a b m hd ha hb hm
  have hT' := Text_calls op d a b m hd ha hb hm
  have hD := Decode_calls x hx0.1 hx0.2
  rw [hx] at hE
  rw [hx] at hE'
  rw [hs] at hT
  rw [hs] at hT'
  rw [hdec] at hD
  clear hx hs hdec
  go_enter Tryd.func4, Tryd.ntmps4
  go_wp2_with fail
  refine (known_calls _ ((hL.alloc _).alloc _)).mono ?_
  rintro e w1 ⟨rfl, hb1⟩
  have hL1 := ((hL.alloc _).alloc _).below hb1
  have k1 := blk_keep hb1 (blk_alloc _ (heap_alloc_new _ _))
  have j1 := blk_keep hb1 (heap_alloc2_new _ _ _)
  have HB1 := Lib.hid (below_next (below_alloc' (below_alloc' (Below.refl _ _) _) _) hb1)
  obtain ⟨d1, f1⟩ := blk_facts k1
  obtain ⟨c1, g1⟩ := blk_facts j1
  go_wp2_with fail
  refine (hE _ hL1).mono ?_
  rintro e w2 ⟨rfl, hb2⟩
  have hL2 := hL1.below hb2
  have k2 := blk_keep hb2 k1
  have j2 := blk_keep hb2 j1
  have HB2 := Lib.hid (below_next HB1.out hb2)
  clear d1 f1 c1 g1
  obtain ⟨d2, f2⟩ := blk_facts k2
  obtain ⟨c2, g2⟩ := blk_facts j2
  go_wp2_with fail
  refine (hE' _ hL2).mono ?_
  rintro e w3 ⟨rfl, hb3⟩
  have hL3 := hL2.below hb3
  have k3 := blk_keep hb3 k2
  have j3 := blk_keep hb3 j2
  have HB3 := Lib.hid (below_next HB2.out hb3)
  clear d2 f2 c2 g2
  obtain ⟨d3, f3⟩ := blk_facts k3
  obtain ⟨c3, g3⟩ := blk_facts j3
  go_wp2_with fail
  refine (hT _ hL3).mono ?_
  rintro e w4 ⟨rfl, hb4⟩
  have hL4 := hL3.below hb4
  have k4 := blk_keep hb4 k3
  have j4 := blk_keep hb4 j3
  have HB4 := Lib.hid (below_next HB3.out hb4)
  clear d3 f3 c3 g3
  obtain ⟨d4, f4⟩ := blk_facts k4
  obtain ⟨c4, g4⟩ := blk_facts j4
  go_wp2_with fail
  refine (hT' _ hL4).mono ?_
  rintro e w5 ⟨rfl, hb5⟩
  have hL5 := hL4.below hb5
  have k5 := blk_keep hb5 k4
  have j5 := blk_keep hb5 j4
  have HB5 := Lib.hid (below_next HB4.out hb5)
  clear d4 f4 c4 g4
  obtain ⟨d5, f5⟩ := blk_facts k5
  obtain ⟨c5, g5⟩ := blk_facts j5
  have z5 := blk_size k5
  have y5 := blk_size j5
  go_wp2_with fail
  refine (hD _ hL5).mono ?_
  rintro e w6 ⟨rfl, hb6⟩
  have k6 := blk_keep hb6 k5
  have j6 := blk_keep hb6 j5
  have HB6 := Lib.hid (below_next HB5.out hb6)
  clear d5 f5 c5 g5
  obtain ⟨d6, f6⟩ := blk_facts k6
  obtain ⟨c6, g6⟩ := blk_facts j6
  have z6 := blk_size k6
  have y6 := blk_size j6
  have z6k : ∀ k, w.heap.size < w6.heap.size + k := fun k => by omega
  have y6k : ∀ k, w.heap.size + 1 < w6.heap.size + k := fun k => by omega
  go_wp2_with fail
  go_ret
  exact ⟨rfl, below_alloc' HB6.out _⟩
theorem beq_f {a b : Int} (h : a ≠ b) : (a == b) = false := by simpa using h
theorem bne_t {a : Int} (h : a ≠ 0) : (a != 0) = true := by simpa using h
theorem empty_q : (!(⟨#[]⟩ : ByteArray).toList.isEmpty) = false := by rw [ByteArray.toList_eq]; rfl
theorem empty_r : (⟨#[]⟩ : ByteArray).toList.isEmpty = true := by rw [ByteArray.toList_eq]; rfl
theorem isaOne_walk (op d a b m op' d' a' b' m' : Int) (hd : 0 ≤ d ∧ d ≤ 255) (ha : 0 ≤ a ∧ a ≤ 255) (hb : 0 ≤ b ∧ b ≤ 255) (hm : -2147483648 ≤ m ∧ m ≤ 2147483647) (hd' : 0 ≤ d' ∧ d' ≤ 255) (ha' : 0 ≤ a' ∧ a' ≤ 255) (hb' : 0 ≤ b' ∧ b' ≤ 255) (hm' : -2147483648 ≤ m' ∧ m' ≤ 2147483647) (w : World) (hL : Isa.Laid w) :
    Calls Tryd.prog 4 #[.agg #[.int .i64 op, .int .u8 d, .int .u8 a, .int .u8 b, .int .i32 m], .agg #[.int .i64 op', .int .u8 d', .int .u8 a', .int .u8 b', .int .i32 m']] w fun e w' => e = .returned (.bool true) ∧ Below w.heap.size w w' := by
  by_cases h : (Isa.enc op d a b m).2 = 0
  · have q := Isa.text_full h
    have r : (Isa.text op d a b m).toList.isEmpty = false := by simpa using q
    have hx : Isa.enc op d a b m = ((Isa.enc op d a b m).1, 0) := by rw [← h]
    by_cases h' : (Isa.enc op' d' a' b' m').2 = 0
    · have q' := Isa.text_full h'
      have r' : (Isa.text op' d' a' b' m').toList.isEmpty = false := by simpa using q'
      have hx' : Isa.enc op' d' a' b' m' = ((Isa.enc op' d' a' b' m').1, 0) := by rw [← h']
      obtain ⟨x0, x1, hdec⟩ := Isa.dec_enc hd.1 ha.1 hb.1 hm h
      obtain ⟨x0', x1', hdec'⟩ := Isa.dec_enc hd'.1 ha'.1 hb'.1 hm' h'
      have hxx : ¬ (op = op' ∧ d = d' ∧ a = a' ∧ b = b' ∧ m = m') → ((Isa.enc op d a b m).1 == (Isa.enc op' d' a' b' m').1) = false := by
        intro hne
        refine beq_f (fun he => hne ?_)
        rw [he, hdec'] at hdec
        simp only [Prod.mk.injEq] at hdec
        exact ⟨hdec.1.symm, hdec.2.1.symm, hdec.2.2.1.symm, hdec.2.2.2.1.symm, hdec.2.2.2.2.1.symm⟩
      have hss : ¬ (op = op' ∧ d = d' ∧ a = a' ∧ b = b' ∧ m = m') → ((Isa.text op d a b m).toList == (Isa.text op' d' a' b' m').toList) = false := by
        intro hne
        have : ¬ (Isa.text op d a b m).toList = (Isa.text op' d' a' b' m').toList := fun he => hne (Isa.text_inj h h' hd.1 ha.1 hb.1 hd'.1 ha'.1 hb'.1 (bytes_eq he))
        simpa using this
      by_cases e0 : op = op'
      · subst e0
        by_cases e1 : d = d'
        · subst e1
          by_cases e2 : a = a'
          · subst e2
            by_cases e3 : b = b'
            · subst e3
              by_cases e4 : m = m'
              · subst e4
                exact isaOne_ok5 op d a b m _ hd ha hb hm _ ⟨x0, x1⟩ hx rfl hdec q r w hL
              · have hne : ¬ (op = op ∧ d = d ∧ a = a ∧ b = b ∧ m = m') := fun hh => e4 hh.2.2.2.2
                exact isaOne_ok4 op d a b m m' _ _ hd ha hb hm hm' _ _ ⟨x0, x1⟩ hx hx' rfl rfl hdec q r q' r' (hxx hne) (hss hne) (beq_f e4) w hL
            · have hne : ¬ (op = op ∧ d = d ∧ a = a ∧ b = b' ∧ m = m') := fun hh => e3 hh.2.2.2.1
              exact isaOne_ok3 op d a b m b' m' _ _ hd ha hb hm hb' hm' _ _ ⟨x0, x1⟩ hx hx' rfl rfl hdec q r q' r' (hxx hne) (hss hne) (beq_f e3) w hL
          · have hne : ¬ (op = op ∧ d = d ∧ a = a' ∧ b = b' ∧ m = m') := fun hh => e2 hh.2.2.1
            exact isaOne_ok2 op d a b m a' b' m' _ _ hd ha hb hm ha' hb' hm' _ _ ⟨x0, x1⟩ hx hx' rfl rfl hdec q r q' r' (hxx hne) (hss hne) (beq_f e2) w hL
        · have hne : ¬ (op = op ∧ d = d' ∧ a = a' ∧ b = b' ∧ m = m') := fun hh => e1 hh.2.1
          exact isaOne_ok1 op d a b m d' a' b' m' _ _ hd ha hb hm hd' ha' hb' hm' _ _ ⟨x0, x1⟩ hx hx' rfl rfl hdec q r q' r' (hxx hne) (hss hne) (beq_f e1) w hL
      · have hne : ¬ (op = op' ∧ d = d' ∧ a = a' ∧ b = b' ∧ m = m') := fun hh => e0 hh.1
        exact isaOne_ok0 op d a b m op' d' a' b' m' _ _ hd ha hb hm hd' ha' hb' hm' _ _ ⟨x0, x1⟩ hx hx' rfl rfl hdec q r q' r' (hxx hne) (hss hne) (beq_f e0) w hL
    · have q' := Isa.text_none' h'
      exact isaOne_err2 op d a b m op' d' a' b' m' (Isa.enc op d a b m).1 (Isa.enc op' d' a' b' m').1 (Isa.enc op d a b m).2 (Isa.enc op' d' a' b' m').2 hd ha hb hm hd' ha' hb' hm' _ ⟨#[]⟩ rfl rfl rfl q' (by rw [h]; rfl) (beq_f h') (by rw [h]; rfl) (bne_t h') q empty_q r empty_r w hL
  · have q := Isa.text_none' h
    by_cases h' : (Isa.enc op' d' a' b' m').2 = 0
    · have q' := Isa.text_full h'
      have r' : (Isa.text op' d' a' b' m').toList.isEmpty = false := by simpa using q'
      exact isaOne_err1 op d a b m op' d' a' b' m' (Isa.enc op d a b m).1 (Isa.enc op' d' a' b' m').1 (Isa.enc op d a b m).2 (Isa.enc op' d' a' b' m').2 hd ha hb hm hd' ha' hb' hm' ⟨#[]⟩ _ rfl rfl q rfl (beq_f h) (by rw [h']; rfl) (bne_t h) (by rw [h']; rfl) empty_q q' empty_r r' w hL
    · have q' := Isa.text_none' h'
      exact isaOne_err0 op d a b m op' d' a' b' m' (Isa.enc op d a b m).1 (Isa.enc op' d' a' b' m').1 (Isa.enc op d a b m).2 (Isa.enc op' d' a' b' m').2 hd ha hb hm hd' ha' hb' hm' ⟨#[]⟩ ⟨#[]⟩ rfl rfl q q' (beq_f h) (beq_f h') (bne_t h) (bne_t h') empty_q empty_q empty_r empty_r w hL
end Go.Proofs.YtedjkbekhhffeaaDoor
