/- IsaUses: the walk of the law's body, and the plain facts that it asks for. -/
import Derived.Test.YtedjkbekhhffeaaDoorIsaTop
import Derived.Test.YtedjkbekhhffeaaDoorIsaUses
namespace Go.Proofs.YtedjkbekhhffeaaDoor
open Go.RowKit
set_option linter.unusedSimpArgs false
set_option linter.unusedVariables false
set_option maxHeartbeats 4000000 in
set_option maxRecDepth 100000 in
theorem isaUses_none (op d a b imm : Int) (hd : 0 ≤ d ∧ d ≤ 255) (ha : 0 ≤ a ∧ a ≤ 255) (hb : 0 ≤ b ∧ b ≤ 255) (hm : -2147483648 ≤ imm ∧ imm ≤ 2147483647) (hE : (Isa.enc op d a b imm).2 ≠ 0) (w : World) (hL : Isa.Laid w) :
    Calls Tryd.prog 8 #[.agg #[.int .i64 op, .int .u8 d, .int .u8 a, .int .u8 b, .int .i32 imm]] w fun e w' => e = .returned (.bool true) ∧ Below w.heap.size w w' := by
  have hU := Uses_calls op d a b imm hd ha hb hm
  have hC := Encode_calls op d a b imm hd ha hb hm
  rw [show Isa.uses op d a b imm = (0, 0) from if_pos hE] at hU
  have hq : ((Isa.enc op d a b imm).2 == 0) = false := by simpa using hE
  clear hE
  go_enter Tryd.func8, Tryd.ntmps8
  go_wp2_with fail
  refine (known_calls _ (hL.alloc _)).mono ?_
  rintro e w1 ⟨rfl, hb1⟩
  have hL1 := (hL.alloc _).below hb1
  have k1 := blk_keep hb1 (heap_alloc_new _ _)
  have HB1 := Lib.hid (below_next (below_alloc' (Below.refl _ _) _) hb1)
  obtain ⟨d1, f1⟩ := blk_facts k1
  go_wp2_with fail
  refine (hU _ hL1).mono ?_
  rintro e w2 ⟨rfl, hb2⟩
  have hL2 := hL1.below hb2
  have k2 := blk_keep hb2 k1
  have HB2 := Lib.hid (below_next HB1.out hb2)
  clear d1 f1
  obtain ⟨d2, f2⟩ := blk_facts k2
  go_wp2_with fail
  refine (hC _ hL2).mono ?_
  rintro e w3 ⟨rfl, hb3⟩
  have k3 := blk_keep hb3 k2
  have HB3 := Lib.hid (below_next HB2.out hb3)
  clear d2 f2
  obtain ⟨d3, f3⟩ := blk_facts k3
  go_wp2_with fail
  go_ret
  exact ⟨rfl, HB3.out⟩
set_option maxHeartbeats 4000000 in
set_option maxRecDepth 100000 in
theorem isaUses_hcall (d a b imm : Int) (hd : 0 ≤ d ∧ d ≤ 255) (ha : 0 ≤ a ∧ a ≤ 255) (hb : 0 ≤ b ∧ b ≤ 255) (hm : -2147483648 ≤ imm ∧ imm ≤ 2147483647) (hE : (Isa.enc 40 d a b imm).2 = 0) (w : World) (hL : Isa.Laid w) :
    Calls Tryd.prog 8 #[.agg #[.int .i64 40, .int .u8 d, .int .u8 a, .int .u8 b, .int .i32 imm]] w fun e w' => e = .returned (.bool true) ∧ Below w.heap.size w w' := by
  have hU := Uses_calls 40 d a b imm hd ha hb hm
  have hC := Encode_calls 40 d a b imm hd ha hb hm
  rw [show Isa.uses 40 d a b imm = (126, 14) by unfold Isa.uses; rw [if_neg (by simpa using hE), if_pos rfl]] at hU
  rw [hE] at hC
  clear hE
  go_enter Tryd.func8, Tryd.ntmps8
  go_wp2_with fail
  refine (known_calls _ (hL.alloc _)).mono ?_
  rintro e w1 ⟨rfl, hb1⟩
  have hL1 := (hL.alloc _).below hb1
  have k1 := blk_keep hb1 (heap_alloc_new _ _)
  have HB1 := Lib.hid (below_next (below_alloc' (Below.refl _ _) _) hb1)
  obtain ⟨d1, f1⟩ := blk_facts k1
  go_wp2_with fail
  refine (hU _ hL1).mono ?_
  rintro e w2 ⟨rfl, hb2⟩
  have hL2 := hL1.below hb2
  have k2 := blk_keep hb2 k1
  have HB2 := Lib.hid (below_next HB1.out hb2)
  clear d1 f1
  obtain ⟨d2, f2⟩ := blk_facts k2
  go_wp2_with fail
  refine (hC _ hL2).mono ?_
  rintro e w3 ⟨rfl, hb3⟩
  have k3 := blk_keep hb3 k2
  have HB3 := Lib.hid (below_next HB2.out hb3)
  clear d2 f2
  obtain ⟨d3, f3⟩ := blk_facts k3
  go_wp2_with fail
  go_ret
  exact ⟨rfl, HB3.out⟩
set_option maxHeartbeats 4000000 in
set_option maxRecDepth 100000 in
theorem isaUses_yes (op : Int) (d a b : Nat) (imm : Int) (hd : d ≤ 15) (ha : a ≤ 15) (hb : b ≤ 15) (hm : -2147483648 ≤ imm ∧ imm ≤ 2147483647) (hE : (Isa.enc op (d : Int) (a : Int) (b : Int) imm).2 = 0) (hop : op ≠ 40)
    (r s : Int) (hU0 : Isa.uses op (d : Int) (a : Int) (b : Int) imm = (r, s)) (hr0 : 0 ≤ r) (hr1 : r ≤ 65535) (hs0 : 0 ≤ s) (hs1 : s ≤ 65535) (hr2 : r % 2 = 0) (hs2 : s % 2 = 0)
    (hr3 : bits BinOp.or IntKind.u16 r (bits BinOp.or IntKind.u16 (IntKind.u16.wrap (2 ^ a)) (IntKind.u16.wrap (2 ^ b))) = bits BinOp.or IntKind.u16 (IntKind.u16.wrap (2 ^ a)) (IntKind.u16.wrap (2 ^ b))) (hs3 : bits BinOp.or IntKind.u16 s (IntKind.u16.wrap (2 ^ d)) = IntKind.u16.wrap (2 ^ d)) (w : World) (hL : Isa.Laid w) :
    Calls Tryd.prog 8 #[.agg #[.int .i64 op, .int .u8 (d : Int), .int .u8 (a : Int), .int .u8 (b : Int), .int .i32 imm]] w fun e w' => e = .returned (.bool true) ∧ Below w.heap.size w w' := by
  have hU := Uses_calls op (d : Int) (a : Int) (b : Int) imm (by omega) (by omega) (by omega) hm
  have hC := Encode_calls op (d : Int) (a : Int) (b : Int) imm (by omega) (by omega) (by omega) hm
  rw [hU0] at hU
  rw [hE] at hC
  have hq : (op == 40) = false := by simpa using hop
  clear hE hop hU0
  go_enter Tryd.func8, Tryd.ntmps8
  go_wp2_with fail
  refine (known_calls _ (hL.alloc _)).mono ?_
  rintro e w1 ⟨rfl, hb1⟩
  have hL1 := (hL.alloc _).below hb1
  have k1 := blk_keep hb1 (heap_alloc_new _ _)
  have HB1 := Lib.hid (below_next (below_alloc' (Below.refl _ _) _) hb1)
  obtain ⟨d1, f1⟩ := blk_facts k1
  go_wp2_with fail
  refine (hU _ hL1).mono ?_
  rintro e w2 ⟨rfl, hb2⟩
  have hL2 := hL1.below hb2
  have k2 := blk_keep hb2 k1
  have HB2 := Lib.hid (below_next HB1.out hb2)
  clear d1 f1
  obtain ⟨d2, f2⟩ := blk_facts k2
  go_wp2_with fail
  refine (hC _ hL2).mono ?_
  rintro e w3 ⟨rfl, hb3⟩
  have k3 := blk_keep hb3 k2
  have HB3 := Lib.hid (below_next HB2.out hb3)
  clear d2 f2
  obtain ⟨d3, f3⟩ := blk_facts k3
  go_wp2_with fail
  go_ret
  exact ⟨rfl, HB3.out⟩
def Isa.readF (a b : Nat) : Int := Go.bits BinOp.andNot IntKind.u16 (Go.bits BinOp.or IntKind.u16 (IntKind.u16.wrap (2 ^ a)) (IntKind.u16.wrap (2 ^ b))) 1
def Isa.writeF (d : Nat) : Int := Go.bits BinOp.andNot IntKind.u16 (IntKind.u16.wrap (2 ^ d)) 1
theorem Isa.read_facts : ∀ a b : Fin 16, (0 ≤ Isa.readF a.1 b.1 ∧ Isa.readF a.1 b.1 ≤ 65535) ∧ Isa.readF a.1 b.1 % 2 = 0 ∧
    Go.bits BinOp.or IntKind.u16 (Isa.readF a.1 b.1) (Go.bits BinOp.or IntKind.u16 (IntKind.u16.wrap (2 ^ a.1)) (IntKind.u16.wrap (2 ^ b.1))) = Go.bits BinOp.or IntKind.u16 (IntKind.u16.wrap (2 ^ a.1)) (IntKind.u16.wrap (2 ^ b.1)) := by decide +kernel
theorem Isa.write_facts : ∀ d : Fin 16, (0 ≤ Isa.writeF d.1 ∧ Isa.writeF d.1 ≤ 65535) ∧ Isa.writeF d.1 % 2 = 0 ∧ Go.bits BinOp.or IntKind.u16 (Isa.writeF d.1) (IntKind.u16.wrap (2 ^ d.1)) = IntKind.u16.wrap (2 ^ d.1) := by decide +kernel
theorem isaUses_walk (op d a b imm : Int) (hd : 0 ≤ d ∧ d ≤ 255) (ha : 0 ≤ a ∧ a ≤ 255) (hb : 0 ≤ b ∧ b ≤ 255) (hm : -2147483648 ≤ imm ∧ imm ≤ 2147483647) (w : World) (hL : Isa.Laid w) :
    Calls Tryd.prog 8 #[.agg #[.int .i64 op, .int .u8 d, .int .u8 a, .int .u8 b, .int .i32 imm]] w fun e w' => e = .returned (.bool true) ∧ Below w.heap.size w w' := by
  by_cases hE : (Isa.enc op d a b imm).2 = 0
  · by_cases h : op = 40
    · subst h
      exact isaUses_hcall d a b imm hd ha hb hm hE w hL
    · obtain ⟨ho, b1, b2, b3, hf, _⟩ := Isa.enc_ok hE
      have b1' := (Isa.badAt_le b1).1
      have b2' := (Isa.badAt_le b2).1
      have b3' := (Isa.badAt_le b3).1
      clear b1 b2 b3 hf
      obtain ⟨d, rfl⟩ : ∃ n : Nat, d = (n : Int) := ⟨d.toNat, by omega⟩
      obtain ⟨a, rfl⟩ : ∃ n : Nat, a = (n : Int) := ⟨a.toNat, by omega⟩
      obtain ⟨b, rfl⟩ : ∃ n : Nat, b = (n : Int) := ⟨b.toNat, by omega⟩
      have hU : Isa.uses op (d : Int) (a : Int) (b : Int) imm = (Isa.readF a b, Isa.writeF d) := by
        unfold Isa.uses
        rw [if_neg (fun hh => hh hE), if_neg h]
        rfl
      have f1 := Isa.read_facts ⟨a, by omega⟩ ⟨b, by omega⟩
      have f2 := Isa.write_facts ⟨d, by omega⟩
      exact isaUses_yes op d a b imm (by omega) (by omega) (by omega) hm hE h _ _ hU f1.1.1 f1.1.2 f2.1.1 f2.1.2 f1.2.1 f2.2.1 f1.2.2 f2.2.2 w hL
  · exact isaUses_none op d a b imm hd ha hb hm hE w hL
end Go.Proofs.YtedjkbekhhffeaaDoor
