/- The contract of isa.Uses, at every instruction. -/
import Derived.Test.YtedjkbekhhffeaaDoorIsaTop
namespace Go.Proofs.YtedjkbekhhffeaaDoor
open Go.RowKit
set_option linter.unusedSimpArgs false
set_option linter.unusedVariables false
def Isa.UsesPost (r : Int × Int) (w : World) (e : Ending) (w' : World) : Prop := e = .returned (.tuple #[.int .u16 r.1, .int .u16 r.2]) ∧ Below w.heap.size w w'
def Isa.usesF (d a b : Nat) : Int × Int :=
  (Go.bits BinOp.andNot IntKind.u16 (Go.bits BinOp.or IntKind.u16 (IntKind.u16.wrap (2 ^ a)) (IntKind.u16.wrap (2 ^ b))) 1, Go.bits BinOp.andNot IntKind.u16 (IntKind.u16.wrap (2 ^ d)) 1)
/-- Uses' answer at every instruction. -/
def Isa.uses (op d a b imm : Int) : Int × Int := if (Isa.enc op d a b imm).2 ≠ 0 then (0, 0) else if op = 40 then (126, 14) else Isa.usesF d.toNat a.toNat b.toNat
set_option maxHeartbeats 4000000 in
set_option maxRecDepth 100000 in
theorem uses_good (op : Int) (d a b : Nat) (imm : Int) (hd : d ≤ 15) (ha : a ≤ 15) (hb : b ≤ 15) (him : -2147483648 ≤ imm ∧ imm ≤ 2147483647) (hE : (Isa.enc op (d : Int) (a : Int) (b : Int) imm).2 = 0) (hop : (op == 40) = false) (w : World) (hL : Isa.Laid w) :
    Calls Tryd.prog 21 #[.agg #[.int .i64 op, .int .u8 (d : Int), .int .u8 (a : Int), .int .u8 (b : Int), .int .i32 imm]] w (Isa.UsesPost (Isa.usesF d a b) w) := by
  have HE := Lib.hid hE
  clear hE
  go_enter Tryd.func21, Tryd.ntmps21
  go_wp2_with fail
  refine (Encode_calls op (d : Int) (a : Int) (b : Int) imm (by omega) (by omega) (by omega) him _ (hL.alloc _)).mono ?_
  rintro e w1 ⟨rfl, hb1⟩
  rw [HE.out]
  have k1 := blk_keep hb1 (heap_alloc_new _ _)
  obtain ⟨d1, f1⟩ := blk_facts k1
  have HB1 := Lib.hid (below_next (below_alloc' (Below.refl _ _) _) hb1)
  go_wp2_with fail
  go_quiet (fail)
  go_wp2_with fail
  go_ret2
  exact ⟨rfl, below_drewN' HB1.out _⟩
set_option maxHeartbeats 4000000 in
set_option maxRecDepth 100000 in
theorem uses_hcall (d a b imm : Int) (hd : 0 ≤ d ∧ d ≤ 255) (ha : 0 ≤ a ∧ a ≤ 255) (hb : 0 ≤ b ∧ b ≤ 255) (him : -2147483648 ≤ imm ∧ imm ≤ 2147483647) (hE : (Isa.enc 40 d a b imm).2 = 0) (w : World) (hL : Isa.Laid w) :
    Calls Tryd.prog 21 #[.agg #[.int .i64 40, .int .u8 d, .int .u8 a, .int .u8 b, .int .i32 imm]] w (Isa.UsesPost (126, 14) w) := by
  have HE := Lib.hid hE
  clear hE
  go_enter Tryd.func21, Tryd.ntmps21
  go_wp2_with fail
  refine (Encode_calls 40 d a b imm hd ha hb him _ (hL.alloc _)).mono ?_
  rintro e w1 ⟨rfl, hb1⟩
  rw [HE.out]
  have k1 := blk_keep hb1 (heap_alloc_new _ _)
  obtain ⟨d1, f1⟩ := blk_facts k1
  have HB1 := Lib.hid (below_next (below_alloc' (Below.refl _ _) _) hb1)
  go_wp2_with fail
  go_ret2
  exact ⟨rfl, HB1.out⟩
set_option maxHeartbeats 4000000 in
set_option maxRecDepth 100000 in
theorem uses_none (op d a b imm : Int) (hd : 0 ≤ d ∧ d ≤ 255) (ha : 0 ≤ a ∧ a ≤ 255) (hb : 0 ≤ b ∧ b ≤ 255) (him : -2147483648 ≤ imm ∧ imm ≤ 2147483647) (hE : (Isa.enc op d a b imm).2 ≠ 0) (w : World) (hL : Isa.Laid w) :
    Calls Tryd.prog 21 #[.agg #[.int .i64 op, .int .u8 d, .int .u8 a, .int .u8 b, .int .i32 imm]] w (Isa.UsesPost (0, 0) w) := by
  have hq : ((Isa.enc op d a b imm).2 == 0) = false := by simpa using hE
  clear hE
  go_enter Tryd.func21, Tryd.ntmps21
  go_wp2_with fail
  refine (Encode_calls op d a b imm hd ha hb him _ (hL.alloc _)).mono ?_
  rintro e w1 ⟨rfl, hb1⟩
  have HB1 := Lib.hid (below_next (below_alloc' (Below.refl _ _) _) hb1)
  go_wp2_with fail
  go_ret2
  exact ⟨rfl, HB1.out⟩
/-- THE CONTRACT. -/
theorem Uses_calls (op d a b imm : Int) (hd : 0 ≤ d ∧ d ≤ 255) (ha : 0 ≤ a ∧ a ≤ 255) (hb : 0 ≤ b ∧ b ≤ 255) (him : -2147483648 ≤ imm ∧ imm ≤ 2147483647) (w : World) (hL : Isa.Laid w) :
    Calls Tryd.prog 21 #[.agg #[.int .i64 op, .int .u8 d, .int .u8 a, .int .u8 b, .int .i32 imm]] w (Isa.UsesPost (Isa.uses op d a b imm) w) := by
  unfold Isa.uses
  by_cases hE : (Isa.enc op d a b imm).2 = 0
  · rw [if_neg (by simpa using hE)]
    by_cases h : op = 40
    · subst h
      rw [if_pos rfl]
      exact uses_hcall d a b imm hd ha hb him hE w hL
    · rw [if_neg h]
      obtain ⟨ho, b1, b2, b3, hf, _⟩ := Isa.enc_ok hE
      have b1' := (Isa.badAt_le b1).1
      have b2' := (Isa.badAt_le b2).1
      have b3' := (Isa.badAt_le b3).1
      clear b1 b2 b3 hf
      obtain ⟨d, rfl⟩ : ∃ n : Nat, d = (n : Int) := ⟨d.toNat, by omega⟩
      obtain ⟨a, rfl⟩ : ∃ n : Nat, a = (n : Int) := ⟨a.toNat, by omega⟩
      obtain ⟨b, rfl⟩ : ∃ n : Nat, b = (n : Int) := ⟨b.toNat, by omega⟩
      exact uses_good op d a b imm (by omega) (by omega) (by omega) him hE (by simpa using h) w hL
  · rw [if_pos hE]
    exact uses_none op d a b imm hd ha hb him hE w hL
end Go.Proofs.YtedjkbekhhffeaaDoor
