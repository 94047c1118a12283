/- The contracts of isa.Form, isa.Name, isa.Named. The contracts of strconv.Itoa and isa.register: texts of numbers. -/
import Derived.Test.YtedjkbekhhffeaaDoorIsaBase
import Derived.Test.YtedjkbekhhffeaaDoorShelf
import Derived.Lib.ItoaLen
namespace Go.Proofs.YtedjkbekhhffeaaDoor
open Go.RowKit
set_option linter.unusedSimpArgs false
set_option linter.unusedVariables false
def Isa.ix (op : Int) : Nat := if 1 ≤ op ∧ op < 49 then op.toNat else 0
def Isa.isOp (op : Int) : Bool := decide (1 ≤ op) && decide (op < 49)
theorem of_any (op : Int) (w : World) : Calls Tryd.prog 24 #[.int .i64 op] w fun e w' => e = .returned (.tuple #[.agg #[.string (Isa.nameOf (Isa.ix op)), .int .i64 (Isa.formOf (Isa.ix op) : Int), .int .i64 (Isa.numOf (Isa.ix op) : Int), .int .i64 (Isa.shapeOf (Isa.ix op) : Int)], .bool (Isa.isOp op)]) ∧ Below w.heap.size w w' := by
  by_cases h : 1 ≤ op ∧ op < 49
  · obtain ⟨n, rfl⟩ : ∃ n : Nat, op = (n : Int) := ⟨op.toNat, by omega⟩
    have e1 : Isa.ix (n : Int) = n := by unfold Isa.ix; rw [if_pos h]; rfl
    have e2 : Isa.isOp (n : Int) = true := by unfold Isa.isOp; simp; omega
    rw [e1, e2]
    exact of_some n (by omega) (by omega) w
  · have e1 : Isa.ix op = 0 := by unfold Isa.ix; rw [if_neg h]
    have e2 : Isa.isOp op = false := by unfold Isa.isOp; simp; omega
    rw [e1, e2]
    exact of_none op (by omega) w
set_option maxHeartbeats 1000000 in
set_option maxRecDepth 100000 in
theorem Form_calls (op : Int) (w : World) : Calls Tryd.prog 14 #[.int .i64 op] w fun e w' => e = .returned (.int .i64 (Isa.formOf (Isa.ix op) : Int)) ∧ Below w.heap.size w w' := by
  go_enter Tryd.func14, Tryd.ntmps14
  go_wp2_with fail
  refine (of_any op _).mono ?_
  rintro e w1 ⟨rfl, hb1⟩
  have HB1 := Lib.hid (below_next (Below.refl _ _) hb1)
  go_wp2_with fail
  go_ret
  exact ⟨rfl, below_alloc' HB1.out _⟩
set_option maxHeartbeats 1000000 in
set_option maxRecDepth 100000 in
theorem Name_calls (op : Int) (w : World) : Calls Tryd.prog 15 #[.int .i64 op] w fun e w' => e = .returned (.string (Isa.nameOf (Isa.ix op))) ∧ Below w.heap.size w w' := by
  go_enter Tryd.func15, Tryd.ntmps15
  go_wp2_with fail
  refine (of_any op _).mono ?_
  rintro e w1 ⟨rfl, hb1⟩
  have HB1 := Lib.hid (below_next (Below.refl _ _) hb1)
  go_wp2_with fail
  go_ret
  exact ⟨rfl, below_alloc' HB1.out _⟩
theorem bytes_eq {s t : ByteArray} (h : s.toList = t.toList) : s = t := by
  rw [ByteArray.toList_eq, ByteArray.toList_eq] at h
  cases s; cases t
  simp only at h
  rw [Array.toList_inj.1 h]
theorem bytes_empty {s : ByteArray} (h : (!s.toList.isEmpty) = false) : s = ⟨#[]⟩ := by
  have h2 : s.toList.isEmpty = true := by simpa using h
  exact bytes_eq (by rw [List.isEmpty_iff.1 h2, ByteArray.toList_eq])
theorem bytes_full {s : ByteArray} (h : (!s.toList.isEmpty) = true) : s ≠ ⟨#[]⟩ := by
  rintro rfl
  rw [ByteArray.toList_eq] at h
  exact absurd h (by decide)
def Isa.findFrom (s : ByteArray) : Nat → Nat → Int × Bool
  | 0, _ => (0, false)
  | r + 1, i => if Isa.nameOf i = s ∧ s ≠ ⟨#[]⟩ then ((i : Int), true) else Isa.findFrom s r (i + 1)
def Isa.named (s : ByteArray) : Int × Bool := Isa.findFrom s 49 0
def Isa.NamedPost (r : Int × Bool) (w : World) (e : Ending) (w' : World) : Prop := e = .returned (.tuple #[.int .i64 r.1, .bool r.2]) ∧ Below w.heap.size w w'
set_option maxHeartbeats 1000000 in
set_option maxRecDepth 100000 in
theorem Named_calls (s : ByteArray) (w : World) : Calls Tryd.prog 16 #[.string s] w (Isa.NamedPost (Isa.named s) w) := by
  go_enter Tryd.func16, Tryd.ntmps16
  go_wp2_with fail
  refine (ops_calls _).mono ?_
  rintro e w1 ⟨rfl, hb1⟩
  have HB1 := Lib.hid (below_next (Below.refl _ _) hb1)
  go_wp2_with fail
  go_loopw [7] (fun v wr => ∃ k : Nat, k ≤ 49 ∧ v = .int .i64 (k : Int) ∧ Hid (Isa.findFrom s (49 - k) k = Isa.named s) ∧ Hid (Below w.heap.size w wr)) (fun v _ => 49 - (intOf v).toNat)
  case atStart => exact ⟨0, by omega, rfl, Lib.hid rfl, HB1⟩
  case round =>
    obtain ⟨k, hk, rfl, HK, HB⟩ := hrel
    by_cases hlt : k < 49
    · have hx : ∀ W : World, (Instr.index 77 (.agg Isa.allCells) (.int .i64 (k : Int))).run Tryd.prog W = .ok (.agg #[.string (Isa.nameOf k), .int .i64 (Isa.formOf k : Int), .int .i64 (Isa.numOf k : Int), .int .i64 (Isa.shapeOf k : Int)]) W := fun W => run_index_ops k hlt W
      have HF := Lib.hid (show Isa.findFrom s (49 - k) k = if Isa.nameOf k = s ∧ s ≠ ⟨#[]⟩ then ((k : Int), true) else Isa.findFrom s (49 - (k + 1)) (k + 1) by
        rw [show 49 - k = (49 - (k + 1)) + 1 by omega]; rfl)
      go_wp2_with fail
      · have e1 : (Isa.nameOf k).toList = s.toList := by assumption
        have e2 : (!s.toList.isEmpty) = true := by assumption
        have er : Isa.named s = ((k : Int), true) := by rw [← HK.out, HF.out, if_pos ⟨bytes_eq e1, bytes_full e2⟩]
        rw [er]
        go_ret2
        exact ⟨rfl, below_alloc' HB.out _⟩
      · have e2 : (!s.toList.isEmpty) = false := by assumption
        have er : Isa.findFrom s (49 - (k + 1)) (k + 1) = Isa.named s := by rw [← HK.out, HF.out, if_neg (fun hh => hh.2 (bytes_empty e2))]
        go_roundw
        case rel => exact ⟨k + 1, by omega, by go_num, Lib.hid er, Lib.hid (below_alloc' HB.out _)⟩
        case measure => simp [intOf]; omega
      · have e1 : ¬ (Isa.nameOf k).toList = s.toList := by assumption
        have er : Isa.findFrom s (49 - (k + 1)) (k + 1) = Isa.named s := by rw [← HK.out, HF.out, if_neg (fun hh => e1 (by rw [hh.1]))]
        go_roundw
        case rel => exact ⟨k + 1, by omega, by go_num, Lib.hid er, Lib.hid (below_alloc' HB.out _)⟩
        case measure => simp [intOf]; omega
    · have e : k = 49 := by omega
      subst e
      have er : Isa.named s = (0, false) := by rw [← HK.out]; rfl
      go_wp2_with fail
      rw [er]
      go_ret2
      exact ⟨rfl, HB.out⟩
end Go.Proofs.YtedjkbekhhffeaaDoor
namespace Go.Proofs.YtedjkbekhhffeaaDoor
open Go.RowKit
set_option linter.unusedSimpArgs false
set_option linter.unusedVariables false
/-- A number's text; a register's. -/
def Isa.num (n : Int) : ByteArray := ⟨(Lib.itoa n).toArray⟩
def Isa.reg (n : Int) : ByteArray := ⟨(114 :: Lib.itoa n).toArray⟩
theorem Isa.num_size (n : Int) (h0 : -9223372036854775808 ≤ n) (h1 : n ≤ 9223372036854775807) : (Isa.num n).size ≤ 21 := by
  have := Lib.itoa_length_le n h0 h1
  simpa [Isa.num, ByteArray.size] using this
theorem Isa.reg_size (n : Int) (h0 : -9223372036854775808 ≤ n) (h1 : n ≤ 9223372036854775807) : (Isa.reg n).size ≤ 22 := by
  have := Lib.itoa_length_le n h0 h1
  simpa [Isa.reg, ByteArray.size] using this
theorem grow_below (w : World) (k : Nat) (os : Array Obj) : Below w.heap.size w (Sort.grow (w.drewN k) os) :=
  ⟨rfl, rfl, rfl, by simp [Sort.grow, World.drewN], fun g h => by
    show (w.heap ++ os)[g]? = w.heap[g]?
    rw [Array.getElem?_append_left h]⟩
theorem Itoa_calls (n : Int) (h0 : -9223372036854775808 ≤ n) (h1 : n ≤ 9223372036854775807) (w : World) (hL : Isa.Laid w) : Calls Tryd.prog 30 #[.int .i64 n] w fun e w' => e = .returned (.string (Isa.num n)) ∧ Below w.heap.size w w' := by
  refine (Tryd.strconv_Itoa n h0 h1 w (hL.tabIs _ (by kernel_rfl))).mono ?_
  rintro e w' ⟨rfl, k, os, rfl⟩
  exact ⟨rfl, grow_below w k os⟩
theorem Itoa_small (n : Nat) (h : n < 100) (w : World) : Calls Tryd.prog 30 #[.int .i64 (n : Int)] w fun e w' => e = .returned (.string (Isa.num (n : Int))) ∧ w' = w := by
  have e : Isa.num (n : Int) = ⟨(Lib.decDigits n).toArray⟩ := by unfold Isa.num; rw [Lib.itoa_nonneg]
  rw [e]
  exact Tryd.strconv_Itoa_small n h w
set_option maxHeartbeats 1000000 in
set_option maxRecDepth 100000 in
theorem reg_calls (n : Nat) (h : n < 100) (w : World) : Calls Tryd.prog 31 #[.int .u8 (n : Int)] w fun e w' => e = .returned (.string (Isa.reg (n : Int))) ∧ w' = w := by
  have hn : IntKind.i64.wrap (n : Int) = (n : Int) := IntWalk.i64_in _ (by omega)
  have hs := Isa.num_size (n : Int) (by omega) (by omega)
  have hr : (⟨#[114]⟩ : ByteArray) ++ Isa.num (n : Int) = Isa.reg (n : Int) := by
    apply ByteArray.ext
    simp [Isa.num, Isa.reg, ByteArray.data_append]
  go_enter Tryd.func31, Tryd.ntmps31
  go_wp2_with fail
  refine (Itoa_small n h _).mono ?_
  rintro e w' ⟨rfl, rfl⟩
  go_wp2_with fail
  go_ret
  exact ⟨rfl, rfl⟩
end Go.Proofs.YtedjkbekhhffeaaDoor
