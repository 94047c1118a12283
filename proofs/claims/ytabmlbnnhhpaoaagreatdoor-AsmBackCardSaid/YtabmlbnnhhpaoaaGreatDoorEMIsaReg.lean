/- What this claim needs of IsaNames, IsaReg, IsaText0. -/
import Derived.Test.YtabmlbnnhhpaoaaGreatDoorEMIsaBase
import Derived.Test.YtabmlbnnhhpaoaaGreatDoorEShelf
import Derived.Lib.ItoaLen
import Derived.Test.YtabmlbnnhhpaoaaGreatDoorEMIsaEncB
import Derived.Test.YtabmlbnnhhpaoaaGreatDoorEWWords
import Derived.Deep.RegionHeld3
set_option linter.unusedSimpArgs false
set_option linter.unusedVariables false
set_option maxHeartbeats 1000000
set_option maxRecDepth 100000
namespace Go.Proofs.YtabmlbnnhhpaoaaGreatDoor
open Go.RowKit
def Isa.ix (op : Int) : Nat := if 1 ≤ op ∧ op < 49 then op.toNat else 0
def Isa.isOp (op : Int) : Bool := decide (1 ≤ op) && decide (op < 49)
theorem of_any (op : Int) (w : World) : Calls Tryz.prog 68 #[.int .i64 op] w fun e w' => e = .returned (.tuple #[.agg #[.string (Isa.nameOf (Isa.ix op)), .int .i64 (Isa.formOf (Isa.ix op) : Int), .int .i64 (Isa.numOf (Isa.ix op) : Int), .int .i64 (Isa.shapeOf (Isa.ix op) : Int)], .bool (Isa.isOp op)]) ∧ Below w.heap.size w w' := by
 by_cases h : 1 ≤ op ∧ op < 49
 · obtain ⟨n, rfl⟩ : ∃ n : Nat, op = (n : Int) := ⟨op.toNat, by omega⟩
   have e1 : Isa.ix (n : Int) = n := by unfold Isa.ix; rw [if_pos h]; rfl
   have e2 : Isa.isOp (n : Int) = true := by unfold Isa.isOp; simp; omega
   rw [e1, e2]
   exact of_some n (by omega) (by omega) w
 · have e1 : Isa.ix op = 0 := by unfold Isa.ix; rw [if_neg h]
   have e2 : Isa.isOp op = false := by unfold Isa.isOp; simp; omega
   rw [e1, e2]
   exact of_none op (by omega) w
theorem Form_calls (op : Int) (w : World) : Calls Tryz.prog 100 #[.int .i64 op] w fun e w' => e = .returned (.int .i64 (Isa.formOf (Isa.ix op) : Int)) ∧ Below w.heap.size w w' := by
 go_enter Tryz.func100, Tryz.ntmps100
 go_wp2_with fail
 refine (of_any op _).mono ?_
 rintro e w1 ⟨rfl, hb1⟩
 have HB1 := Lib.hid (below_next (Below.refl _ _) hb1)
 go_wp2_with fail
 go_ret
 exact ⟨rfl, below_alloc' HB1.out _⟩
theorem bytes_eq {s t : ByteArray} (h : s.toList = t.toList) : s = t := by
 rw [ByteArray.toList_eq, ByteArray.toList_eq] at h
 cases s; cases t
 simp only at h
 rw [Array.toList_inj.1 h]
theorem bytes_empty {s : ByteArray} (h : (!s.toList.isEmpty) = false) : s = ⟨#[]⟩ := by
 have h2 : s.toList.isEmpty = true := by simpa using h
 exact bytes_eq (by rw [List.isEmpty_iff.1 h2, ByteArray.toList_eq])
theorem bytes_full {s : ByteArray} (h : (!s.toList.isEmpty) = true) : s ≠ ⟨#[]⟩ := by
 rintro rfl
 rw [ByteArray.toList_eq] at h
 exact absurd h (by decide)
def Isa.findFrom (s : ByteArray) : Nat → Nat → Int × Bool
 | 0, _ => (0, false)
 | r + 1, i => if Isa.nameOf i = s ∧ s ≠ ⟨#[]⟩ then ((i : Int), true) else Isa.findFrom s r (i + 1)
def Isa.named (s : ByteArray) : Int × Bool := Isa.findFrom s 49 0
def Isa.NamedPost (r : Int × Bool) (w : World) (e : Ending) (w' : World) : Prop := e = .returned (.tuple #[.int .i64 r.1, .bool r.2]) ∧ Below w.heap.size w w'
theorem Named_calls (s : ByteArray) (w : World) : Calls Tryz.prog 56 #[.string s] w (Isa.NamedPost (Isa.named s) w) := by
 go_enter Tryz.func56, Tryz.ntmps56
 go_wp2_with fail
 refine (ops_calls _).mono ?_
 rintro e w1 ⟨rfl, hb1⟩
 have HB1 := Lib.hid (below_next (Below.refl _ _) hb1)
 go_wp2_with fail
 go_loopw [7] (fun v wr => ∃ k : Nat, k ≤ 49 ∧ v = .int .i64 (k : Int) ∧ Hid (Isa.findFrom s (49 - k) k = Isa.named s) ∧ Hid (Below w.heap.size w wr)) (fun v _ => 49 - (intOf v).toNat)
 case atStart => exact ⟨0, by omega, rfl, Lib.hid rfl, HB1⟩
 case round =>
  obtain ⟨k, hk, rfl, HK, HB⟩ := hrel
  by_cases hlt : k < 49
  · have hx : ∀ W : World, (Instr.index 192 (.agg Isa.allCells) (.int .i64 (k : Int))).run Tryz.prog W = .ok (.agg #[.string (Isa.nameOf k), .int .i64 (Isa.formOf k : Int), .int .i64 (Isa.numOf k : Int), .int .i64 (Isa.shapeOf k : Int)]) W := fun W => run_index_ops k hlt W
    have HF := Lib.hid (show Isa.findFrom s (49 - k) k = if Isa.nameOf k = s ∧ s ≠ ⟨#[]⟩ then ((k : Int), true) else Isa.findFrom s (49 - (k + 1)) (k + 1) by
     rw [show 49 - k = (49 - (k + 1)) + 1 by omega]; rfl)
    go_wp2_with fail
    · have e1 : (Isa.nameOf k).toList = s.toList := by assumption
      have e2 : (!s.toList.isEmpty) = true := by assumption
      have er : Isa.named s = ((k : Int), true) := by rw [← HK.out, HF.out, if_pos ⟨bytes_eq e1, bytes_full e2⟩]
      rw [er]
      go_ret2
      exact ⟨rfl, below_alloc' HB.out _⟩
    · have e2 : (!s.toList.isEmpty) = false := by assumption
      have er : Isa.findFrom s (49 - (k + 1)) (k + 1) = Isa.named s := by rw [← HK.out, HF.out, if_neg (fun hh => hh.2 (bytes_empty e2))]
      go_roundw
      case rel => exact ⟨k + 1, by omega, by go_num, Lib.hid er, Lib.hid (below_alloc' HB.out _)⟩
      case measure => simp [intOf]; omega
    · have e1 : ¬ (Isa.nameOf k).toList = s.toList := by assumption
      have er : Isa.findFrom s (49 - (k + 1)) (k + 1) = Isa.named s := by rw [← HK.out, HF.out, if_neg (fun hh => e1 (by rw [hh.1]))]
      go_roundw
      case rel => exact ⟨k + 1, by omega, by go_num, Lib.hid er, Lib.hid (below_alloc' HB.out _)⟩
      case measure => simp [intOf]; omega
  · have e : k = 49 := by omega
    subst e
    have er : Isa.named s = (0, false) := by rw [← HK.out]; rfl
    go_wp2_with fail
    rw [er]
    go_ret2
    exact ⟨rfl, HB.out⟩
end Go.Proofs.YtabmlbnnhhpaoaaGreatDoor
set_option maxHeartbeats 1000000
set_option maxRecDepth 100000
namespace Go.Proofs.YtabmlbnnhhpaoaaGreatDoor
open Go.RowKit
def Isa.num (n : Int) : ByteArray := ⟨(Lib.itoa n).toArray⟩
def Isa.reg (n : Int) : ByteArray := ⟨(114 :: Lib.itoa n).toArray⟩
theorem Isa.num_size (n : Int) (h0 : -9223372036854775808 ≤ n) (h1 : n ≤ 9223372036854775807) : (Isa.num n).size ≤ 21 := by
 have := Lib.itoa_length_le n h0 h1
 simpa [Isa.num, ByteArray.size] using this
theorem Isa.reg_size (n : Int) (h0 : -9223372036854775808 ≤ n) (h1 : n ≤ 9223372036854775807) : (Isa.reg n).size ≤ 22 := by
 have := Lib.itoa_length_le n h0 h1
 simpa [Isa.reg, ByteArray.size] using this
theorem grow_below (w : World) (k : Nat) (os : Array Obj) : Below w.heap.size w (Sort.grow (w.drewN k) os) :=
 ⟨rfl, rfl, rfl, by simp [Sort.grow, World.drewN], fun g h => by
  show (w.heap ++ os)[g]? = w.heap[g]?
  rw [Array.getElem?_append_left h]⟩
theorem Itoa_calls (n : Int) (h0 : -9223372036854775808 ≤ n) (h1 : n ≤ 9223372036854775807) (w : World) (hL : Isa.Laid w) : Calls Tryz.prog 71 #[.int .i64 n] w fun e w' => e = .returned (.string (Isa.num n)) ∧ Below w.heap.size w w' := by
 refine (Tryz.strconv_Itoa n h0 h1 w (hL.tabIs _ (by kernel_rfl))).mono ?_
 rintro e w' ⟨rfl, k, os, rfl⟩
 exact ⟨rfl, grow_below w k os⟩
theorem Itoa_small (n : Nat) (h : n < 100) (w : World) : Calls Tryz.prog 71 #[.int .i64 (n : Int)] w fun e w' => e = .returned (.string (Isa.num (n : Int))) ∧ w' = w := by
 have e : Isa.num (n : Int) = ⟨(Lib.decDigits n).toArray⟩ := by unfold Isa.num; rw [Lib.itoa_nonneg]
 rw [e]
 exact Tryz.strconv_Itoa_small n h w
theorem reg_calls (n : Nat) (h : n < 100) (w : World) : Calls Tryz.prog 72 #[.int .u8 (n : Int)] w fun e w' => e = .returned (.string (Isa.reg (n : Int))) ∧ w' = w := by
 have hn : IntKind.i64.wrap (n : Int) = (n : Int) := IntWalk.i64_in _ (by omega)
 have hs := Isa.num_size (n : Int) (by omega) (by omega)
 have hr : (⟨#[114]⟩ : ByteArray) ++ Isa.num (n : Int) = Isa.reg (n : Int) := by
  apply ByteArray.ext
  simp [Isa.num, Isa.reg, ByteArray.data_append]
 go_enter Tryz.func72, Tryz.ntmps72
 go_wp2_with fail
 refine (Itoa_small n h _).mono ?_
 rintro e w' ⟨rfl, rfl⟩
 go_wp2_with fail
 go_ret
 exact ⟨rfl, rfl⟩
end Go.Proofs.YtabmlbnnhhpaoaaGreatDoor
namespace Go.Proofs.YtabmlbnnhhpaoaaGreatDoor
open Go.RowKit Go.Proofs.YtabmlbnnhhpaoaaGreatDoorW.PrintWords
theorem isa_info9 : (Tryz.prog.info? 9).map (fun i => (i.zero, i.size, i.bytes)) = some (some (.string ⟨#[]⟩), 1, 16) := by kernel_rfl
theorem reg_same (n : Nat) (h : n < 100) (w : World) : Calls Tryz.prog 72 #[.int .u8 (n : Int)] w fun e w' => e = .returned (.string (Isa.reg (n : Int))) ∧ w = w' := (reg_calls n h w).mono fun _ _ h => ⟨h.1, h.2.symm⟩
def Isa.joined (ps : List ByteArray) : ByteArray := ⟨(Lib.join (ps.map (·.data.toList)) [44, 32]).toArray⟩
theorem Isa.join_len (sep : List UInt8) : ∀ xs : List (List UInt8), (Lib.join xs sep).length ≤ (xs.map fun x => x.length + sep.length).sum
 | [] => by simp [Lib.join, List.intercalate]
 | [x] => by simp [Lib.join, List.intercalate]
 | x :: y :: r => by
  have ih := Isa.join_len sep (y :: r)
  simp only [Lib.join, List.intercalate] at ih ⊢
  simp only [List.intersperse_cons_cons, List.flatten_cons, List.length_append, List.map_cons, List.sum_cons] at ih ⊢
  omega
theorem Isa.joined_size (ps : List ByteArray) (m : Nat) (h : ∀ p ∈ ps, p.size ≤ m) : (Isa.joined ps).size ≤ ps.length * (m + 2) := by
 have h1 := Isa.join_len [44, 32] (ps.map (·.data.toList))
 have h2 : ∀ qs : List ByteArray, (∀ p ∈ qs, p.size ≤ m) → ((qs.map (·.data.toList)).map fun x => x.length + 2).sum ≤ qs.length * (m + 2) := by
  intro qs
  induction qs with
  | nil => intro _; simp
  | cons q r ih =>
   intro hq
   have a := ih (fun p hp => hq p (by simp [hp]))
   have b : q.data.toList.length ≤ m := hq q (by simp)
   simp only [List.map_cons, List.sum_cons, List.length_cons, Nat.add_mul, Nat.one_mul] at a ⊢
   omega
 have h3 := h2 ps h
 show (Lib.join (ps.map (·.data.toList)) [44, 32]).toArray.size ≤ _
 simp only [List.size_toArray]
 simp only [List.length_cons, List.length_nil, Nat.zero_add, Nat.reduceAdd] at h1
 omega
theorem join_at (g cap n : Nat) (ps : List ByteArray) (hn : ps.length = n) (w : World) {cur : Array Value} (hrow : w.heap[g]? = some (.cells cur 9 (0, 0))) (htake : cur.toList.take (n * 1) = ps.map Value.string) (hcap : n ≤ cap) (m : Nat) (hm : m ≤ 100) (hsz : ∀ p ∈ ps, p.size ≤ m) (hn4 : n ≤ 4) :
 Calls Tryz.prog 73 #[.slice (some ⟨g, 0, none⟩) n cap, .string ⟨#[44, 32]⟩] w fun e w' => e = .returned (.string (Isa.joined ps)) ∧ Below w.heap.size w w' := by
 subst hn
 have hb := Isa.joined_size ps m hsz
 have hb2 : ps.length * (m + 2) ≤ 408 := Nat.le_trans (Nat.mul_le_mul hn4 (Nat.add_le_add_right hm 2)) (by decide)
 refine Tryz.strings_Join g 0 cap ps ⟨#[44, 32]⟩ w ?_ (blk_size hrow) (by omega) hcap ?_
 · intro j x hx
   rw [cell_of_row w g (0 + j) cur _ _ hrow, Nat.zero_add]
   have hj : j < ps.length := (List.getElem?_eq_some_iff.1 hx).1
   have h1 : (cur.toList.take (ps.length * 1))[j]? = some (Value.string x) := by rw [htake, List.getElem?_map, hx]; rfl
   rw [List.getElem?_take, if_pos (by omega)] at h1
   simpa using h1
 · have : (Lib.join (ps.map (·.data.toList)) [44, 32]).length = (Isa.joined ps).size := by simp [Isa.joined, ByteArray.size]
   show (Lib.join (ps.map (·.data.toList)) [44, 32]).length ≤ _
   omega
def Isa.TextPost (r : ByteArray) (w : World) (e : Ending) (w' : World) : Prop := e = .returned (.string r) ∧ Below w.heap.size w w'
theorem of_at3 (n : Nat) (h1 : 1 ≤ n) (h2 : n < 49) (f nu sh : Int) (hf : (Isa.formOf n : Int) = f) (hn : (Isa.numOf n : Int) = nu) (hs : (Isa.shapeOf n : Int) = sh) (w : World) : Calls Tryz.prog 68 #[.int .i64 (n : Int)] w fun e w' => e = .returned (.tuple #[.agg #[.string (Isa.nameOf n), .int .i64 f, .int .i64 nu, .int .i64 sh], .bool true]) ∧ Below w.heap.size w w' := by
 subst hf hn hs
 exact of_some n h1 h2 w
end Go.Proofs.YtabmlbnnhhpaoaaGreatDoor
