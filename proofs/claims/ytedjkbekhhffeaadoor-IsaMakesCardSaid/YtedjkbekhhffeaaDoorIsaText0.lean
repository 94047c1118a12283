/- What the walks of isa.Text share. -/
import Derived.Test.YtedjkbekhhffeaaDoorIsaReg
import Derived.Test.YtedjkbekhhffeaaDoorIsaEncAll
import Derived.Test.YtedjkbekhhffeaaDoorWWords
import Derived.Deep.RegionHeld3
namespace Go.Proofs.YtedjkbekhhffeaaDoor
open Go.RowKit Go.Proofs.YtedjkbekhhffeaaDoorW.PrintWords
set_option linter.unusedSimpArgs false
set_option linter.unusedVariables false
theorem isa_info9 : (Tryd.prog.info? 9).map (fun i => (i.zero, i.size, i.bytes)) = some (some (.string ⟨#[]⟩), 1, 16) := by kernel_rfl
theorem reg_same (n : Nat) (h : n < 100) (w : World) : Calls Tryd.prog 31 #[.int .u8 (n : Int)] w fun e w' => e = .returned (.string (Isa.reg (n : Int))) ∧ w = w' := (reg_calls n h w).mono fun _ _ h => ⟨h.1, h.2.symm⟩
/-- Texts with a comma and a blank between. -/
def Isa.joined (ps : List ByteArray) : ByteArray := ⟨(Lib.join (ps.map (·.data.toList)) [44, 32]).toArray⟩
theorem Isa.join_len (sep : List UInt8) : ∀ xs : List (List UInt8), (Lib.join xs sep).length ≤ (xs.map fun x => x.length + sep.length).sum
  | [] => by simp [Lib.join, List.intercalate]
  | [x] => by simp [Lib.join, List.intercalate]
  | x :: y :: r => by
    have ih := Isa.join_len sep (y :: r)
    simp only [Lib.join, List.intercalate] at ih ⊢
    simp only [List.intersperse_cons_cons, List.flatten_cons, List.length_append, List.map_cons, List.sum_cons] at ih ⊢
    omega
theorem Isa.joined_size (ps : List ByteArray) (m : Nat) (h : ∀ p ∈ ps, p.size ≤ m) : (Isa.joined ps).size ≤ ps.length * (m + 2) := by
  have h1 := Isa.join_len [44, 32] (ps.map (·.data.toList))
  have h2 : ∀ qs : List ByteArray, (∀ p ∈ qs, p.size ≤ m) → ((qs.map (·.data.toList)).map fun x => x.length + 2).sum ≤ qs.length * (m + 2) := by
    intro qs
    induction qs with
    | nil => intro _; simp
    | cons q r ih =>
      intro hq
      have a := ih (fun p hp => hq p (by simp [hp]))
      have b : q.data.toList.length ≤ m := hq q (by simp)
      simp only [List.map_cons, List.sum_cons, List.length_cons, Nat.add_mul, Nat.one_mul] at a ⊢
      omega
  have h3 := h2 ps h
  show (Lib.join (ps.map (·.data.toList)) [44, 32]).toArray.size ≤ _
  simp only [List.size_toArray]
  simp only [List.length_cons, List.length_nil, Nat.zero_add, Nat.reduceAdd] at h1
  omega
theorem join_at (g cap n : Nat) (ps : List ByteArray) (hn : ps.length = n) (w : World) {cur : Array Value} (hrow : w.heap[g]? = some (.cells cur 9 (0, 0))) (htake : cur.toList.take (n * 1) = ps.map Value.string) (hcap : n ≤ cap) (m : Nat) (hm : m ≤ 100) (hsz : ∀ p ∈ ps, p.size ≤ m) (hn4 : n ≤ 4) :
    Calls Tryd.prog 32 #[.slice (some ⟨g, 0, none⟩) n cap, .string ⟨#[44, 32]⟩] w fun e w' => e = .returned (.string (Isa.joined ps)) ∧ Below w.heap.size w w' := by
  subst hn
  have hb := Isa.joined_size ps m hsz
  have hb2 : ps.length * (m + 2) ≤ 408 := Nat.le_trans (Nat.mul_le_mul hn4 (Nat.add_le_add_right hm 2)) (by decide)
  refine Tryd.strings_Join g 0 cap ps ⟨#[44, 32]⟩ w ?_ (blk_size hrow) (by omega) hcap ?_
  · intro j x hx
    rw [cell_of_row w g (0 + j) cur _ _ hrow, Nat.zero_add]
    have hj : j < ps.length := (List.getElem?_eq_some_iff.1 hx).1
    have h1 : (cur.toList.take (ps.length * 1))[j]? = some (Value.string x) := by rw [htake, List.getElem?_map, hx]; rfl
    rw [List.getElem?_take, if_pos (by omega)] at h1
    simpa using h1
  · have : (Lib.join (ps.map (·.data.toList)) [44, 32]).length = (Isa.joined ps).size := by simp [Isa.joined, ByteArray.size]
    show (Lib.join (ps.map (·.data.toList)) [44, 32]).length ≤ _
    omega
def Isa.TextPost (r : ByteArray) (w : World) (e : Ending) (w' : World) : Prop := e = .returned (.string r) ∧ Below w.heap.size w w'
theorem of_at3 (n : Nat) (h1 : 1 ≤ n) (h2 : n < 49) (f nu sh : Int) (hf : (Isa.formOf n : Int) = f) (hn : (Isa.numOf n : Int) = nu) (hs : (Isa.shapeOf n : Int) = sh) (w : World) : Calls Tryd.prog 24 #[.int .i64 (n : Int)] w fun e w' => e = .returned (.tuple #[.agg #[.string (Isa.nameOf n), .int .i64 f, .int .i64 nu, .int .i64 sh], .bool true]) ∧ Below w.heap.size w w' := by
  subst hf hn hs
  exact of_some n h1 h2 w
end Go.Proofs.YtedjkbekhhffeaaDoor
