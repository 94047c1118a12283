/- Arguments of the rows: an instruction by value, opened to its fields; what stays readable behind a call. -/
import Derived.Test.YtedjkbekhhffeaaDoorIsaRow0
import Derived.Carry
import Derived.ChangeOld
import Derived.ShutString
import Derived.SizedLaws
namespace Go.Proofs.YtedjkbekhhffeaaDoor
open Go.ChangeShapes Go.WideShapes Go.ChangeAt Go.RowKit
theorem laidOut : laidOutB Tryd.prog = true := by kernel_rfl
theorem u8_range {x : Int} (h : (Lit.int .u8 x).wf = true) : 0 ≤ x ∧ x ≤ 255 := by
  simp [Lit.wf, IntKind.min, IntKind.max, IntKind.signed, IntKind.bits] at h
  omega
theorem i32_range {x : Int} (h : (Lit.int .i32 x).wf = true) : -2147483648 ≤ x ∧ x ≤ 2147483647 := by
  simp [Lit.wf, IntKind.min, IntKind.max, IntKind.signed, IntKind.bits] at h
  omega
theorem i64_range {x : Int} (h : (Lit.int .i64 x).wf = true) : -9223372036854775808 ≤ x ∧ x ≤ 9223372036854775807 := by
  simp [Lit.wf, IntKind.min, IntKind.max, IntKind.signed, IntKind.bits] at h
  omega
set_option maxRecDepth 100000 in
theorem open_instr {H : Type} {enc : TypeId × Value → H} {W : World} {b0 : Nat} {spare : Nat → Bool} {held : Bool} {r : Reach} {v : Value} {d : DataW H} {p : List MemPlace}
    (hv : Value.okWide Tryd.prog W r b0 26 v) (h : DataW.Trod enc Tryd.prog W 0 spare held 26 v d p) :
    ∃ op D A B I : Int, v = .agg #[.int .i64 op, .int .u8 D, .int .u8 A, .int .u8 B, .int .i32 I] ∧ (0 ≤ D ∧ D ≤ 255) ∧ (0 ≤ A ∧ A ≤ 255) ∧ (0 ≤ B ∧ B ≤ 255) ∧ (-2147483648 ≤ I ∧ I ≤ 2147483647) := by
  obtain ⟨cs, rfl, hsz⟩ := okWide_struct Tryd.underlying26 hv
  obtain ⟨fuel, hf⟩ := h
  obtain ⟨xs, n, _, _, _, _, hall⟩ := DataW.trod_struct Tryd.underlying26 hf
  have c1 : Tryd.prog.cellsOf 24 = 1 := by kernel_rfl
  have c2 : Tryd.prog.cellsOf 5 = 1 := by kernel_rfl
  have c3 : Tryd.prog.cellsOf 21 = 1 := by kernel_rfl
  have c5 : Tryd.prog.cellsOf 26 = 5 := by kernel_rfl
  obtain ⟨l⟩ := cs
  match l, hsz.trans c5 with
  | [v0, v1, v2, v3, v4], _ =>
    match xs, (show xs.length = 5 by assumption) with
    | [y0, y1, y2, y3, y4], _ =>
      have g0 : DataW.trod enc Tryd.prog W 0 spare held n 24 [v0] = some y0 := by simpa [Value.cells, c1] using hall 0 _ rfl
      have g1 : DataW.trod enc Tryd.prog W 0 spare held n 5 [v1] = some y1 := by simpa [Value.cells, c2] using hall 1 _ rfl
      have g2 : DataW.trod enc Tryd.prog W 0 spare held n 5 [v2] = some y2 := by simpa [Value.cells, c2] using hall 2 _ rfl
      have g3 : DataW.trod enc Tryd.prog W 0 spare held n 5 [v3] = some y3 := by simpa [Value.cells, c2] using hall 3 _ rfl
      have g4 : DataW.trod enc Tryd.prog W 0 spare held n 21 [v4] = some y4 := by simpa [Value.cells, c3] using hall 4 _ rfl
      obtain ⟨op, e0, _, w0⟩ := DataW.trod_int Tryd.underlying24 g0
      obtain ⟨D, e1, _, w1⟩ := DataW.trod_int Tryd.underlying5 g1
      obtain ⟨A, e2, _, w2⟩ := DataW.trod_int Tryd.underlying5 g2
      obtain ⟨B, e3, _, w3⟩ := DataW.trod_int Tryd.underlying5 g3
      obtain ⟨I, e4, _, w4⟩ := DataW.trod_int Tryd.underlying21 g4
      simp at e0 e1 e2 e3 e4
      subst e0 e1 e2 e3 e4
      exact ⟨op, D, A, B, I, rfl, u8_range w1, u8_range w2, u8_range w3, i32_range w4⟩
theorem trod_back {H : Type} {enc : TypeId × Value → H} {t : TypeId} (hr : Tryd.prog.readableRec t = true) (ht : decide (t < Tryd.prog.types.size) = true) {W W' : World} {v : Value} {d : DataW H} {ps : List MemPlace}
    (h : DataW.Trod enc Tryd.prog W 0 (fun _ => true) true t v d ps) (hb : Below W.heap.size W W') : DataW.Trod enc Tryd.prog W' 0 (fun b => decide (b < W.heap.size)) true t v d ps :=
  Below.trod laidOut hr (of_decide_eq_true ht) h hb (by obtain ⟨m, hm⟩ := h; exact DataW.trod_lt m _ _ _ hm)
end Go.Proofs.YtedjkbekhhffeaaDoor
