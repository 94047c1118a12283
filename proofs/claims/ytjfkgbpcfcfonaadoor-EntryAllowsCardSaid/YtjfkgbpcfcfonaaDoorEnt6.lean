/- EntryAllows: Allows of any permission and access. -/
import Derived.Test.YtjfkgbpcfcfonaaDoorEnt5
namespace Go.Proofs.YtjfkgbpcfcfonaaDoor
open Go.RowKit Go.Proofs.YtjfkgbpcfcfonaaDoorW.PrintWords Go.Proofs.YtjfkgbpcfcfonaaDoorW.PrintLast Go.Proofs.YtjfkgbpcfcfonaaDoorW.PrintMore
set_option linter.unusedSimpArgs false
set_option linter.unusedVariables false
/-- What is let by. -/
def Ent.ans (p : Nat) (a : Int) : Bool :=
  if a = 1 then p % 2 == 1 else if a = 2 then p / 2 % 2 == 1 else if a = 3 then p / 4 % 2 == 1 else false
theorem Ent.bit1 : ∀ p : Fin 256, (bits BinOp.and IntKind.u8 (p.1 : Int) 1 != 0) = (p.1 % 2 == 1) := by decide +kernel
theorem Ent.bit2 : ∀ p : Fin 256, (bits BinOp.and IntKind.u8 (p.1 : Int) 2 != 0) = (p.1 / 2 % 2 == 1) := by decide +kernel
theorem Ent.bit3 : ∀ p : Fin 256, (bits BinOp.and IntKind.u8 (p.1 : Int) 4 != 0) = (p.1 / 4 % 2 == 1) := by decide +kernel
theorem Ent.ref : ∀ p : Fin 256, ∀ a : Fin 4, PEntryAllows.cloisterref4_Allows.f (p.1 : Int) (a.1 : Int) = some (Ent.ans p.1 (a.1 : Int)) := by decide +kernel
theorem Ent.ref_all (p : Nat) (hp : p < 256) (a : Int) : PEntryAllows.cloisterref4_Allows.f (p : Int) a = some (Ent.ans p a) := by
  by_cases h1 : a = 1
  · subst h1; exact Ent.ref ⟨p, hp⟩ 1
  by_cases h2 : a = 2
  · subst h2; exact Ent.ref ⟨p, hp⟩ 2
  by_cases h3 : a = 3
  · subst h3; exact Ent.ref ⟨p, hp⟩ 3
  simp [PEntryAllows.cloisterref4_Allows.f, Ent.ans, h1, h2, h3]
theorem index_needs (W : World) :
    (Instr.index 37 (.agg #[.int .u8 0, .int .u8 1, .int .u8 2, .int .u8 4]) (.int .i64 1)).run Tryd.prog W = .ok (.int .u8 1) W ∧
    (Instr.index 37 (.agg #[.int .u8 0, .int .u8 1, .int .u8 2, .int .u8 4]) (.int .i64 2)).run Tryd.prog W = .ok (.int .u8 2) W ∧
    (Instr.index 37 (.agg #[.int .u8 0, .int .u8 1, .int .u8 2, .int .u8 4]) (.int .i64 3)).run Tryd.prog W = .ok (.int .u8 4) W :=
  ⟨by kernel_rfl, by kernel_rfl, by kernel_rfl⟩
set_option maxHeartbeats 4000000 in
set_option maxRecDepth 100000 in
theorem allows_low (p : Nat) (a : Int) (h : a ≤ 0) (w : World) : Calls Tryd.prog 5 #[.int .u8 (p : Int), .int .i64 a] w fun e w' => e = .returned (.bool false) ∧ Below w.heap.size w w' := by
  have c1 : decide (0 < a) = false := by simp; omega
  clear h
  go_enter Tryd.func5, Tryd.ntmps5
  go_wp2_with fail
  go_ret
  exact ⟨rfl, Below.refl _ _⟩
set_option maxHeartbeats 4000000 in
set_option maxRecDepth 100000 in
theorem allows_high (p : Nat) (a : Int) (h : 4 ≤ a) (w : World) : Calls Tryd.prog 5 #[.int .u8 (p : Int), .int .i64 a] w fun e w' => e = .returned (.bool false) ∧ Below w.heap.size w w' := by
  have c1 : decide (0 < a) = true := by simp; omega
  have c2 : decide (a < 4) = false := by simp; omega
  clear h
  go_enter Tryd.func5, Tryd.ntmps5
  go_wp2_with fail
  refine (needs_calls _).mono ?_
  rintro e w1 ⟨rfl, hb1⟩
  go_wp2_with fail
  go_ret
  exact ⟨rfl, hb1⟩
set_option maxHeartbeats 4000000 in
set_option maxRecDepth 100000 in
theorem allows_one (p : Nat) (hp : p < 256) (w : World) : Calls Tryd.prog 5 #[.int .u8 (p : Int), .int .i64 1] w fun e w' => e = .returned (.bool (Ent.ans p 1)) ∧ Below w.heap.size w w' := by
  have i1 := fun W => (index_needs W).1
  go_enter Tryd.func5, Tryd.ntmps5
  go_wp2_with fail
  refine (needs_calls _).mono ?_
  rintro e w1 ⟨rfl, hb1⟩
  have HB1 := Lib.hid hb1
  go_wp2_with fail
  refine (needs_calls _).mono ?_
  rintro e w2 ⟨rfl, hb2⟩
  have HB2 := Lib.hid (below_next HB1.out hb2)
  go_wp2_with fail
  go_ret
  exact ⟨by rw [Ent.bit1 ⟨p, hp⟩]; rfl, HB2.out⟩
set_option maxHeartbeats 4000000 in
set_option maxRecDepth 100000 in
theorem allows_two (p : Nat) (hp : p < 256) (w : World) : Calls Tryd.prog 5 #[.int .u8 (p : Int), .int .i64 2] w fun e w' => e = .returned (.bool (Ent.ans p 2)) ∧ Below w.heap.size w w' := by
  have i1 := fun W => (index_needs W).2.1
  go_enter Tryd.func5, Tryd.ntmps5
  go_wp2_with fail
  refine (needs_calls _).mono ?_
  rintro e w1 ⟨rfl, hb1⟩
  have HB1 := Lib.hid hb1
  go_wp2_with fail
  refine (needs_calls _).mono ?_
  rintro e w2 ⟨rfl, hb2⟩
  have HB2 := Lib.hid (below_next HB1.out hb2)
  go_wp2_with fail
  go_ret
  exact ⟨by rw [Ent.bit2 ⟨p, hp⟩]; rfl, HB2.out⟩
set_option maxHeartbeats 4000000 in
set_option maxRecDepth 100000 in
theorem allows_three (p : Nat) (hp : p < 256) (w : World) : Calls Tryd.prog 5 #[.int .u8 (p : Int), .int .i64 3] w fun e w' => e = .returned (.bool (Ent.ans p 3)) ∧ Below w.heap.size w w' := by
  have i1 := fun W => (index_needs W).2.2
  go_enter Tryd.func5, Tryd.ntmps5
  go_wp2_with fail
  refine (needs_calls _).mono ?_
  rintro e w1 ⟨rfl, hb1⟩
  have HB1 := Lib.hid hb1
  go_wp2_with fail
  refine (needs_calls _).mono ?_
  rintro e w2 ⟨rfl, hb2⟩
  have HB2 := Lib.hid (below_next HB1.out hb2)
  go_wp2_with fail
  go_ret
  exact ⟨by rw [Ent.bit3 ⟨p, hp⟩]; rfl, HB2.out⟩
theorem allows_calls (p : Nat) (hp : p < 256) (a : Int) (w : World) : Calls Tryd.prog 5 #[.int .u8 (p : Int), .int .i64 a] w fun e w' => e = .returned (.bool (Ent.ans p a)) ∧ Below w.heap.size w w' := by
  by_cases h1 : a = 1
  · subst h1; exact allows_one p hp w
  by_cases h2 : a = 2
  · subst h2; exact allows_two p hp w
  by_cases h3 : a = 3
  · subst h3; exact allows_three p hp w
  have e : Ent.ans p a = false := by simp [Ent.ans, h1, h2, h3]
  rw [e]
  by_cases h0 : a ≤ 0
  · exact allows_low p a h0 w
  · exact allows_high p a (by omega) w
set_option maxHeartbeats 4000000 in
set_option maxRecDepth 100000 in
theorem law_walk (p : Nat) (hp : p < 256) (a : Int) (w : World) (hL : Ent.Laid w) : Calls Tryd.prog 3 #[.int .u8 (p : Int), .int .i64 a] w fun e w' => e = .returned (.bool true) ∧ Below w.heap.size w w' := by
  have hbb : ∀ b : Bool, (b == b) = true := fun b => by cases b <;> rfl
  have hb1' := hbb (Ent.ans p a)
  go_enter Tryd.func3, Tryd.ntmps3
  go_wp2_with fail
  refine (known_calls _ hL).mono ?_
  rintro e w1 ⟨rfl, hb1⟩
  have HB1 := Lib.hid hb1
  go_wp2_with fail
  refine (allows_calls p hp a _).mono ?_
  rintro e w2 ⟨rfl, hb2⟩
  have HB2 := Lib.hid (below_next HB1.out hb2)
  go_wp2_with fail
  refine (PEntryAllows.cloisterref4_Allows.calls (p : Int) a _ _ (Ent.ref_all p hp a)).mono ?_
  rintro e w3 ⟨rfl, ⟨nd, rfl⟩⟩
  go_wp2_with fail
  go_ret
  exact ⟨rfl, below_drewN' HB2.out _⟩
end Go.Proofs.YtjfkgbpcfcfonaaDoor
