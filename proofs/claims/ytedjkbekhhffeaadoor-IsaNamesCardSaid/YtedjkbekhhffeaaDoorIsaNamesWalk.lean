/- IsaNames: the walk of the law's body. -/
import Derived.Test.YtedjkbekhhffeaaDoorIsaTop
import Derived.Test.YtedjkbekhhffeaaDoorPIsaNamesx2
namespace Go.Proofs.YtedjkbekhhffeaaDoor
open Go.RowKit
set_option linter.unusedSimpArgs false
set_option linter.unusedVariables false
set_option maxHeartbeats 4000000 in
set_option maxRecDepth 100000 in
theorem isaNames_walk (op : Int) (s : ByteArray) (k : Nat) (h1 : PIsaNames.cloisterref10_Form.f k op = some (Isa.formOf (Isa.ix op) : Int)) (h2 : PIsaNames.cloisterref10_Name.f k op = some (Isa.nameOf (Isa.ix op))) (h3 : PIsaNames.cloisterref10_Named.f k s = some (Isa.named s)) (w : World) (hL : Isa.Laid w) :
    Calls Tryd.prog 5 #[.int .i64 op, .string s] w fun e w' => e = .returned (.bool true) ∧ Below w.heap.size w w' := by
  obtain ⟨⟨r1, r2⟩, hr⟩ : ∃ r, Isa.named s = r := ⟨_, rfl⟩
  have hN := Named_calls s
  rw [hr] at h3 hN
  have H1 := Lib.hid h1
  have H2 := Lib.hid h2
  have H3 := Lib.hid h3
  clear h1 h2 h3 hr
  go_enter Tryd.func5, Tryd.ntmps5
  go_wp2_with fail
  refine (known_calls _ hL).mono ?_
  rintro e w1 ⟨rfl, hb1⟩
  have HB1 := Lib.hid (below_next (Below.refl _ _) hb1)
  go_wp2_with fail
  refine (Form_calls op _).mono ?_
  rintro e w2 ⟨rfl, hb2⟩
  have HB2 := Lib.hid (below_next HB1.out hb2)
  go_wp2_with fail
  refine (Name_calls op _).mono ?_
  rintro e w3 ⟨rfl, hb3⟩
  have HB3 := Lib.hid (below_next HB2.out hb3)
  go_wp2_with fail
  refine (hN _).mono ?_
  rintro e w4 ⟨rfl, hb4⟩
  have HB4 := Lib.hid (below_next HB3.out hb4)
  go_wp2_with fail
  refine (PIsaNames.cloisterref10_Named.calls k s r1 r2 _ H3.out).mono ?_
  rintro e w5 ⟨rfl, hb5⟩
  have HB5 := Lib.hid (below_next HB4.out hb5)
  go_wp2_with fail
  refine (PIsaNames.cloisterref10_Form.calls k op _ _ H1.out).mono ?_
  rintro e w6 ⟨rfl, hb6⟩
  have HB6 := Lib.hid (below_next HB5.out hb6)
  go_wp2_with fail
  refine (PIsaNames.cloisterref10_Name.calls k op _ _ H2.out).mono ?_
  rintro e w7 ⟨rfl, hb7⟩
  have HB7 := Lib.hid (below_next HB6.out hb7)
  go_wp2_with fail
  go_ret
  exact ⟨rfl, HB7.out⟩
end Go.Proofs.YtedjkbekhhffeaaDoor
