/- IsaWords: the walk of the law's body. -/
import Derived.Test.YtedjkbekhhffeaaDoorIsaTop
import Derived.Test.YtedjkbekhhffeaaDoorPDecodex2
namespace Go.Proofs.YtedjkbekhhffeaaDoor
open Go.RowKit
set_option linter.unusedSimpArgs false
set_option linter.unusedVariables false
set_option maxHeartbeats 4000000 in
set_option maxRecDepth 100000 in
theorem isaWords_walk (x : Int) (hx0 : 0 ≤ x) (hx1 : x ≤ 4294967295) (k : Nat) (hk : PDecode.cloisterref10_Decode.f k x = some (Isa.dec x)) (w : World) (hL : Isa.Laid w) :
    Calls Tryd.prog 3 #[.int .u32 x] w fun e w' => e = .returned (.bool true) ∧ Below w.heap.size w w' := by
  obtain ⟨⟨r1, r2, r3, r4, r5, r6⟩, hr⟩ : ∃ r, Isa.dec x = r := ⟨_, rfl⟩
  have hD := Decode_calls x hx0 hx1
  rw [hr] at hk hD
  have HK := Lib.hid hk
  clear hk hr
  go_enter Tryd.func3, Tryd.ntmps3
  go_wp2_with fail
  refine (known_calls _ hL).mono ?_
  rintro e w1 ⟨rfl, hb1⟩
  have hL1 := hL.below hb1
  have HB1 := Lib.hid (below_next (Below.refl _ _) hb1)
  go_wp2_with fail
  refine (hD _ hL1).mono ?_
  rintro e w2 ⟨rfl, hb2⟩
  have HB2 := Lib.hid (below_next HB1.out hb2)
  go_wp2_with fail
  refine (PDecode.cloisterref10_Decode.calls k x r1 r2 r3 r4 r5 r6 _ HK.out).mono ?_
  rintro e w3 ⟨rfl, hb3⟩
  have HB3 := Lib.hid (below_next (below_alloc' HB2.out _) hb3)
  obtain ⟨d3, f3⟩ := blk_facts (blk_keep hb3 (heap_alloc_new _ _))
  have z3 := blk_size (blk_keep hb3 (heap_alloc_new _ _))
  have z3k : ∀ k, w2.heap.size < w3.heap.size + k := fun k => by omega
  go_wp2_with fail
  go_ret
  exact ⟨rfl, below_alloc' HB3.out _⟩
end Go.Proofs.YtedjkbekhhffeaaDoor
