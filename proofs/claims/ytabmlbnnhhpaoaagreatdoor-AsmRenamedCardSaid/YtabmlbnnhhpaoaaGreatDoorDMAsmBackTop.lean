/- What this claim needs of AsmPrOpen. -/
import Derived.Test.YtabmlbnnhhpaoaaGreatDoorDMAsmKnownG
import Derived.Test.YtabmlbnnhhpaoaaGreatDoorBMAsmHexG
import Derived.Test.YtabmlbnnhhpaoaaGreatDoorBMAsmDisG
import Derived.Lib.SmallJoins
import Derived.Deep.SlicePairs
import Derived.ChangeSame
set_option linter.unusedSimpArgs false
set_option linter.unusedVariables false
namespace Go.Proofs.YtabmlbnnhhpaoaaGreatDoor
open Go.Joins Go.ChangeShapes Go.WideShapes Go.ChangeAt Go.RowKit Go.Deep
namespace Asm
theorem cell_parts {W : World} {a : Addr} {v : Value} (h : W.cell? a = some v) : ∃ g o cur T fr, a = ⟨g, o, none⟩ ∧ W.heap[g]? = some (.cells cur T fr) ∧ cur[o]? = some v := by
 obtain ⟨g, o, sp⟩ := a
 unfold World.cell? at h
 simp only at h
 split at h
 · rename_i c T fr hh
   cases sp with
   | none => exact ⟨g, o, c, T, fr, rfl, hh, by simpa using h⟩
   | some s => simp at h
 · cases h
theorem RowView.of_cells {W : World} (a : Addr) (len cap sz : Nat) (X : List Value) (hl : len ≤ cap) (hm : cap ≤ maxLen) (hsz : 0 < sz) (hX : X.length = len * sz) (hc : ∀ (j : Nat) (u : Value), X[j]? = some u → W.cell? (a.add j) = some u) : ∃ T, RowView W T (.slice (some a) len cap) len X := by
 by_cases h0 : len = 0
 · exact ⟨0, some a, cap, rfl, hl, hm, fun h => absurd h0 h⟩
 · have hpos : 0 < X.length := by rw [hX]; exact Nat.mul_pos (by omega) hsz
   obtain ⟨g, o, cur, T, fr, ea, hg, _⟩ := cell_parts (hc 0 _ (List.getElem?_eq_getElem hpos))
   have ea' : a = ⟨g, o, none⟩ := by
    obtain ⟨g', o', s'⟩ := a
    simp only [Addr.add] at ea
    simpa using ea
   subst ea'
   refine ⟨T, some ⟨g, o, none⟩, cap, rfl, hl, hm, fun _ => ⟨g, o, cur, fr, rfl, hg, fun j u hj => ?_⟩⟩
   have h1 := hc j u hj
   rw [Addr.add_lit, cell_of_row W g (o + j) cur T fr hg] at h1
   exact h1
end Asm
end Go.Proofs.YtabmlbnnhhpaoaaGreatDoor
