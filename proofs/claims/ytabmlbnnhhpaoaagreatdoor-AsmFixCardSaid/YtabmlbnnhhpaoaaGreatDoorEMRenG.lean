/- What this claim needs of AsmCallSt. -/
import Derived.Test.YtabmlbnnhhpaoaaGreatDoorEMAsmIns
set_option linter.unusedSimpArgs false
set_option linter.unusedVariables false
namespace Go.Proofs.YtabmlbnnhhpaoaaGreatDoor
open Go.RowKit Go.Shelf
def Asm.cutW (w : World) (n : Nat) : World := { w with heap := w.heap.extract 0 n }
theorem Asm.cutW_size {w : World} {n : Nat} (h : n ≤ w.heap.size) : (Asm.cutW w n).heap.size = n := by
 simp [Asm.cutW]; omega
theorem Asm.cutW_at {w : World} {n g : Nat} (h : g < n) : (Asm.cutW w n).heap[g]? = w.heap[g]? := by
 unfold Asm.cutW
 simp [Array.getElem?_extract, h]
 intro h2
 omega
theorem Asm.Off.cut {N : Nat → Prop} {w : World} {n : Nat} (h : n ≤ w.heap.size) : Asm.Off N (Asm.cutW w n) w :=
 ⟨rfl, rfl, rfl, by rw [Asm.cutW_size h]; exact h, fun g hg _ => (Asm.cutW_at (by rw [Asm.cutW_size h] at hg; exact hg)).symm⟩
theorem Asm.Step.uncut {B B3 B' : Asm.PB} {w now w' : World} {n : Nat} (hn : w.heap.size ≤ n) (hn2 : n ≤ now.heap.size) (h : Asm.Step B w B3 now) (k : Asm.Step B3 (Asm.cutW now n) B' w') : Asm.Step B w B' w' := by
 refine ⟨⟨k.off.os.trans h.off.os, k.off.tape.trans h.off.tape, k.off.output.trans h.off.output, Nat.le_trans hn (by have := k.off.size; rwa [Asm.cutW_size hn2] at this), fun g hg ho => ?_⟩, fun g hg => ?_, k.n0.trans h.n0, k.b.trans h.b, k.mb.trans h.mb⟩
 · have hgn : g < n := by omega
   have h3 : ¬ B3.owns g := fun h3 => (h.owned g h3).elim ho (fun h4 => by omega)
   exact (k.off.block g (by rw [Asm.cutW_size hn2]; exact hgn) h3).trans ((Asm.cutW_at hgn).trans (h.off.block g hg ho))
 · rcases k.owned g hg with h3 | h3
   · exact h.owned g h3
   · rw [Asm.cutW_size hn2] at h3
     exact .inr (by omega)
end Go.Proofs.YtabmlbnnhhpaoaaGreatDoor
