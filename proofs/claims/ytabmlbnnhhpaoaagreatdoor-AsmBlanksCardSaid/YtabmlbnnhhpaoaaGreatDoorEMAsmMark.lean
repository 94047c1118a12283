/- What this claim needs of AsmRows, Asm7, Asm9. -/
import Derived.Test.YtabmlbnnhhpaoaaGreatDoorEMAsmTok
import Derived.Maps.OwnIn
import Derived.StringKeys
import Derived.Deep.AppendLies
import Derived.Deep.RegionHeld3
import Derived.Deep.RegionLaw
import Derived.Test.YtabmlbnnhhpaoaaGreatDoorEMIsaEncB
set_option linter.unusedSimpArgs false
set_option linter.unusedVariables false
namespace Go.Proofs.YtabmlbnnhhpaoaaGreatDoor
open Go.RowKit Go.Shelf
namespace Asm
theorem rowsApart {w : World} {base base' : Nat} {e e' : TypeId} {size size' : Nat} {v v' : Value} {n n' : Nat} {xs xs' : List Value} (h : w.ownsRow base e size v n xs) (h' : w.ownsRow base' e' size' v' n' xs') (hne : e ≠ e') : v.ownBlock = none ∨ v.ownBlock ≠ v'.ownBlock := by
 cases hv : v.ownBlock with
 | none => exact .inl rfl
 | some g =>
  refine .inr fun e2 => ?_
  obtain ⟨c, hc⟩ := row_type h hv
  obtain ⟨c', hc'⟩ := row_type h' e2.symm
  rw [hc] at hc'
  injection (Option.some.inj hc') with _ q
  exact hne q
theorem rowNot {w : World} {base : Nat} {e t : TypeId} {size : Nat} {v : Value} {n : Nat} {xs : List Value} {fr : Nat × Nat} (h : w.ownsRow base e size v n xs) {g : Nat} {cs : Array Value} (hg : w.heap[g]? = some (.cells cs t fr)) (hne : t ≠ e) : some g ≠ v.ownBlock := by
 intro e2
 obtain ⟨c, hc⟩ := row_type h e2.symm
 rw [hg] at hc
 injection (Option.some.inj hc) with _ q
 exact hne q
theorem Par.vpPush {B : PB} {S : PS} {w w6 : World} (h : Par B S w) (x : Piece) (v : Value) (fp : Nat × List Nat) (hfn : FnIs w x fp) (hnd : ((B.fs ++ [fp]).flatMap (·.2)).Nodup) (hfb : ∀ g, g ∈ fp.2 → B.n0 ≤ g) (hrow : w6.ownsRow B.n0 82 3 v (S.pieces.length + 1) (((S.pieces.zip B.fs).flatMap fun x => pieceCells x.1 x.2) ++ pieceCells x fp)) (hg : w.grownBy w6 B.vp.ownBlock)
 (hblk : v.ownBlock = B.vp.ownBlock ∨ v.ownBlock = some w.heap.size) :
 Par { B with vp := v, fs := B.fs ++ [fp] } { S with pieces := S.pieces ++ [x] } (w6.setCell ⟨B.b, 5, none⟩ v) ∧ Off B.owns w (w6.setCell ⟨B.b, 5, none⟩ v) := by
 have hot : ∀ {g : Nat} {cs : Array Value} {t : TypeId} {fr : Nat × Nat}, w.heap[g]? = some (.cells cs t fr) → t ≠ 82 → w6.heap[g]? = some (.cells cs t fr) := fun {g cs t fr} hk hne => (hg.block g (blk_size hk) (rowNot h.pieces hk hne)).trans hk
 have hs := setCell_grown w6 B.b 5 v
 have hb6 := hot h.own (by decide)
 have hot2 : ∀ {g : Nat} {cs : Array Value} {t : TypeId} {fr : Nat × Nat}, w6.heap[g]? = some (.cells cs t fr) → t ≠ 75 → (w6.setCell ⟨B.b, 5, none⟩ v).heap[g]? = some (.cells cs t fr) := fun {g cs t fr} hk hne => (hs.block g (blk_size hk) (fun e => by
  rw [Option.some.inj e, hb6] at hk
  injection (Option.some.inj hk) with _ q
  exact hne q.symm)).trans hk
 have rowb : ∀ {base : Nat} {e : TypeId} {size : Nat} {u : Value} {n : Nat} {xs : List Value}, w6.ownsRow base e size u n xs → e ≠ 75 → u.ownBlock ≠ some B.b := fun {base e size u n xs} hr hne e2 => by
  obtain ⟨c, hc⟩ := row_type hr e2
  rw [hb6] at hc
  injection (Option.some.inj hc) with _ q
  exact hne q.symm
 have hvb : v.ownBlock ≠ some B.b := rowb hrow (by decide)
 have hmne : some B.mb ≠ B.vp.ownBlock := fun e => by
  obtain ⟨es, clock, hb, _⟩ := h.map
  obtain ⟨c, hc⟩ := row_type h.pieces e.symm
  rw [hb] at hc; cases hc
 have hmb : some B.mb ≠ some B.b := fun e => by
  obtain ⟨es, clock, hb, _⟩ := h.map
  rw [Option.some.inj e, h.own] at hb; cases hb
 refine ⟨⟨setCell_row hb6 5 v rfl, h.toks.keep fun g cur hk => hot2 (hot hk (by decide)) (by decide), (h.map.kept hg hmne).kept hs hmb, by
  have hz : (S.pieces ++ [x]).zip (B.fs ++ [fp]) = S.pieces.zip B.fs ++ [(x, fp)] := by rw [List.zip_append h.fsl.symm]; rfl
  show (w6.setCell ⟨B.b, 5, none⟩ v).ownsRow B.n0 82 3 v (S.pieces ++ [x]).length (((S.pieces ++ [x]).zip (B.fs ++ [fp])).flatMap fun x => pieceCells x.1 x.2)
  rw [hz, List.flatMap_append, List.length_append]
  simpa using hrow.kept hs (.inr hvb), by simp [h.fsl], fun j y q h1 h2 => by
  by_cases hj : j < S.pieces.length
  · have h1' : S.pieces[j]? = some y := by rw [← h1]; exact (List.getElem?_append_left hj).symm
    have h2' : B.fs[j]? = some q := by rw [← h2]; exact (List.getElem?_append_left (h.fsl ▸ hj)).symm
    exact (h.fns j y q h1' h2').keep fun k _ cs t hb he => hot2 (hot he (boxT_ne hb (by decide))) (boxT_ne hb (by decide))
  · have h1' : ([x] : List Piece)[j - S.pieces.length]? = some y := by rw [← h1]; exact (List.getElem?_append_right (by omega)).symm
    have h2' : ([fp] : List (Nat × List Nat))[j - S.pieces.length]? = some q := by rw [← h2, ← h.fsl]; exact (List.getElem?_append_right (by rw [h.fsl]; omega)).symm
    have hj0 : j - S.pieces.length = 0 := by
     rcases Nat.eq_zero_or_pos (j - S.pieces.length) with e | e
     · exact e
     · rw [List.getElem?_eq_none (by simp; omega)] at h1'; cases h1'
    rw [hj0] at h1' h2'
    simp at h1' h2'
    subst h1' h2'
    exact hfn.keep fun k _ cs t hb he => hot2 (hot he (boxT_ne hb (by decide))) (boxT_ne hb (by decide)), hnd, fun q hq g hm => by
  rcases List.mem_append.1 hq with hq | hq
  · exact h.fbase q hq g hm
  · simp at hq; subst hq; exact hfb g hm, (h.labels.kept hg (rowsApart h.labels h.pieces (by decide))).kept hs (.inr (rowb (h.labels.kept hg (rowsApart h.labels h.pieces (by decide))) (by decide))), (h.fresh.kept hg (rowsApart h.fresh h.pieces (by decide))).kept hs (.inr (rowb (h.fresh.kept hg (rowsApart h.fresh h.pieces (by decide))) (by decide))), h.b0, h.m0⟩, ?_⟩
 exact ⟨hs.os.trans hg.os, hs.tape.trans hg.tape, hs.output.trans hg.output, Nat.le_trans hg.size hs.size, fun g hk hn => (hs.block g (Nat.lt_of_lt_of_le hk hg.size) (fun e => hn (.inl (Option.some.inj e)))).trans (hg.block g hk (fun e => hn (.inr (.inr (.inl (e.symm))))))⟩
theorem Par.vlPush {B : PB} {S : PS} {w w6 : World} (h : Par B S w) (x : List UInt8 × Int) (v : Value) (hrow : w6.ownsRow B.n0 42 2 v (S.labels.length + 1) ((S.labels.flatMap labelCells) ++ labelCells x)) (hg : w.grownBy w6 B.vl.ownBlock)
 (hblk : v.ownBlock = B.vl.ownBlock ∨ v.ownBlock = some w.heap.size) :
 Par { B with vl := v } { S with labels := S.labels ++ [x] } (w6.setCell ⟨B.b, 6, none⟩ v) ∧ Off B.owns w (w6.setCell ⟨B.b, 6, none⟩ v) := by
 have hot : ∀ {g : Nat} {cs : Array Value} {t : TypeId} {fr : Nat × Nat}, w.heap[g]? = some (.cells cs t fr) → t ≠ 42 → w6.heap[g]? = some (.cells cs t fr) := fun {g cs t fr} hk hne => (hg.block g (blk_size hk) (rowNot h.labels hk hne)).trans hk
 have hs := setCell_grown w6 B.b 6 v
 have hb6 := hot h.own (by decide)
 have hot2 : ∀ {g : Nat} {cs : Array Value} {t : TypeId} {fr : Nat × Nat}, w6.heap[g]? = some (.cells cs t fr) → t ≠ 75 → (w6.setCell ⟨B.b, 6, none⟩ v).heap[g]? = some (.cells cs t fr) := fun {g cs t fr} hk hne => (hs.block g (blk_size hk) (fun e => by
  rw [Option.some.inj e, hb6] at hk
  injection (Option.some.inj hk) with _ q
  exact hne q.symm)).trans hk
 have rowb : ∀ {base : Nat} {e : TypeId} {size : Nat} {u : Value} {n : Nat} {xs : List Value}, w6.ownsRow base e size u n xs → e ≠ 75 → u.ownBlock ≠ some B.b := fun {base e size u n xs} hr hne e2 => by
  obtain ⟨c, hc⟩ := row_type hr e2
  rw [hb6] at hc
  injection (Option.some.inj hc) with _ q
  exact hne q.symm
 have hvb : v.ownBlock ≠ some B.b := rowb hrow (by decide)
 have hmne : some B.mb ≠ B.vl.ownBlock := fun e => by
  obtain ⟨es, clock, hb, _⟩ := h.map
  obtain ⟨c, hc⟩ := row_type h.labels e.symm
  rw [hb] at hc; cases hc
 have hmb : some B.mb ≠ some B.b := fun e => by
  obtain ⟨es, clock, hb, _⟩ := h.map
  rw [Option.some.inj e, h.own] at hb; cases hb
 refine ⟨⟨setCell_row hb6 6 v rfl, h.toks.keep fun g cur hk => hot2 (hot hk (by decide)) (by decide), (h.map.kept hg hmne).kept hs hmb, (h.pieces.kept hg (rowsApart h.pieces h.labels (by decide))).kept hs (.inr (rowb (h.pieces.kept hg (rowsApart h.pieces h.labels (by decide))) (by decide))), h.fsl, fun j y q h1 h2 => by
  exact (h.fns j y q h1 h2).keep fun k _ cs t hb he => hot2 (hot he (boxT_ne hb (by decide))) (boxT_ne hb (by decide)), h.nodup, h.fbase, by
  show (w6.setCell ⟨B.b, 6, none⟩ v).ownsRow B.n0 42 2 v (S.labels ++ [x]).length ((S.labels ++ [x]).flatMap labelCells)
  rw [List.flatMap_append, List.length_append]
  simpa using hrow.kept hs (.inr hvb), (h.fresh.kept hg (rowsApart h.fresh h.labels (by decide))).kept hs (.inr (rowb (h.fresh.kept hg (rowsApart h.fresh h.labels (by decide))) (by decide))), h.b0, h.m0⟩, ?_⟩
 exact ⟨hs.os.trans hg.os, hs.tape.trans hg.tape, hs.output.trans hg.output, Nat.le_trans hg.size hs.size, fun g hk hn => (hs.block g (Nat.lt_of_lt_of_le hk hg.size) (fun e => hn (.inl (Option.some.inj e)))).trans (hg.block g hk (fun e => hn (.inr (.inr (.inr (.inl (e.symm)))))))⟩
theorem Par.vlStep {B : PB} {w w6 : World} {v : Value} (ho : Off B.owns w w6) (hblk : v.ownBlock = B.vl.ownBlock ∨ v.ownBlock = some w.heap.size) : Step B w { B with vl := v } w6 := by
 refine ⟨ho, ?_, rfl, rfl, rfl⟩
 rintro g (e | e | e | e | e | e)
 · exact .inl (.inl (e))
 · exact .inl (.inr (.inl (e)))
 · exact .inl (.inr (.inr (.inl (e))))
 · rcases hblk with q | q
   · exact .inl (.inr (.inr (.inr (.inl (q.symm.trans e)))))
   · rw [q] at e
     exact .inr (Nat.le_of_eq (Option.some.inj e))
 · exact .inl (.inr (.inr (.inr (.inr (.inl (e))))))
 · exact .inl (.inr (.inr (.inr (.inr (.inr (e))))))
theorem Par.vfPush {B : PB} {S : PS} {w w6 : World} (h : Par B S w) (x : List UInt8) (v : Value) (hrow : w6.ownsRow B.n0 9 1 v (S.fresh.length + 1) ((S.fresh.flatMap freshCells) ++ freshCells x)) (hg : w.grownBy w6 B.vf.ownBlock)
 (hblk : v.ownBlock = B.vf.ownBlock ∨ v.ownBlock = some w.heap.size) :
 Par { B with vf := v } { S with fresh := S.fresh ++ [x] } (w6.setCell ⟨B.b, 8, none⟩ v) ∧ Off B.owns w (w6.setCell ⟨B.b, 8, none⟩ v) := by
 have hot : ∀ {g : Nat} {cs : Array Value} {t : TypeId} {fr : Nat × Nat}, w.heap[g]? = some (.cells cs t fr) → t ≠ 9 → w6.heap[g]? = some (.cells cs t fr) := fun {g cs t fr} hk hne => (hg.block g (blk_size hk) (rowNot h.fresh hk hne)).trans hk
 have hs := setCell_grown w6 B.b 8 v
 have hb6 := hot h.own (by decide)
 have hot2 : ∀ {g : Nat} {cs : Array Value} {t : TypeId} {fr : Nat × Nat}, w6.heap[g]? = some (.cells cs t fr) → t ≠ 75 → (w6.setCell ⟨B.b, 8, none⟩ v).heap[g]? = some (.cells cs t fr) := fun {g cs t fr} hk hne => (hs.block g (blk_size hk) (fun e => by
  rw [Option.some.inj e, hb6] at hk
  injection (Option.some.inj hk) with _ q
  exact hne q.symm)).trans hk
 have rowb : ∀ {base : Nat} {e : TypeId} {size : Nat} {u : Value} {n : Nat} {xs : List Value}, w6.ownsRow base e size u n xs → e ≠ 75 → u.ownBlock ≠ some B.b := fun {base e size u n xs} hr hne e2 => by
  obtain ⟨c, hc⟩ := row_type hr e2
  rw [hb6] at hc
  injection (Option.some.inj hc) with _ q
  exact hne q.symm
 have hvb : v.ownBlock ≠ some B.b := rowb hrow (by decide)
 have hmne : some B.mb ≠ B.vf.ownBlock := fun e => by
  obtain ⟨es, clock, hb, _⟩ := h.map
  obtain ⟨c, hc⟩ := row_type h.fresh e.symm
  rw [hb] at hc; cases hc
 have hmb : some B.mb ≠ some B.b := fun e => by
  obtain ⟨es, clock, hb, _⟩ := h.map
  rw [Option.some.inj e, h.own] at hb; cases hb
 refine ⟨⟨setCell_row hb6 8 v rfl, h.toks.keep fun g cur hk => hot2 (hot hk (by decide)) (by decide), (h.map.kept hg hmne).kept hs hmb, (h.pieces.kept hg (rowsApart h.pieces h.fresh (by decide))).kept hs (.inr (rowb (h.pieces.kept hg (rowsApart h.pieces h.fresh (by decide))) (by decide))), h.fsl, fun j y q h1 h2 => by
  exact (h.fns j y q h1 h2).keep fun k _ cs t hb he => hot2 (hot he (boxT_ne hb (by decide))) (boxT_ne hb (by decide)), h.nodup, h.fbase, (h.labels.kept hg (rowsApart h.labels h.fresh (by decide))).kept hs (.inr (rowb (h.labels.kept hg (rowsApart h.labels h.fresh (by decide))) (by decide))), by
  show (w6.setCell ⟨B.b, 8, none⟩ v).ownsRow B.n0 9 1 v (S.fresh ++ [x]).length ((S.fresh ++ [x]).flatMap freshCells)
  rw [List.flatMap_append, List.length_append]
  simpa using hrow.kept hs (.inr hvb), h.b0, h.m0⟩, ?_⟩
 exact ⟨hs.os.trans hg.os, hs.tape.trans hg.tape, hs.output.trans hg.output, Nat.le_trans hg.size hs.size, fun g hk hn => (hs.block g (Nat.lt_of_lt_of_le hk hg.size) (fun e => hn (.inl (Option.some.inj e)))).trans (hg.block g hk (fun e => hn (.inr (.inr (.inr (.inr (.inl (e.symm))))))))⟩
theorem Par.vfStep {B : PB} {w w6 : World} {v : Value} (ho : Off B.owns w w6) (hblk : v.ownBlock = B.vf.ownBlock ∨ v.ownBlock = some w.heap.size) : Step B w { B with vf := v } w6 := by
 refine ⟨ho, ?_, rfl, rfl, rfl⟩
 rintro g (e | e | e | e | e | e)
 · exact .inl (.inl (e))
 · exact .inl (.inr (.inl (e)))
 · exact .inl (.inr (.inr (.inl (e))))
 · exact .inl (.inr (.inr (.inr (.inl (e)))))
 · rcases hblk with q | q
   · exact .inl (.inr (.inr (.inr (.inr (.inl (q.symm.trans e))))))
   · rw [q] at e
     exact .inr (Nat.le_of_eq (Option.some.inj e))
 · exact .inl (.inr (.inr (.inr (.inr (.inr (e))))))
end Asm
end Go.Proofs.YtabmlbnnhhpaoaaGreatDoor
set_option maxHeartbeats 4000000
set_option maxRecDepth 100000
namespace Go.Proofs.YtabmlbnnhhpaoaaGreatDoor
open Go.RowKit Go.Shelf
namespace Asm
theorem Par.clear {B : PB} {S : PS} {w : World} (h : Par B S w) :
 Par { B with vf := .slice none 0 0 } { S with fresh := [] } (w.setCell ⟨B.b, 8, none⟩ (.slice none 0 0)) ∧ Step B w { B with vf := .slice none 0 0 } (w.setCell ⟨B.b, 8, none⟩ (.slice none 0 0)) := by
 have hg := setCell_grown w B.b 8 (.slice none 0 0)
 obtain ⟨n1, n2, n3, n4⟩ := h.rowNe
 have hot : ∀ {g : Nat} {o : Obj}, w.heap[g]? = some o → g ≠ B.b → (w.setCell ⟨B.b, 8, none⟩ (.slice none 0 0)).heap[g]? = some o := fun {g o} hk hne =>
  (hg.block g (blk_size hk) (fun e => hne (Option.some.inj e))).trans hk
 refine ⟨⟨setCell_row h.own 8 _ rfl, h.toks.keep fun g cur hk => hot hk (fun e => by rw [e, h.own] at hk; cases hk), h.map.kept hg (fun e => n4 (Option.some.inj e)), h.pieces.kept hg (.inr n1), h.fsl, ?_, h.nodup, h.fbase, h.labels.kept hg (.inr n2), World.ownsRow_nil _ _ _ _, h.b0, h.m0⟩, ?_⟩
 · intro j x f h1 h2
   exact (h.fns j x f h1 h2).keep fun k _ cs t hb he => hot he (fun e => by rw [e, h.own] at he; injection (Option.some.inj he) with _ q; exact boxT_ne hb (by decide) q.symm)
 · refine ⟨⟨hg.os, hg.tape, hg.output, hg.size, fun g hk hn => hg.block g hk (fun e => hn (.inl (Option.some.inj e)))⟩, ?_, rfl, rfl, rfl⟩
   rintro g (e | e | e | e | e | e)
   · exact .inl (.inl e)
   · exact .inl (.inr (.inl e))
   · exact .inl (.inr (.inr (.inl e)))
   · exact .inl (.inr (.inr (.inr (.inl e))))
   · simp [Value.ownBlock] at e
   · exact .inl (.inr (.inr (.inr (.inr (.inr e)))))
theorem Par.rowMb {B : PB} {S : PS} {w : World} (h : Par B S w) : B.vp.ownBlock ≠ some B.mb ∧ B.vl.ownBlock ≠ some B.mb ∧ B.vf.ownBlock ≠ some B.mb := by
 obtain ⟨es, clock, hb, _⟩ := h.map
 refine ⟨fun e => ?_, fun e => ?_, fun e => ?_⟩
 · obtain ⟨c, hc⟩ := row_type h.pieces e; rw [hb] at hc; cases hc
 · obtain ⟨c, hc⟩ := row_type h.labels e; rw [hb] at hc; cases hc
 · obtain ⟨c, hc⟩ := row_type h.fresh e; rw [hb] at hc; cases hc
theorem Par.putMap {B : PB} {S : PS} {w w5 : World} (h : Par B S w) {D : DataW Unit} {n : Nat} (hm : w5.ownsMap Tryz.prog 9 (plainElem (H := Unit) Tryz.prog 2) B.mb n D) (hg : w.grownBy w5 (some B.mb)) :
 Par B { S with places := D, puts := n } w5 ∧ Step B w B w5 := by
 obtain ⟨n1, n2, n3⟩ := h.rowMb
 have hot : ∀ {g : Nat} {cs : Array Value} {t : TypeId} {fr : Nat × Nat}, w.heap[g]? = some (.cells cs t fr) → w5.heap[g]? = some (.cells cs t fr) := fun {g cs t fr} hk =>
  (hg.block g (blk_size hk) (fun e => by
   obtain ⟨es, clock, hb, _⟩ := h.map
   rw [← Option.some.inj e, hk] at hb; cases hb)).trans hk
 refine ⟨⟨hot h.own, h.toks.keep fun g cur hk => hot hk, hm, h.pieces.kept hg (.inr n1), h.fsl, ?_, h.nodup, h.fbase, h.labels.kept hg (.inr n2), h.fresh.kept hg (.inr n3), h.b0, h.m0⟩, ?_⟩
 · intro j x f h1 h2
   exact (h.fns j x f h1 h2).keep fun k _ cs t _ he => hot he
 · exact ⟨⟨hg.os, hg.tape, hg.output, hg.size, fun g hk hn => hg.block g hk (fun e => hn (.inr (.inl (Option.some.inj e))))⟩, fun g hk => .inl hk, rfl, rfl, rfl⟩
end Asm
theorem mark_none (B : Asm.PB) (S : Asm.PS) (hS : S.fresh = []) (w : World) (hP : Asm.Par B S w) :
 Calls Tryz.prog 55 #[.pointer (some ⟨B.b, 0, none⟩)] w fun e w' => e = .returned (.tuple #[]) ∧ ∃ B', Asm.Par B' S w' ∧ Asm.Step B w B' w' := by
 have hfr := hP.fresh
 rw [hS] at hfr
 obtain ⟨a, c, ev⟩ : ∃ a c, B.vf = .slice a 0 c := by
  rcases hfr.2 with ⟨e, _⟩ | ⟨g, cap, cur, e, _⟩
  · exact ⟨_, _, e⟩
  · exact ⟨_, _, e⟩
 obtain ⟨dp, fp⟩ := blk_facts hP.own
 have c8 : w.cell? ⟨B.b, 8, none⟩ = some (.slice a 0 c) := (dp 8).trans (by rw [← ev]; rfl)
 have z1 := blk_size hP.own
 have f8 := fp 8
 have hcl := hP.clear
 rw [show ({ S with fresh := [] } : Asm.PS) = S from by rw [← hS]] at hcl
 clear dp fp
 go_enter Tryz.func55, Tryz.ntmps55
 go_wp2_with fail
 refine wp_loop_rounds 1 ?_
 rw [rounds_succ]
 go_wp2_with fail
 go_end0
 exact ⟨rfl, _, hcl⟩
theorem cells_new2 (w : World) (a b : Value) (t : TypeId) : ∀ (j : Nat) (u : Value), [a, b][j]? = some u → (w.alloc (.cells #[a, b] t)).cell? ((⟨w.heap.size, 0, none⟩ : Addr).add j) = some u := by
 have h := (blk_facts (heap_alloc_new w (.cells #[a, b] t))).1
 intro j u hj
 match j, hj with
 | 0, hj => exact (h 0).trans (by simpa using hj)
 | 1, hj => exact (h 1).trans (by simpa using hj)
 | j + 2, hj => simp at hj
theorem asm_info36 : (Tryz.prog.info? 42).map (fun i => (i.zero, i.size, i.bytes)) = some (some (.agg #[.string ⟨#[]⟩, .int .u32 0]), 2, 24) := by kernel_rfl
theorem mark_one (B : Asm.PB) (S : Asm.PS) (x : List UInt8) (hS : S.fresh = [x]) (hx : x.length ≤ 1000000) (hnew : Maps.has S.places (.string x) = false) (h0 : 0 ≤ S.origin) (h1 : S.origin + 4 * (S.count : Int) < 4294967296) (hc : S.count ≤ 1000000) (hn : S.puts < 1000000) (hn2 : S.labels.length < 1000000) (w : World) (hP : Asm.Par B S w) :
 Calls Tryz.prog 55 #[.pointer (some ⟨B.b, 0, none⟩)] w fun e w' => e = .returned (.tuple #[]) ∧ ∃ B', Asm.Par B' { S with labels := S.labels ++ [(x, S.origin + 4 * (S.count : Int))], places := S.places.put (.string x) (.lit (.int .i64 (S.origin + 4 * (S.count : Int)))), puts := S.puts + 1, placed := true, fresh := [] } w' ∧ Asm.Step B w B' w' := by
 have hfr := hP.fresh
 rw [hS] at hfr
 obtain ⟨g, cap, cur, ev, hg0, hg, hcap, hcm, hcs, htk⟩ : ∃ g cap cur, B.vf = .slice (some ⟨g, 0, none⟩) 1 cap ∧ B.n0 ≤ g ∧ w.heap[g]? = some (.cells cur 9 (0, 0)) ∧ 1 ≤ cap ∧ cap ≤ maxLen ∧ cur.size = cap * 1 ∧ cur[0]? = some (.string ⟨x.toArray⟩) := by
  rcases hfr.2 with ⟨e, h⟩ | ⟨g, cap, cur, e, hb, hg, h1, h2, h3, h4⟩
  · simp at h
  · refine ⟨g, cap, cur, e, hb, hg, h1, h2, h3, ?_⟩
    have h5 : (cur.toList.take 1)[0]? = some (.string ⟨x.toArray⟩) := by
     have h4' := h4
     simp only [List.length_singleton, Nat.mul_one] at h4'
     rw [h4']; rfl
    rw [← Array.getElem?_toList]
    simpa [List.getElem?_take] using h5
 have hkey : keyOf Tryz.prog 9 (.string ⟨x.toArray⟩) = some (.string x) := Go.WideMaps.keyOf_string_mk Tryz.underlying9 (by simp [ByteArray.size, maxLen]; omega)
 obtain ⟨v0, ps0, hlk, _⟩ := hP.map.look_ok (Maps.string_keyed Tryz.underlying9) Tryz.underlying71 (Tryz.zeroValue2 w) (plainElem_int Tryz.underlying2 (by decide)) hkey
 rw [hnew] at hlk
 obtain ⟨dp, fp⟩ := blk_facts hP.own
 obtain ⟨dg, fg⟩ := blk_facts hg
 have c8 : w.cell? ⟨B.b, 8, none⟩ = some (.slice (some ⟨g, 0, none⟩) 1 cap) := (dp 8).trans (by rw [← ev]; rfl)
 have c7 : w.cell? ⟨B.b, 7, none⟩ = some (.map (some B.mb)) := dp 7
 have c7d : w.drew.cell? ⟨B.b, 7, none⟩ = some (.map (some B.mb)) := c7
 have e0 : w.cell? ⟨g, 0, none⟩ = some (.string ⟨x.toArray⟩) := (dg 0).trans htk
 have z1 := blk_size hP.own
 have z2 := blk_size hg
 clear dp fp dg fg
 go_enter Tryz.func55, Tryz.ntmps55
 go_wp2_with fail
 refine wp_loop_rounds 2 ?_
 rw [rounds_succ]
 go_wp2_with fail
 go_region_held3 (fun W => W.cell? ⟨B.b, 7, none⟩ = some (.map (some B.mb)))
  (first | exact c7 | exact c7d | exact c7y | exact c7z | go_keep)
  ((first | (go_at_call 98; refine (at_calls B S h0 (by omega) hc _ (by first | exact hP | exact hP.kept (below_drewN' (Below.refl _ _) 1))).mono ?_; rintro e y1 ⟨rfl, hy1⟩; have hPy : Asm.Par B S y1 := (hP.kept (by first | exact Below.refl _ _ | exact below_drewN' (Below.refl _ _) 1)).kept hy1; have c7y : y1.cell? ⟨B.b, 7, none⟩ = some (.map (some B.mb)) := (blk_facts hPy.own).1 7; obtain ⟨w5, hup, hmap5, hgr5⟩ := hPy.map.update (Maps.string_keyed Tryz.underlying9) Tryz.underlying71 (Nat.lt_trans hn (by decide)) hkey (plainElem_int Tryz.underlying2 (a := S.origin + 4 * (S.count : Int)) (WalkArith.wf_i64 (by omega))); obtain ⟨hP5, hst5⟩ := hPy.putMap hmap5 hgr5; have c7z : w5.cell? ⟨B.b, 7, none⟩ = some (.map (some B.mb)) := (blk_facts hP5.own).1 7)))
 have hby : Below w.heap.size w y1 := below_next (below_drewN' (Below.refl _ _) 1) hy1
 have hstA := Asm.Step.afterBelow hby hst5
 clear hlk hup hmap5 hgr5 c7 c7d c7y c7z hy1 hby hst5 hPy c8 e0 hg
 obtain ⟨a, ha⟩ : ∃ a, S.origin + 4 * (S.count : Int) = a := ⟨_, rfl⟩
 have haw : IntKind.u32.wrap a = a := IntWalk.u32_in _ (by omega)
 rw [ha] at hP5 ⊢
 obtain ⟨dp, fp⟩ := blk_facts hP5.own
 have c6 : w5.cell? ⟨B.b, 6, none⟩ = some B.vl := dp 6
 have c6d : w5.drew.cell? ⟨B.b, 6, none⟩ = some B.vl := c6
 have z5 := blk_size hP5.own
 have g6 := fp 6
 clear dp fp
 obtain ⟨i0, hinf, hz0, hz1, hz2⟩ := info_parts asm_info36
 go_wp2_with fail
 go_region_law (first | (go_simp; go_at_call 98; refine (at_calls B { S with places := S.places.put (.string x) (.lit (.int .i64 a)), puts := S.puts + 1 } h0 (by show S.origin ≤ _; omega) hc _ (by first | exact hP5 | exact hP5.kept (below_drewN' (Below.refl w5.heap.size w5) 1))).mono ?_; rintro e y2 ⟨rfl, hy2⟩; have hPy := (hP5.kept (by first | exact Below.refl _ _ | exact below_drewN' (Below.refl _ _) 1)).kept hy2; have c6y : y2.cell? ⟨B.b, 6, none⟩ = some B.vl := (blk_facts hPy.own).1 6; have hW := hPy.kept (below_alloc' (Below.refl y2.heap.size y2) (.cells #[.string ⟨x.toArray⟩, .int .u32 a] 42)); have c6w : (y2.alloc (.cells #[.string ⟨x.toArray⟩, .int .u32 a] 42)).cell? ⟨B.b, 6, none⟩ = some B.vl := (blk_facts hW.own).1 6; have hrowY := hPy.labels.alloc (.cells #[.string ⟨x.toArray⟩, .int .u32 a] 42)) | (refine step_append_lies _ rfl _ _ 25 rfl B.n0 42 i0 _ 2 24 Tryz.underlying25 hinf hz0 hz1 hz2 rfl (by decide) _ _ _ rfl hrowY ⟨y2.heap.size, 0, none⟩ 1 1 [.string ⟨x.toArray⟩, .int .u32 a] rfl rfl (cells_new2 _ _ _ _) (by simp [Value.oneCell']) (by decide) (Nat.le_of_lt_succ (Nat.lt_of_lt_of_le (Nat.succ_lt_succ hn2) (by decide))) (by have : S.labels.length < 1000000 := hn2; show (S.labels.length + 1) * 24 ≤ _; omega) (by have := hPy.base B.b (.inl rfl); have := blk_size hPy.own; rw [alloc_size]; omega) _ rfl ?_; intro g6' cap6 w6 hrow6 hgr6 hgb6 hlt6; have k6 := (hgr6.block B.b (blk_size hW.own) (Asm.rowNot hW.labels hW.own (by decide))).trans hW.own; have c6z : w6.cell? ⟨B.b, 6, none⟩ = some B.vl := (blk_facts k6).1 6; have f6z := (blk_facts k6).2 6))
 all_goals obtain ⟨hP7, ho7⟩ := hW.vlPush (x, a) (.slice (some ⟨g6', 0, none⟩) (S.labels.length + 1) cap6) hrow6 hgr6 (show _ ∨ _ from (show B.vl.ownBlock = some g6' ∨ g6' = (y2.alloc (.cells #[.string ⟨x.toArray⟩, .int .u32 a] 42)).heap.size from hgb6).elim (fun e => .inl e.symm) (fun e => .inr (congrArg some e)))
 all_goals have hst7 := Asm.Par.vlStep (v := .slice (some ⟨g6', 0, none⟩) (S.labels.length + 1) cap6) ho7 (show _ ∨ _ from (show B.vl.ownBlock = some g6' ∨ g6' = (y2.alloc (.cells #[.string ⟨x.toArray⟩, .int .u32 a] 42)).heap.size from hgb6).elim (fun e => .inl e.symm) (fun e => .inr (congrArg some e)))
 all_goals have hst8 := hstA.trans (Asm.Step.afterBelow (below_next (below_next (by first | exact Below.refl _ _ | exact below_drewN' (Below.refl w5.heap.size w5) 1) hy2) (below_alloc' (Below.refl y2.heap.size y2) (.cells #[.string ⟨x.toArray⟩, .int .u32 a] 42))) hst7)
 all_goals clear hst7 ho7 hgr6 hgb6 hlt6 c6w hW k6 c6z f6z hrowY c6y hPy hy2 c6 c6d z5 g6 hstA hrow6 hP5
 all_goals generalize w6.setCell _ _ = W7 at hP7 hst8 ⊢
 all_goals obtain ⟨d7, f7⟩ := blk_facts hP7.own
 all_goals have c8 : W7.cell? ⟨B.b, 8, none⟩ = some (.slice (some ⟨g, 0, none⟩) 1 cap) := (d7 8).trans (by rw [← ev]; rfl)
 all_goals have c3 : W7.cell? ⟨B.b, 3, none⟩ = some (.bool S.placed) := d7 3
 all_goals have z7 : B.b < W7.heap.size := blk_size hP7.own
 all_goals have g3 : W7.frozen? ⟨B.b, 3, none⟩ = false := f7 3
 all_goals clear d7 f7
 all_goals obtain ⟨hP8, hst9⟩ := hP7.set 3 (.bool true) B.vt S.line S.toks S.origin true S.count rfl hP7.toks
 all_goals have hst10 := hst8.trans hst9
 all_goals go_wp2_with fail
 all_goals rw [rounds_succ]
 all_goals go_wp2_with fail
 all_goals refine (at_calls _ _ (by exact h0) (by show S.origin ≤ _; omega) (by exact hc) _ hP8).mono ?_
 all_goals rintro e y3 ⟨rfl, hy3⟩
 all_goals have hP9 := hP8.kept hy3
 all_goals have hst11 := hst10.belowAfter hy3
 all_goals have g9 : y3.frozen? ⟨B.b, 8, none⟩ = false := (blk_facts hP9.own).2 8
 all_goals have c9 : y3.cell? ⟨B.b, 8, none⟩ = some B.vf := (blk_facts hP9.own).1 8
 all_goals have z9 : B.b < y3.heap.size := blk_size hP9.own
 all_goals obtain ⟨hP10, hst12⟩ := hP9.clear
 all_goals have hst13 := hst11.trans hst12
 all_goals go_wp2_with fail
 all_goals go_end0
 all_goals subst ha
 all_goals exact ⟨rfl, _, hP10, hst13⟩
end Go.Proofs.YtabmlbnnhhpaoaaGreatDoor
set_option maxHeartbeats 2000000
set_option maxRecDepth 100000
namespace Go.Proofs.YtabmlbnnhhpaoaaGreatDoor
open Go.RowKit Go.Shelf
namespace Asm
def litInt : DataW Unit → Int
 | .lit (.int .i64 c) => c
 | _ => 0
def valOf (S : PS) (v : Val) : Int := if v.name = [] then v.n else litInt (S.places.atKey (.string v.name) (.lit (.int .i64 0)))
def valOk (S : PS) (v : Val) : Bool := decide (v.name = []) || Maps.has S.places (.string v.name)
def goes (op : Int) : Bool := decide (32 ≤ op) && decide (op ≤ 38)
end Asm
theorem goes_calls (op : Int) (w : World) : Calls Tryz.prog 37 #[.int .i64 op] w fun e w' => e = .returned (.bool (Asm.goes op)) ∧ w' = w := by
 go_enter Tryz.func37, Tryz.ntmps37
 go_wp2_with fail
 all_goals (go_ret; refine ⟨congrArg (fun b => Ending.returned (.bool b)) ?_, rfl⟩; rw [Bool.eq_iff_iff]; simp [Asm.goes]; try omega)
theorem of_val (B : Asm.PB) (S : Asm.PS) (v : Asm.Val) (hl : v.name.length ≤ 1000000) (hv : Asm.valOk S v = true) (w : World) (hP : Asm.Par B S w) :
 Calls Tryz.prog 136 #[.pointer (some ⟨B.b, 0, none⟩), .agg #[.string ⟨v.name.toArray⟩, .int .i64 v.n]] w fun e w' => e = .returned (.int .i64 (Asm.valOf S v)) ∧ Below w.heap.size w w' := by
 have hb0 : Below w.heap.size w (w.alloc (.cells #[.string ⟨v.name.toArray⟩, .int .i64 v.n] 195)) := below_alloc' (Below.refl _ _) _
 have hP1 := hP.kept hb0
 have k1 := heap_alloc_new w (.cells #[.string ⟨v.name.toArray⟩, .int .i64 v.n] 195)
 by_cases hn : v.name = []
 · have hn' : (⟨v.name.toArray⟩ : ByteArray) = ⟨#[]⟩ := by rw [hn]
   rw [hn'] at k1 hb0 ⊢
   go_enter Tryz.func136, Tryz.ntmps136
   go_wp2_with fail
   go_ret
   exact ⟨by simp [Asm.valOf, hn], hb0⟩
 · have hhas : Maps.has S.places (.string v.name) = true := by simpa [Asm.valOk, hn] using hv
   have hkey : keyOf Tryz.prog 9 (.string ⟨v.name.toArray⟩) = some (.string v.name) := Go.WideMaps.keyOf_string_mk Tryz.underlying9 (by simp [ByteArray.size, maxLen]; omega)
   obtain ⟨W, hW⟩ : ∃ W, w.alloc (.cells #[.string ⟨v.name.toArray⟩, .int .i64 v.n] 195) = W := ⟨_, rfl⟩
   rw [hW] at hP1 hb0 k1
   obtain ⟨v0, ps0, hlk, hv0⟩ := hP1.map.look_ok (Maps.string_keyed Tryz.underlying9) Tryz.underlying71 (Tryz.zeroValue2 W) (plainElem_int Tryz.underlying2 (by decide)) hkey
   obtain ⟨v1, ps1, hlkd, hv1⟩ := hP1.map.drew.look_ok (Maps.string_keyed Tryz.underlying9) Tryz.underlying71 (Tryz.zeroValue2 W.drew) (plainElem_int Tryz.underlying2 (by decide)) hkey
   rw [hhas] at hlk hlkd
   obtain ⟨c, rfl, hc, _⟩ := plainElem_int_inv Tryz.underlying2 hv0
   obtain ⟨c1, rfl, hc1, _⟩ := plainElem_int_inv Tryz.underlying2 hv1
   have hcv : Asm.valOf S v = c := by unfold Asm.valOf; rw [if_neg hn]; exact congrArg Asm.litInt (congrArg Prod.fst hc)
   have hcv1 : Asm.valOf S v = c1 := by unfold Asm.valOf; rw [if_neg hn]; exact congrArg Asm.litInt (congrArg Prod.fst hc1)
   obtain ⟨dk, fk⟩ := blk_facts k1
   have c7 : W.cell? ⟨B.b, 7, none⟩ = some (.map (some B.mb)) := (blk_facts hP1.own).1 7
   have q0 : W.cell? ⟨w.heap.size, 0, none⟩ = some (.string ⟨v.name.toArray⟩) := dk 0
   have z1 := blk_size hP.own
   have hne2 : (v.name == []) = false := by simpa using hn
   go_enter Tryz.func136, Tryz.ntmps136
   rw [← hcv] at hlk
   rw [← hcv1] at hlkd
   have c7d : W.drew.cell? ⟨B.b, 7, none⟩ = some (.map (some B.mb)) := c7
   have q0d : W.drew.cell? ⟨w.heap.size, 0, none⟩ = some (.string ⟨v.name.toArray⟩) := q0
   go_wp2_with fail
   go_region_held3 (fun w' => w'.cell? ⟨B.b, 7, none⟩ = some (.map (some B.mb)) ∧ w'.cell? ⟨w.heap.size, 0, none⟩ = some (.string ⟨v.name.toArray⟩) ∧ (Instr.lookup 71 (.map (some B.mb)) (.string ⟨v.name.toArray⟩) true).run Tryz.prog w' = .ok (.tuple #[.int .i64 (Asm.valOf S v), .bool true]) w')
    (first | exact ⟨c7, q0, hlk⟩ | exact ⟨c7d, q0d, hlkd⟩ | go_keep)
    (fail)
   all_goals go_wp2_with fail
   go_ret
   exact ⟨by rw [hcv]; rfl, below_drewN' hb0 1⟩
theorem Isa.Laid.setAt {w : World} (h : Isa.Laid w) {g : Nat} (h1 : g ≠ 0) (h2 : g ≠ 4) (i : Nat) (v : Value) : Isa.Laid (w.setCell ⟨g, i, none⟩ v) := by
 have hg := Asm.setCell_grown w g i v
 obtain ⟨⟨t, fr, k1⟩, u, gr, k2⟩ := h
 exact ⟨⟨t, fr, (hg.block _ (blk_size k1) (fun e => h1 (Option.some.inj e).symm)).trans k1⟩, u, gr, (hg.block _ (blk_size k2) (fun e => h2 (Option.some.inj e).symm)).trans k2⟩
namespace Asm
def numAt (S : PS) (at_ : Int) (ins : Ins) (v : Val) : Int := if v.name ≠ [] ∧ goes ins.op = true then (valOf S v - at_).tdiv 4 else valOf S v
def wordAt (S : PS) (at_ : Int) (ins : Ins) (v : Val) : Int := (Isa.enc ins.op ins.d ins.a ins.b (numAt S at_ ins v)).1
structure InsOk (i : Ins) : Prop where
 d : 0 ≤ i.d ∧ i.d ≤ 255
 a : 0 ≤ i.a ∧ i.a ≤ 255
 b : 0 ≤ i.b ∧ i.b ≤ 255
end Asm
theorem encoded1_calls (B : Asm.PB) (S : Asm.PS) (line at_ : Int) (fv : Value) (ins : Asm.Ins) (v : Asm.Val) (hi : Asm.InsOk ins) (hl : v.name.length ≤ 1000000) (hv : Asm.valOk S v = true) (hat0 : 0 ≤ at_) (hat1 : at_ ≤ 4294967296)
 (hn0 : -1099511627776 ≤ Asm.valOf S v) (hn1 : Asm.valOf S v ≤ 1099511627776) (hm0 : -2147483648 ≤ Asm.numAt S at_ ins v) (hm1 : Asm.numAt S at_ ins v ≤ 2147483647) (henc : (Isa.enc ins.op ins.d ins.a ins.b (Asm.numAt S at_ ins v)).2 = 0)
 (w : World) (hL : Isa.Laid w) (hP : Asm.Par B S w) (bv bi k1 k2 : Nat) (hg1 : 0 < bi) (hg2 : 4 < bi) (kv : w.heap[bv]? = some (.cells (Asm.valCells v) 195 (0, 0))) (ki : w.heap[bi]? = some (.cells (Asm.insCells ins) 96 (0, 0))) :
 Calls Tryz.prog 135 #[.pointer (some ⟨B.b, 0, none⟩), .agg #[.int .i64 line, .int .i64 at_, .func (.func 135) #[] #[.pointer (some ⟨k1, 0, none⟩), .pointer (some ⟨k2, 0, none⟩)]], .pointer (some ⟨bv, 0, none⟩), .pointer (some ⟨bi, 0, none⟩)] w fun e w' =>
  ∃ g, e = .returned (.slice (some ⟨g, 0, none⟩) 1 1) ∧ w.heap.size ≤ g ∧ w'.heap[g]? = some (.cells #[.int .u32 (Asm.wordAt S at_ ins v)] 23 (0, 0)) ∧ w'.heap[bi]? = some (.cells (Asm.insCells { ins with imm := Asm.numAt S at_ ins v }) 96 (0, 0)) ∧ Asm.Off (· = bi) w w' := by
 obtain ⟨dv, fv'⟩ := blk_facts kv
 obtain ⟨di, fi⟩ := blk_facts ki
 have v0 : w.cell? ⟨bv, 0, none⟩ = some (.string ⟨v.name.toArray⟩) := dv 0
 have v1 : w.cell? ⟨bv, 1, none⟩ = some (.int .i64 v.n) := dv 1
 have zv := blk_size kv
 have zi := blk_size ki
 clear dv fv' di fi
 go_enter Tryz.func135, Tryz.ntmps135
 have hb0 : Below w.heap.size w (w.alloc (.cells #[.int .i64 line, .int .i64 at_, .func (.func 135) #[] #[.pointer (some ⟨k1, 0, none⟩), .pointer (some ⟨k2, 0, none⟩)]] 82)) := below_alloc' (Below.refl _ _) _
 have kx := heap_alloc_new w (.cells #[.int .i64 line, .int .i64 at_, .func (.func 135) #[] #[.pointer (some ⟨k1, 0, none⟩), .pointer (some ⟨k2, 0, none⟩)]] 82)
 go_wp2_with fail
 refine (of_val B S v hl hv _ (hP.kept hb0)).mono ?_
 rintro e w2 ⟨rfl, hb2⟩
 have hbw := below_next hb0 hb2
 have kv2 := blk_keep hbw kv
 have ki2 := blk_keep hbw ki
 have kx2 := blk_keep hb2 kx
 have hL3 : Isa.Laid (w2.setCell ⟨bi, 4, none⟩ (.int .i32 (Asm.numAt S at_ ins v))) := (hL.below hbw).setAt (by omega) (by omega) _ _
 have ki3 := setCell_row ki2 4 (.int .i32 (Asm.numAt S at_ ins v)) (cs' := #[.int .i64 ins.op, .int .u8 ins.d, .int .u8 ins.a, .int .u8 ins.b, .int .i32 (Asm.numAt S at_ ins v)]) rfl
 have hEnc := Encode_calls ins.op ins.d ins.a ins.b (Asm.numAt S at_ ins v) hi.d hi.a hi.b ⟨hm0, hm1⟩ _ hL3
 obtain ⟨wd, hwd⟩ : ∃ wd, Asm.wordAt S at_ ins v = wd := ⟨_, rfl⟩
 rw [show (Isa.enc ins.op ins.d ins.a ins.b (Asm.numAt S at_ ins v)).1 = wd from hwd, henc] at hEnc
 obtain ⟨m, hm⟩ : ∃ m, Asm.numAt S at_ ins v = m := ⟨_, rfl⟩
 obtain ⟨n, hn⟩ : ∃ n, Asm.valOf S v = n := ⟨_, rfl⟩
 rw [hm] at hm0 hm1 hEnc ki3 hL3
 rw [hn] at hn0 hn1 ⊢
 obtain ⟨dv2, fv2⟩ := blk_facts kv2
 obtain ⟨di2, fi2⟩ := blk_facts ki2
 obtain ⟨dx2, fx2⟩ := blk_facts kx2
 obtain ⟨di3, fi3⟩ := blk_facts ki3
 have v0' : w2.cell? ⟨bv, 0, none⟩ = some (.string ⟨v.name.toArray⟩) := dv2 0
 have i0' : w2.cell? ⟨bi, 0, none⟩ = some (.int .i64 ins.op) := di2 0
 have i1' : w2.cell? ⟨bi, 1, none⟩ = some (.int .u8 ins.d) := di2 1
 have i2' : w2.cell? ⟨bi, 2, none⟩ = some (.int .u8 ins.a) := di2 2
 have i3' : w2.cell? ⟨bi, 3, none⟩ = some (.int .u8 ins.b) := di2 3
 have i4' : w2.cell? ⟨bi, 4, none⟩ = some (.int .i32 ins.imm) := di2 4
 have j4' : (w2.setCell ⟨bi, 4, none⟩ (.int .i32 m)).cell? ⟨bi, 4, none⟩ = some (.int .i32 m) := di3 4
 have f4' := fi2 4
 have x1' : w2.cell? ⟨w.heap.size, 1, none⟩ = some (.int .i64 at_) := dx2 1
 have zi2 := blk_size ki2
 have hw32 : IntKind.i32.wrap m = m := IntWalk.i32_in _ (by omega)
 clear dv2 fv2 di2 fi2 dx2 fx2 di3 fi3
 by_cases hn0' : v.name = []
 · have hmn : m = n := by rw [← hm, ← hn]; simp [Asm.numAt, hn0']
   subst hmn
   rw [hn0'] at v0'
   go_wp2_with fail
   refine hEnc.mono ?_
   rintro e w4 ⟨rfl, hb4⟩
   have ki4 := blk_keep hb4 ki3
   obtain ⟨di4, fi4⟩ := blk_facts ki4
   have p4 : w4.cell? ⟨bi, 4, none⟩ = some (.int .i32 m) := di4 4
   have off4 : Asm.Off (· = bi) w (w4.alloc (.cells #[.int .u32 wd] 23)) := by
    have hs := Asm.setCell_grown w2 bi 4 (.int .i32 m)
    have hb5 := below_next hb4 (below_alloc' (Below.refl w4.heap.size w4) (.cells #[.int .u32 wd] 23))
    exact ⟨hb5.os.trans (hs.os.trans hbw.os), hb5.tape.trans (hs.tape.trans hbw.tape), hb5.output.trans (hs.output.trans hbw.output), Nat.le_trans hbw.size (Nat.le_trans hs.size hb5.size), fun g hg hne => (hb5.block g (by have := hs.size; have := hbw.size; omega)).trans ((hs.block g (by have := hbw.size; omega) (fun e => hne (Option.some.inj e))).trans (hbw.block g hg))⟩
   have hsz4 : w.heap.size ≤ w4.heap.size := Nat.le_trans hbw.size (Nat.le_trans (Asm.setCell_grown w2 bi 4 (.int .i32 m)).size hb4.size)
   clear di4 fi4
   go_wp2_with fail
   go_ret
   exact ⟨w4.heap.size, rfl, hsz4, by rw [hwd]; exact heap_alloc_new _ _, by first | (rw [hm]; exact blk_alloc _ ki4) | exact blk_alloc _ (by simpa [Asm.insCells, hm] using ki4), off4⟩
 · have hne2 : (v.name == []) = false := by simpa using hn0'
   go_wp2_with fail
   refine (goes_calls ins.op _).mono ?_
   rintro e w3 ⟨rfl, h3⟩
   rw [h3]
   clear h3
   cases hgo : Asm.goes ins.op with
   | true =>
    have hmn : (n - at_).tdiv 4 = m := by rw [← hm, ← hn]; simp [Asm.numAt, hn0', hgo]
    go_wp2_with fail
    refine hEnc.mono ?_
    rintro e w4 ⟨rfl, hb4⟩
    have ki4 := blk_keep hb4 ki3
    obtain ⟨di4, fi4⟩ := blk_facts ki4
    have p4 : w4.cell? ⟨bi, 4, none⟩ = some (.int .i32 m) := di4 4
    have off4 : Asm.Off (· = bi) w (w4.alloc (.cells #[.int .u32 wd] 23)) := by
     have hs := Asm.setCell_grown w2 bi 4 (.int .i32 m)
     have hb5 := below_next hb4 (below_alloc' (Below.refl w4.heap.size w4) (.cells #[.int .u32 wd] 23))
     exact ⟨hb5.os.trans (hs.os.trans hbw.os), hb5.tape.trans (hs.tape.trans hbw.tape), hb5.output.trans (hs.output.trans hbw.output), Nat.le_trans hbw.size (Nat.le_trans hs.size hb5.size), fun g hg hne => (hb5.block g (by have := hs.size; have := hbw.size; omega)).trans ((hs.block g (by have := hbw.size; omega) (fun e => hne (Option.some.inj e))).trans (hbw.block g hg))⟩
    have hsz4 : w.heap.size ≤ w4.heap.size := Nat.le_trans hbw.size (Nat.le_trans (Asm.setCell_grown w2 bi 4 (.int .i32 m)).size hb4.size)
    clear di4 fi4
    go_wp2_with fail
    go_ret
    exact ⟨w4.heap.size, rfl, hsz4, by rw [hwd]; exact heap_alloc_new _ _, by first | (rw [hm]; exact blk_alloc _ ki4) | exact blk_alloc _ (by simpa [Asm.insCells, hm] using ki4), off4⟩
   | false =>
    have hmn : m = n := by rw [← hm, ← hn]; simp [Asm.numAt, hn0', hgo]
    subst hmn
    go_wp2_with fail
    refine hEnc.mono ?_
    rintro e w4 ⟨rfl, hb4⟩
    have ki4 := blk_keep hb4 ki3
    obtain ⟨di4, fi4⟩ := blk_facts ki4
    have p4 : w4.cell? ⟨bi, 4, none⟩ = some (.int .i32 m) := di4 4
    have off4 : Asm.Off (· = bi) w (w4.alloc (.cells #[.int .u32 wd] 23)) := by
     have hs := Asm.setCell_grown w2 bi 4 (.int .i32 m)
     have hb5 := below_next hb4 (below_alloc' (Below.refl w4.heap.size w4) (.cells #[.int .u32 wd] 23))
     exact ⟨hb5.os.trans (hs.os.trans hbw.os), hb5.tape.trans (hs.tape.trans hbw.tape), hb5.output.trans (hs.output.trans hbw.output), Nat.le_trans hbw.size (Nat.le_trans hs.size hb5.size), fun g hg hne => (hb5.block g (by have := hs.size; have := hbw.size; omega)).trans ((hs.block g (by have := hbw.size; omega) (fun e => hne (Option.some.inj e))).trans (hbw.block g hg))⟩
    have hsz4 : w.heap.size ≤ w4.heap.size := Nat.le_trans hbw.size (Nat.le_trans (Asm.setCell_grown w2 bi 4 (.int .i32 m)).size hb4.size)
    clear di4 fi4
    go_wp2_with fail
    go_ret
    exact ⟨w4.heap.size, rfl, hsz4, by rw [hwd]; exact heap_alloc_new _ _, by first | (rw [hm]; exact blk_alloc _ ki4) | exact blk_alloc _ (by simpa [Asm.insCells, hm] using ki4), off4⟩
end Go.Proofs.YtabmlbnnhhpaoaaGreatDoor
