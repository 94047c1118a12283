/- What this claim needs of Asm8. -/
import Derived.Test.YtabmlbnnhhpaoaaGreatDoorEMAsmMark
import Derived.Deep.RegionLaw
set_option linter.unusedSimpArgs false
set_option linter.unusedVariables false
set_option maxHeartbeats 4000000
set_option maxRecDepth 100000
namespace Go.Proofs.YtabmlbnnhhpaoaaGreatDoor
open Go.RowKit Go.Shelf
namespace Asm
def PS.pos (S : PS) : Int := S.origin + 4 * (S.count : Int)
def marked (S : PS) : PS :=
 match S.fresh with
 | [] => S
 | x :: _ => { S with labels := S.labels ++ [(x, S.pos)], places := S.places.put (.string x) (.lit (.int .i64 S.pos)), puts := S.puts + 1, placed := true, fresh := [] }
def markOk (S : PS) : Bool :=
 match S.fresh with
 | [] => true
 | [x] => decide (x.length ≤ 1000000) && !Maps.has S.places (.string x) && decide (S.pos < 4294967296)
 | _ => false
structure Bnd (S : PS) : Prop where
 o0 : 0 ≤ S.origin
 o1 : S.origin ≤ 4294967296
 c : S.count ≤ 1000000
 puts : S.puts < 1000000
 labels : S.labels.length < 1000000
 pieces : S.pieces.length < 1000000
 line0 : 0 ≤ S.line
 line1 : S.line ≤ 1000000
def pushedX (S : PS) (x : Piece) (n : Nat) : PS :=
 { marked S with pieces := S.pieces ++ [x], count := S.count + n, placed := true }
def pushed (S : PS) (ins : Ins) (v : Val) : PS :=
 { marked S with pieces := S.pieces ++ [⟨S.line, S.pos, ins, v, .enc⟩], count := S.count + 1, placed := true }
theorem marked_same (S : PS) : (marked S).line = S.line ∧ (marked S).toks = S.toks ∧ (marked S).origin = S.origin ∧ (marked S).count = S.count ∧ (marked S).pieces = S.pieces := by
 unfold marked; split <;> simp
end Asm
theorem mark_calls (B : Asm.PB) (S : Asm.PS) (hb : Asm.Bnd S) (hm : Asm.markOk S = true) (w : World) (hP : Asm.Par B S w) :
 Calls Tryz.prog 55 #[.pointer (some ⟨B.b, 0, none⟩)] w fun e w' => e = .returned (.tuple #[]) ∧ ∃ B', Asm.Par B' (Asm.marked S) w' ∧ Asm.Step B w B' w' := by
 cases hf : S.fresh with
 | nil =>
  have : Asm.marked S = S := by unfold Asm.marked; rw [hf]
  rw [this]
  exact mark_none B S hf w hP
 | cons x r =>
  cases r with
  | nil =>
   have hm' : (decide (x.length ≤ 1000000) && !Maps.has S.places (.string x) && decide (S.pos < 4294967296)) = true := by
    have := hm; unfold Asm.markOk at this; rw [hf] at this; exact this
   simp only [Bool.and_eq_true, decide_eq_true_eq, Bool.not_eq_true'] at hm'
   have e : Asm.marked S = { S with labels := S.labels ++ [(x, S.pos)], places := S.places.put (.string x) (.lit (.int .i64 S.pos)), puts := S.puts + 1, placed := true, fresh := [] } := by unfold Asm.marked; rw [hf]
   rw [e]
   exact mark_one B S x hf hm'.1.1 hm'.1.2 hb.o0 hm'.2 hb.c hb.puts hb.labels w hP
  | cons y r =>
   unfold Asm.markOk at hm; rw [hf] at hm; cases hm
theorem Asm.Step.push {B B2 : Asm.PB} {W0 w w2 w7 : World} {v : Value} (fp : Nat × List Nat) (h0 : Asm.Off B.owns W0 w) (hst : Asm.Step B w B2 w2) (ho : Asm.Off B2.owns w2 w7) (hblk : v.ownBlock = B2.vp.ownBlock ∨ ∃ g, v.ownBlock = some g ∧ w2.heap.size ≤ g) (hfo : ∀ g, g ∈ fp.2 → W0.heap.size ≤ g) :
 Asm.Step B W0 { B2 with vp := v, fs := B2.fs ++ [fp] } w7 := by
 have hs2 := Nat.le_trans h0.size hst.off.size
 refine ⟨⟨ho.os.trans (hst.off.os.trans h0.os), ho.tape.trans (hst.off.tape.trans h0.tape), ho.output.trans (hst.off.output.trans h0.output), Nat.le_trans hs2 ho.size, fun g hg hn => ?_⟩, ?_, hst.n0, hst.b, hst.mb⟩
 · have hg2 : g < w.heap.size := Nat.lt_of_lt_of_le hg h0.size
   have hn2 : ¬ B2.owns g := fun h => (hst.owned g h).elim hn (fun h => by omega)
   exact (ho.block g (Nat.lt_of_lt_of_le hg hs2) hn2).trans ((hst.off.block g hg2 hn).trans (h0.block g hg hn))
 · have key : ∀ g, B2.owns g → B.owns g ∨ W0.heap.size ≤ g := fun g h => (hst.owned g h).elim .inl (fun h => .inr (Nat.le_trans h0.size h))
   rintro g (e | e | e | e | e | ⟨q, hq, hm⟩)
   · exact key g (.inl e)
   · exact key g (.inr (.inl e))
   · rcases hblk with q | ⟨k, q, hk⟩
     · exact key g (.inr (.inr (.inl (q.symm.trans e))))
     · have : k = g := Option.some.inj (q.symm.trans e)
       exact .inr (by omega)
   · exact key g (.inr (.inr (.inr (.inl e))))
   · exact key g (.inr (.inr (.inr (.inr (.inl e)))))
   · rcases List.mem_append.1 hq with hq | hq
     · exact key g (.inr (.inr (.inr (.inr (.inr ⟨q, hq, hm⟩)))))
     · simp at hq; subst hq; exact .inr (hfo g hm)
theorem Asm.nodup_push {B : Asm.PB} (h : (B.fs.flatMap (·.2)).Nodup) (fp : Nat × List Nat) (hne : fp.2.Nodup) (hno : ∀ g, g ∈ fp.2 → ¬ B.owns g) : ((B.fs ++ [fp]).flatMap (·.2)).Nodup := by
 have key : ∀ g, ¬ B.owns g → g ∉ B.fs.flatMap (·.2) := fun g hn hm => by
  obtain ⟨q, hq, hg⟩ := List.mem_flatMap.1 hm
  exact hn (.inr (.inr (.inr (.inr (.inr ⟨q, hq, hg⟩)))))
 rw [List.flatMap_append]
 refine List.nodup_append.2 ⟨h, by simpa using hne, ?_⟩
 intro a ha b hb' e
 subst e
 exact key _ (hno a (by simpa using hb')) ha
theorem asm_info63 : (Tryz.prog.info? 82).map (fun i => (i.zero, i.size, i.bytes)) = some (some (.agg #[.int .i64 0, .int .i64 0, .nilFunc]), 3, 24) := by kernel_rfl
theorem put_callsX (B : Asm.PB) (S : Asm.PS) (hb : Asm.Bnd S) (hm : Asm.markOk S = true) (ht : S.toks = []) (n : Nat) (hn1 : 1 ≤ n) (hc : S.count + n ≤ 4096) (hp : S.pos + 4 * (n : Int) ≤ 4294967296) (x : Asm.Piece) (hxl : x.line = S.line) (hxa : x.at_ = S.pos) (w : World) (hP : Asm.Par B S w)
 (fp : Nat × List Nat) (hfn : Asm.FnIs w x fp) (hnd : fp.2.Nodup) (W0 : World) (h0 : Asm.Off B.owns W0 w) (hno : ∀ g, g ∈ fp.2 → ¬ B.owns g ∧ B.n0 ≤ g ∧ W0.heap.size ≤ g) :
 Calls Tryz.prog 104 #[.pointer (some ⟨B.b, 0, none⟩), .int .i64 (n : Int), Asm.fnVal fp] w fun e w' => e = .returned (.tuple #[]) ∧ ∃ B', Asm.Par B' (Asm.pushedX S x n) w' ∧ Asm.Step B W0 B' w' := by
 obtain ⟨fn, hfnn⟩ : ∃ fn, fp.1 = fn := ⟨_, rfl⟩
 obtain ⟨caps, hcaps⟩ : ∃ caps, Asm.capsOf fp = caps := ⟨_, rfl⟩
 have hF : Asm.fnVal fp = .func (.func fn) #[] caps := by unfold Asm.fnVal; rw [hfnn, hcaps]
 rw [hF]
 have hpos : (0 : Int) < (n : Int) := by omega
 have hpn : 0 < n := by omega
 go_enter Tryz.func104, Tryz.ntmps104
 go_wp2_with fail
 refine (end_calls B S ht _ hP).mono ?_
 rintro e w1 ⟨rfl, rfl⟩
 go_wp2_with fail
 refine (mark_calls B S hb hm _ hP).mono ?_
 rintro e w2 ⟨rfl, B2, hP2, hst2⟩
 obtain ⟨m1, m2, m3, m4, m5⟩ := Asm.marked_same S
 have hfn2 : Asm.FnIs w2 x fp := hfn.keep fun g hg cs t _ hk => (hst2.keep hk (hno g hg).1).1
 have hno2 : ∀ g, g ∈ fp.2 → ¬ B2.owns g := fun g hg => by
  obtain ⟨cur, t, hk, _⟩ := hfn.box hg
  exact (hst2.keep hk (hno g hg).1).2
 obtain ⟨i0, hinf, hz0, hz1, hz2⟩ := info_parts asm_info63
 obtain ⟨d2, f2⟩ := blk_facts hP2.own
 have eb : B2.b = B.b := hst2.b
 rw [eb] at d2 f2
 have c5 : w2.cell? ⟨B.b, 5, none⟩ = some B2.vp := d2 5
 have c5d : w2.drew.cell? ⟨B.b, 5, none⟩ = some B2.vp := c5
 have c0 : w2.cell? ⟨B.b, 0, none⟩ = some (.int .i64 S.line) := (d2 0).trans (by rw [← m1]; rfl)
 have c0d : w2.drew.cell? ⟨B.b, 0, none⟩ = some (.int .i64 S.line) := c0
 have z2 : B.b < w2.heap.size := eb ▸ blk_size hP2.own
 clear d2 f2
 obtain ⟨p, hpp⟩ : ∃ p, S.pos = p := ⟨_, rfl⟩
 have hat := fun (y : World) (hy : Asm.Par B2 (Asm.marked S) y) => at_calls B2 (Asm.marked S) (by rw [m3]; exact hb.o0) (by rw [m3]; exact hb.o1) (by rw [m4]; exact hb.c) y hy
 rw [m3, m4, eb, show S.origin + 4 * (S.count : Int) = p from hpp] at hat
 have hfc : ∀ y : World, Asm.Par B2 (Asm.marked S) y → y.cell? ⟨B.b, 5, none⟩ = some B2.vp ∧ y.cell? ⟨B.b, 0, none⟩ = some (.int .i64 S.line) ∧ y.frozen? ⟨B.b, 5, none⟩ = false ∧ B.b < y.heap.size := fun y hy => by
  have h5 := (blk_facts hy.own).1 5
  have h0 := (blk_facts hy.own).1 0
  have h6 := (blk_facts hy.own).2 5
  have h7 := blk_size hy.own
  rw [eb] at h5 h0 h6 h7
  exact ⟨h5, h0.trans (by rw [← m1]; rfl), h6, h7⟩
 have hb2 : B2.n0 ≤ B.b := eb ▸ hP2.b0
 have hxc : Asm.pieceCells x fp = [.int .i64 S.line, .int .i64 p, .func (.func fn) #[] caps] := by unfold Asm.pieceCells; rw [hxl, hxa, hpp, hF]
 have hpl : (Asm.marked S).pieces.length = S.pieces.length := by rw [m5]
 have hplb := hb.pieces
 go_wp2_with fail
 go_region_law (first | (go_simp; go_at_call 98; refine (hat _ (by first | exact hP2 | exact hP2.kept (below_drewN' (Below.refl w2.heap.size w2) 1))).mono ?_; rintro e y2 ⟨rfl, hy2⟩; have hPy := (hP2.kept (by first | exact Below.refl _ _ | exact below_drewN' (Below.refl _ _) 1)).kept hy2; have c5y := (hfc _ hPy).1; have c0y := (hfc _ hPy).2.1; have hW := hPy.kept (below_alloc' (Below.refl y2.heap.size y2) (.cells #[.int .i64 S.line, .int .i64 p, (.func (.func fn) #[] caps)] 82)); have c5w := (hfc _ hW).1) | (refine step_append_lies _ rfl _ _ 73 rfl B2.n0 82 i0 _ 3 24 Tryz.underlying73 hinf hz0 hz1 hz2 rfl (by decide) _ _ _ rfl hW.pieces ⟨y2.heap.size, 0, none⟩ 1 1 [.int .i64 S.line, .int .i64 p, (.func (.func fn) #[] caps)] rfl rfl (cells_new3 _ _ _ _ _ _ rfl) (by simp [Value.oneCell']) (by decide) (by rw [hpl]; exact Nat.le_of_lt_succ (Nat.lt_of_lt_of_le (Nat.succ_lt_succ hplb) (by decide))) (by rw [hpl]; have := hplb; show (S.pieces.length + 1) * 24 ≤ _; omega) (by have := (hfc _ hW).2.2.2; omega) _ rfl ?_; intro g6 cap6 w6 hrow6 hgr6 hgb6 hlt6; have k6 := (hgr6.block B2.b (blk_size hW.own) (Asm.rowNot hW.pieces hW.own (by decide))).trans hW.own; have c6z : w6.cell? ⟨B.b, 5, none⟩ = some B2.vp := eb ▸ (blk_facts k6).1 5; have f6z : w6.frozen? ⟨B.b, 5, none⟩ = false := eb ▸ (blk_facts k6).2 5))
 all_goals have hby := below_next (below_next (by first | exact Below.refl _ _ | exact below_drewN' (Below.refl w2.heap.size w2) 1) hy2) (below_alloc' (Below.refl y2.heap.size y2) (.cells #[.int .i64 S.line, .int .i64 p, (.func (.func fn) #[] caps)] 82))
 all_goals have hgb : (.slice (some ⟨g6, 0, none⟩) ((Asm.marked S).pieces.length + 1) cap6 : Value).ownBlock = B2.vp.ownBlock ∨ (.slice (some ⟨g6, 0, none⟩) ((Asm.marked S).pieces.length + 1) cap6 : Value).ownBlock = some (y2.alloc (.cells #[.int .i64 S.line, .int .i64 p, (.func (.func fn) #[] caps)] 82)).heap.size := (show B2.vp.ownBlock = some g6 ∨ g6 = _ from hgb6).elim (fun e => .inl e.symm) (fun e => .inr (congrArg some e))
 all_goals obtain ⟨hP7, ho7⟩ := hW.vpPush x (.slice (some ⟨g6, 0, none⟩) ((Asm.marked S).pieces.length + 1) cap6) fp (hfn2.keep fun g _ cs t _ hk => blk_keep hby hk) (Asm.nodup_push hW.nodup fp hnd hno2) (fun q hq => by rw [hst2.n0]; exact (hno q hq).2.1) (by rw [hxc]; exact hrow6) hgr6 hgb
 all_goals have hst7 := Asm.Step.push (v := .slice (some ⟨g6, 0, none⟩) ((Asm.marked S).pieces.length + 1) cap6) fp h0 hst2 ⟨ho7.os.trans hby.os, ho7.tape.trans hby.tape, ho7.output.trans hby.output, Nat.le_trans hby.size ho7.size, fun q hq hn => (ho7.block q (Nat.lt_of_lt_of_le hq hby.size) hn).trans (hby.block q hq)⟩ (hgb.elim .inl (fun e => .inr ⟨_, e, hby.size⟩)) (fun q hq => (hno q hq).2.2)
 all_goals rw [eb, m5] at hP7 hst7
 all_goals clear ho7 hgb hgr6 hgb6 hlt6 hrow6 k6 c6z f6z c5w c0y c5y hW hPy hby hy2 hat hfc hP2 hst2 c5 c5d c0 c0d
 all_goals generalize w6.setCell _ _ = W7 at hP7 hst7 ⊢
 all_goals obtain ⟨d7, f7⟩ := blk_facts hP7.own
 all_goals have c4 : W7.cell? ⟨B.b, 4, none⟩ = some (.int .i64 (S.count : Int)) := (d7 4).trans (by rw [← m4]; rfl)
 all_goals have c3 : W7.cell? ⟨B.b, 3, none⟩ = some (.bool (Asm.marked S).placed) := d7 3
 all_goals have z7 : B.b < W7.heap.size := blk_size hP7.own
 all_goals have g3 : W7.frozen? ⟨B.b, 3, none⟩ = false := f7 3
 all_goals have g4 : W7.frozen? ⟨B.b, 4, none⟩ = false := f7 4
 all_goals clear d7 f7
 all_goals obtain ⟨hP8, hst8⟩ := hP7.set 4 (.int .i64 ((S.count : Int) + (n : Int))) B2.vt (Asm.marked S).line (Asm.marked S).toks (Asm.marked S).origin (Asm.marked S).placed (S.count + n) (by simp [Asm.PB.cells]) hP7.toks
 all_goals obtain ⟨hP9, hst9⟩ := hP8.set 3 (.bool true) B2.vt (Asm.marked S).line (Asm.marked S).toks (Asm.marked S).origin true (S.count + n) rfl hP8.toks
 all_goals have hst10 := (hst7.trans hst8).trans hst9
 all_goals have hpo : S.origin + 4 * ((S.count + n : Nat) : Int) = p + 4 * (n : Int) := by rw [← hpp]; unfold Asm.PS.pos; push_cast; omega
 all_goals cases hpl2 : (Asm.marked S).placed
 all_goals rw [hpl2] at c3
 all_goals have hat9 := at_calls _ _ (by show 0 ≤ (Asm.marked S).origin; rw [m3]; exact hb.o0) (by show (Asm.marked S).origin ≤ _; rw [m3]; exact hb.o1) (by show S.count + n ≤ 1000000; omega) _ hP9
 all_goals replace hat9 := hat9.mono (R' := fun e w' => e = .returned (.int .i64 (p + 4 * (n : Int))) ∧ Below ((W7.setCell ⟨B.b, 4, none⟩ (.int .i64 ((S.count : Int) + (n : Int)))).setCell ⟨B.b, 3, none⟩ (.bool true)).heap.size ((W7.setCell ⟨B.b, 4, none⟩ (.int .i64 ((S.count : Int) + (n : Int)))).setCell ⟨B.b, 3, none⟩ (.bool true)) w') (fun e w' h => ⟨h.1.trans (congrArg (fun q => Ending.returned (.int .i64 q)) (show (Asm.marked S).origin + 4 * ((S.count + n : Nat) : Int) = p + 4 * (n : Int) by rw [m3]; exact hpo)), h.2⟩)
 all_goals go_wp2_with fail
 all_goals try rw [show decide (0 < n) = true from decide_eq_true (by omega)]
 all_goals refine hat9.mono ?_
 all_goals rintro e y3 ⟨rfl, hy3⟩
 all_goals clear hat9
 all_goals have hP10 := hP9.kept hy3
 all_goals have hst11 := hst10.belowAfter hy3
 all_goals go_wp2_with fail
 all_goals go_end0
 all_goals subst hpp
 all_goals exact ⟨rfl, _, hP10, hst11⟩
theorem put_calls (B : Asm.PB) (S : Asm.PS) (hb : Asm.Bnd S) (hm : Asm.markOk S = true) (ht : S.toks = []) (hc : S.count < 4096) (hp : S.pos + 4 ≤ 4294967296) (ins : Asm.Ins) (v : Asm.Val) (w : World) (hP : Asm.Par B S w)
 (bv bi : Nat) (hv : w.heap[bv]? = some (.cells (Asm.valCells v) 195 (0, 0))) (hi : w.heap[bi]? = some (.cells (Asm.insCells ins) 96 (0, 0))) (nv : ¬ B.owns bv) (ni : ¬ B.owns bi) (gv : B.n0 ≤ bv) (gi : B.n0 ≤ bi) (W0 : World) (h0 : Asm.Off B.owns W0 w) (lv : W0.heap.size ≤ bv) (li : W0.heap.size ≤ bi) :
 Calls Tryz.prog 104 #[.pointer (some ⟨B.b, 0, none⟩), .int .i64 1, (.func (.func 135) #[] #[.pointer (some ⟨bv, 0, none⟩), .pointer (some ⟨bi, 0, none⟩)])] w fun e w' => e = .returned (.tuple #[]) ∧ ∃ B', Asm.Par B' (Asm.pushed S ins v) w' ∧ Asm.Step B W0 B' w' := by
 have hne : bv ≠ bi := fun e => by rw [e, hi] at hv; injection (Option.some.inj hv) with _ q; exact absurd q (by decide)
 exact put_callsX B S hb hm ht 1 (by decide) (by omega) (by omega) ⟨S.line, S.pos, ins, v, .enc⟩ rfl rfl w hP (135, [bv, bi]) ⟨bv, bi, rfl, hv, hi⟩ (by simp [hne]) W0 h0 (by
  intro g hg
  simp at hg
  rcases hg with rfl | rfl
  · exact ⟨nv, gv, lv⟩
  · exact ⟨ni, gi, li⟩)
end Go.Proofs.YtabmlbnnhhpaoaaGreatDoor
