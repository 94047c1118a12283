/- What this claim needs of AsmCallSt, AsmWord3, RenLaw, RenSt, RenSteps. -/
import Derived.Test.YtabmlbnnhhpaoaaGreatDoorTMAsmIns
import Derived.Test.YtabmlbnnhhpaoaaGreatDoorDMAsmWordG
import Derived.Test.YtabmlbnnhhpaoaaGreatDoorDMBackG
import Derived.Test.YtabmlbnnhhpaoaaGreatDoorDMAsmOneL
set_option linter.unusedSimpArgs false
set_option linter.unusedVariables false
set_option maxHeartbeats 2000000
set_option maxRecDepth 100000
namespace Go.Proofs.YtabmlbnnhhpaoaaGreatDoor
open Go.RowKit Go.Shelf
def Asm.cutW (w : World) (n : Nat) : World := { w with heap := w.heap.extract 0 n }
theorem Asm.cutW_size {w : World} {n : Nat} (h : n ≤ w.heap.size) : (Asm.cutW w n).heap.size = n := by
 simp [Asm.cutW]; omega
theorem Asm.cutW_at {w : World} {n g : Nat} (h : g < n) : (Asm.cutW w n).heap[g]? = w.heap[g]? := by
 unfold Asm.cutW
 simp [Array.getElem?_extract, h]
 intro h2
 omega
theorem Asm.Off.cut {N : Nat → Prop} {w : World} {n : Nat} (h : n ≤ w.heap.size) : Asm.Off N (Asm.cutW w n) w :=
 ⟨rfl, rfl, rfl, by rw [Asm.cutW_size h]; exact h, fun g hg _ => (Asm.cutW_at (by rw [Asm.cutW_size h] at hg; exact hg)).symm⟩
theorem Asm.Step.uncut {B B3 B' : Asm.PB} {w now w' : World} {n : Nat} (hn : w.heap.size ≤ n) (hn2 : n ≤ now.heap.size) (h : Asm.Step B w B3 now) (k : Asm.Step B3 (Asm.cutW now n) B' w') : Asm.Step B w B' w' := by
 refine ⟨⟨k.off.os.trans h.off.os, k.off.tape.trans h.off.tape, k.off.output.trans h.off.output, Nat.le_trans hn (by have := k.off.size; rwa [Asm.cutW_size hn2] at this), fun g hg ho => ?_⟩, fun g hg => ?_, k.n0.trans h.n0, k.b.trans h.b, k.mb.trans h.mb⟩
 · have hgn : g < n := by omega
   have h3 : ¬ B3.owns g := fun h3 => (h.owned g h3).elim ho (fun h4 => by omega)
   exact (k.off.block g (by rw [Asm.cutW_size hn2]; exact hgn) h3).trans ((Asm.cutW_at hgn).trans (h.off.block g hg ho))
 · rcases k.owned g hg with h3 | h3
   · exact h.owned g h3
   · rw [Asm.cutW_size hn2] at h3
     exact .inr (by omega)
theorem call_calls (B : Asm.PB) (S : Asm.PS) (t : Asm.Tok) (v : Asm.Val) (hS : S.toks = [t]) (hv : Asm.TokVal t v) (hb : Asm.Bnd S) (hm : Asm.markOk S = true) (hc : S.count < 4096) (hp : S.pos + 4 ≤ 4294967296) (w : World) (hP : Asm.Par B S w) :
 Calls Tryz.prog 109 #[.pointer (some ⟨B.b, 0, none⟩)] w fun e w' => e = .returned (.tuple #[]) ∧
  ∃ B', Asm.Par B' (Asm.pushed { S with toks := [] } ⟨38, 15, 0, 0, 0⟩ v) w' ∧ Asm.Step B w B' w' := by
 go_enter Tryz.func109, Tryz.ntmps109
 go_wp2_with fail
 refine (value_calls B S t [] v hS hv w hP).mono ?_
 rintro e y1 ⟨rfl, B1, hP1, st1⟩
 have eb1 : B1.b = B.b := st1.b
 go_wp2_with fail
 refine (encoded_calls ⟨38, 15, 0, 0, 0⟩ v y1).mono ?_
 rintro e x1 ⟨rfl, rfl⟩
 have bE : Below y1.heap.size y1 ((y1.alloc (.cells (Asm.insCells ⟨38, 15, 0, 0, 0⟩) 96)).alloc (.cells (Asm.valCells v) 195)) := below_alloc' (below_alloc' (Below.refl _ _) _) _
 have kI := blk_alloc (.cells (Asm.valCells v) 195) (heap_alloc_new y1 (.cells (Asm.insCells ⟨38, 15, 0, 0, 0⟩) 96))
 have kV := heap_alloc_new (y1.alloc (.cells (Asm.insCells ⟨38, 15, 0, 0, 0⟩) 96)) (.cells (Asm.valCells v) 195)
 rw [alloc_size] at kV
 have hlt2 := hP1.ltAll
 have hn2 := hP1.b0
 have hbb := hlt2 B1.b (.inl rfl)
 have hput := put_calls B1 { S with toks := [] } ⟨hb.o0, hb.o1, hb.c, hb.puts, hb.labels, hb.pieces, hb.line0, hb.line1⟩ hm rfl hc hp ⟨38, 15, 0, 0, 0⟩ v _ (hP1.kept bE) (y1.heap.size + 1) y1.heap.size kV kI (fun h => by have := hlt2 _ h; omega) (fun h => by have := hlt2 _ h; omega) (by omega) (by omega) y1 (Asm.Off.of_below bE) (by omega) (by omega)
 rw [eb1] at hput
 clear bE kI kV
 go_wp2_with fail
 refine hput.mono ?_
 rintro e x2 ⟨rfl, D, hD, sD⟩
 have sE := st1.trans sD
 go_wp2_with fail
 go_end0
 exact ⟨rfl, D, hD, sE⟩
theorem li_calls (B : Asm.PB) (S : Asm.PS) (td tc tv : Asm.Tok) (d : Nat) (v : Asm.Val) (hS : S.toks = [td, tc, tv]) (htd : Asm.IsReg td d) (htc : Asm.IsSign tc 44) (hv : Asm.TokVal tv v) (hb : Asm.Bnd S) (hm : Asm.markOk S = true) (hc : S.count < 4095) (hp : S.pos + 8 ≤ 4294967296) (w : World) (hP : Asm.Par B S w) :
 Calls Tryz.prog 106 #[.pointer (some ⟨B.b, 0, none⟩)] w fun e w' => e = .returned (.tuple #[]) ∧
  ∃ B', Asm.Par B' (Asm.pushedX { S with toks := [] } ⟨S.line, S.pos, ⟨0, (d : Int), 0, 0, 0⟩, v, .li⟩ 2) w' ∧ Asm.Step B w B' w' := by
 go_enter Tryz.func106, Tryz.ntmps106
 go_wp2_with fail
 refine (register_calls B S td [tc, tv] hS htd.sort d htd.reg _ hP).mono ?_
 rintro e y1 ⟨rfl, B1, hP1, st1⟩
 have eb1 : B1.b = B.b := st1.b
 go_wp2_with fail
 have b1 : Below y1.heap.size y1 (y1.alloc (.cells #[.int .u8 (d : Int)] 5)) := below_alloc' (Below.refl _ _) _
 have k1 := heap_alloc_new y1 (.cells #[.int .u8 (d : Int)] 5)
 have n1 : ¬ B1.owns y1.heap.size := fun h => by have := hP1.ltAll _ h; omega
 have hc1 := comma_calls B1 { S with toks := [tc, tv] } tc [tv] 44 rfl htc _ (hP1.kept b1)
 rw [eb1] at hc1
 refine hc1.mono ?_
 rintro e y2 ⟨rfl, B2, hP2, st2⟩
 have eb2 : B2.b = B.b := st2.b.trans eb1
 obtain ⟨k2, n2⟩ := st2.keep k1 n1
 go_wp2_with fail
 have hc2 := value_calls B2 { S with toks := [tv] } tv [] v rfl hv _ hP2
 rw [eb2] at hc2
 refine hc2.mono ?_
 rintro e y3 ⟨rfl, B3, hP3, st3⟩
 have eb3 : B3.b = B.b := st3.b.trans eb2
 obtain ⟨k3, n3⟩ := st3.keep k2 n2
 have hmf : ∀ (fn : Fn) (first cap : Array Value) (w : World), (Instr.makeFunc fn first cap).run Tryz.prog w = .ok (.func fn first cap) w := fun _ _ _ _ => rfl
 go_wp2_with fail
 have b4 : Below y3.heap.size y3 (y3.alloc (.cells #[.string ⟨v.name.toArray⟩, .int .i64 v.n] 195)) := below_alloc' (Below.refl _ _) _
 have kV := heap_alloc_new y3 (.cells #[.string ⟨v.name.toArray⟩, .int .i64 v.n] 195)
 have kD := blk_keep b4 k3
 have hlt := hP3.ltAll
 have hs2 := st2.off.size
 have hs3 := st3.off.size
 have hs1 := st1.off.size
 rw [alloc_size] at hs2
 have hn3 : B3.n0 = B.n0 := (st3.n0.trans st2.n0).trans st1.n0
 have hn0 := hP.b0
 have hz := blk_size hP.own
 have st12 := Asm.Step.afterBelow b1 st2
 have hcs : y1.heap.size ≤ (y3.alloc (.cells #[.string ⟨v.name.toArray⟩, .int .i64 v.n] 195)).heap.size := by rw [alloc_size]; omega
 have hput := put_callsX B3 { S with toks := [] } ⟨hb.o0, hb.o1, hb.c, hb.puts, hb.labels, hb.pieces, hb.line0, hb.line1⟩ hm rfl 2 (by decide) (by show S.count + 2 ≤ _; omega) (by show S.pos + 4 * 2 ≤ _; omega) ⟨S.line, S.pos, ⟨0, (d : Int), 0, 0, 0⟩, v, .li⟩ rfl rfl _ (hP3.kept b4) (137, [y3.heap.size, y1.heap.size])
  ⟨y3.heap.size, y1.heap.size, rfl, kV, kD⟩ (by simp; omega) (Asm.cutW _ y1.heap.size) (Asm.Off.cut hcs) (by
   intro g hg
   rw [Asm.cutW_size hcs]
   simp at hg
   rcases hg with rfl | rfl
   · exact ⟨fun h => by have := hlt _ h; omega, by omega, by omega⟩
   · exact ⟨n3, by omega, Nat.le_refl _⟩)
 rw [eb3] at hput
 refine hput.mono ?_
 rintro e x2 ⟨rfl, D, hD, sD⟩
 have sE := Asm.Step.uncut hs1 hcs (((st1.trans st12).trans st3).belowAfter b4) sD
 go_wp2_with fail
 go_end0
 exact ⟨rfl, D, hD, sE⟩
end Go.Proofs.YtabmlbnnhhpaoaaGreatDoor
set_option maxHeartbeats 4000000
set_option maxRecDepth 100000
namespace Go.Proofs.YtabmlbnnhhpaoaaGreatDoor
open Go.RowKit Go.Shelf
theorem Asm.Par.grownOther {B : Asm.PB} {S : Asm.PS} {W W' : World} {row : Option Nat} (h : Asm.Par B S W) (hg : W.grownBy W' row) (hr : ∀ r, row = some r → ¬ B.owns r ∧ ∃ cur, W.heap[r]? = some (.cells cur 195 (0, 0))) : Asm.Par B S W' := by
 have hot : ∀ {k : Nat} {o : Obj}, W.heap[k]? = some o → row ≠ some k → W'.heap[k]? = some o := fun {k o} hk hne => (hg.block k (blk_size hk) (fun e => hne e.symm)).trans hk
 have own : ∀ {k : Nat}, B.owns k → row ≠ some k := fun {k} hk e => (hr _ e).1 hk
 have hrow : ∀ {v : Value}, (∀ g, v.ownBlock = some g → B.owns g) → v.ownBlock = none ∨ v.ownBlock ≠ row := fun {v} hv => by
  cases hv0 : v.ownBlock with
  | none => exact .inl rfl
  | some g => exact .inr (fun e => own (hv g hv0) e.symm)
 exact ⟨hot h.own (own (.inl rfl)), h.toks.keep fun g cur hk => hot hk (fun e => by
  obtain ⟨_, c, hc⟩ := hr g e
  rw [hk] at hc
  injection (Option.some.inj hc) with _ q
  exact absurd q (by decide)), h.map.kept hg (fun e => own (.inr (.inl rfl)) e.symm), h.pieces.kept hg (hrow fun g e => .inr (.inr (.inl e))), h.fsl,
  fun j x f h1 h2 => (h.fns j x f h1 h2).keep fun k hk cs t _ he => hot he (own (.inr (.inr (.inr (.inr (.inr ⟨f, List.mem_of_getElem? h2, hk⟩)))))), h.nodup, h.fbase,
  h.labels.kept hg (hrow fun g e => .inr (.inr (.inr (.inl e)))), h.fresh.kept hg (hrow fun g e => .inr (.inr (.inr (.inr (.inl e))))), h.b0, h.m0⟩
theorem Asm.Step.grownAfter {B B1 : Asm.PB} {w W W' : World} {row : Option Nat} (h : Asm.Step B w B1 W) (hg : W.grownBy W' row) (hr : ∀ r, row = some r → w.heap.size ≤ r) : Asm.Step B w B1 W' :=
 ⟨⟨hg.os.trans h.off.os, hg.tape.trans h.off.tape, hg.output.trans h.off.output, Nat.le_trans h.off.size hg.size, fun g hk hn => (hg.block g (Nat.lt_of_lt_of_le hk h.off.size) (fun e => by have := hr g e.symm; omega)).trans (h.off.block g hk hn)⟩, h.owned, h.n0, h.b, h.mb⟩
theorem Asm.Step.keepRow {B B' : Asm.PB} {w w' : World} (h : Asm.Step B w B' w') {base : Nat} {e : TypeId} {size : Nat} {v : Value} {n : Nat} {xs : List Value} (hr : w.ownsRow base e size v n xs) (hn : ∀ g, v.ownBlock = some g → ¬ B.owns g) : w'.ownsRow base e size v n xs ∧ ∀ g, v.ownBlock = some g → ¬ B'.owns g := by
 refine ⟨⟨hr.1, ?_⟩, fun g hg => ?_⟩
 · rcases hr.2 with h0 | ⟨g, cap, cur, h0, hb, hg, hrest⟩
   · exact .inl h0
   · exact .inr ⟨g, cap, cur, h0, hb, (h.keep hg (hn g (by rw [h0]; simp [Value.ownBlock]))).1, hrest⟩
 · obtain ⟨cur, hk⟩ := Asm.row_type hr hg
   exact (h.keep hk (hn g hg)).2
theorem asm_info195 : (Tryz.prog.info? 195).map (fun i => (i.zero, i.size, i.bytes)) = some (some (.agg #[.string ⟨#[]⟩, .int .i64 0]), 2, 24) := by kernel_rfl
theorem word_three (B : Asm.PB) (S : Asm.PS) (t0 c1 t1 c2 t2 : Asm.Tok) (v0 v1 v2 : Asm.Val) (hS : S.toks = [t0, c1, t1, c2, t2]) (hv0 : Asm.TokVal t0 v0) (hc1 : Asm.IsSign c1 44) (hv1 : Asm.TokVal t1 v1) (hc2 : Asm.IsSign c2 44) (hv2 : Asm.TokVal t2 v2) (hb : Asm.Bnd S) (hm : Asm.markOk S = true) (hc : S.count < 4094) (hp : S.pos + 12 ≤ 4294967296) (w : World) (hP : Asm.Par B S w) :
 Calls Tryz.prog 112 #[.pointer (some ⟨B.b, 0, none⟩)] w fun e w' => e = .returned (.tuple #[]) ∧
  ∃ B', Asm.Par B' (Asm.pushedX { S with toks := [] } ⟨S.line, S.pos, ⟨0, 0, 0, 0, 0⟩, ⟨[], 0⟩, .word [v0, v1, v2]⟩ 3) w' ∧ Asm.Step B w B' w' := by
 obtain ⟨i0, hinf, hz0, hz1, hz2⟩ := info_parts asm_info195
 go_enter Tryz.func112, Tryz.ntmps112
 go_wp2_with fail
 refine (value_calls B S t0 [c1, t1, c2, t2] v0 hS hv0 w hP).mono ?_
 rintro e y0 ⟨rfl, B0, hP0, st0⟩
 have eb0 : B0.b = B.b := st0.b
 go_wp2_with fail
 obtain ⟨W, hW⟩ : ∃ W, (y0.alloc (.cells #[.string ⟨v0.name.toArray⟩, .int .i64 v0.n] 195)).alloc (.cells #[.slice (some ⟨y0.heap.size, 0, none⟩) 1 1] 228) = W := ⟨_, rfl⟩
 have bW : Below y0.heap.size y0 W := hW ▸ below_alloc' (below_alloc' (Below.refl _ _) _) _
 have kG : W.heap[y0.heap.size]? = some (.cells #[.string ⟨v0.name.toArray⟩, .int .i64 v0.n] 195 (0, 0)) := hW ▸ blk_alloc _ (heap_alloc_new _ _)
 have kL : W.heap[y0.heap.size + 1]? = some (.cells #[.slice (some ⟨y0.heap.size, 0, none⟩) 1 1] 228 (0, 0)) := by
  have h := heap_alloc_new (y0.alloc (.cells #[.string ⟨v0.name.toArray⟩, .int .i64 v0.n] 195)) (.cells #[.slice (some ⟨y0.heap.size, 0, none⟩) 1 1] 228)
  rw [alloc_size] at h
  exact hW ▸ h
 have hPW := hP0.kept bW
 have hlt0 := hP0.ltAll
 have hn1 := hP0.b0
 have hbb := hlt0 B0.b (.inl rfl)
 have hys := st0.off.size
 have stW := st0.belowAfter bW
 have hzW : W.heap.size = y0.heap.size + 1 + 1 := by rw [← hW, alloc_size, alloc_size]
 have rW : W.ownsRow y0.heap.size 195 2 (.slice (some ⟨y0.heap.size, 0, none⟩) 1 1) 1 [.string ⟨v0.name.toArray⟩, .int .i64 v0.n] := ⟨by simp, .inr ⟨y0.heap.size, 1, _, rfl, Nat.le_refl _, kG, by omega, by decide, by simp, by simp⟩⟩
 have nG : ∀ g, (.slice (some ⟨y0.heap.size, 0, none⟩) 1 1 : Value).ownBlock = some g → ¬ B0.owns g := fun g e h => by simp [Value.ownBlock] at e; have := hlt0 g h; omega
 have nL : ¬ B0.owns (y0.heap.size + 1) := fun h => by have := hlt0 _ h; omega
 rw [hW]
 obtain ⟨bl, hbl⟩ : ∃ bl, y0.heap.size + 1 = bl := ⟨_, rfl⟩
 obtain ⟨N0, hN0⟩ : ∃ N0, y0.heap.size = N0 := ⟨_, rfl⟩
 obtain ⟨l0, hl0⟩ : ∃ l0 : Value, .slice (some ⟨y0.heap.size, 0, none⟩) 1 1 = l0 := ⟨_, rfl⟩
 rw [hl0] at kL rW nG
 rw [hbl] at kL nL ⊢
 rw [hN0] at rW hys hbb
 have hn0N : B0.n0 ≤ N0 := by omega
 have hbl1 : N0 < bl := by omega
 have hblz : N0 ≤ W.heap.size := by omega
 clear hW bW kG hP0 hlt0 hzW st0
 refine wp_loop_rounds 3 ?_
 -- turn 1
 rw [rounds_succ]
 go_wp2_with fail
 have hi := is_calls B0 { S with toks := [c1, t1, c2, t2] } c1 [t1, c2, t2] rfl [44] W hPW
 rw [eb0, hc1.sort, hc1.bytes] at hi
 refine hi.mono ?_
 rintro e q1 ⟨rfl, hq⟩
 rw [hq]
 clear hq hi
 go_wp2_with fail
 have hm1 := comma_calls B0 { S with toks := [c1, t1, c2, t2] } c1 [t1, c2, t2] 44 rfl hc1 _ hPW
 rw [eb0] at hm1
 refine hm1.mono ?_
 rintro e a1 ⟨rfl, Ba1, hPa1, sta1⟩
 have eba1 : Ba1.b = B.b := sta1.b.trans eb0
 obtain ⟨kLa1, nLa1⟩ := sta1.keep kL nL
 obtain ⟨ra1, nGa1⟩ := sta1.keepRow rW nG
 have ca1 : a1.cell? ⟨bl, 0, none⟩ = some l0 := (blk_facts kLa1).1 0
 have cad1 : a1.drew.cell? ⟨bl, 0, none⟩ = some l0 := ca1
 have za1 := blk_size kLa1
 have hw1 : ∀ W, Asm.Par Ba1 { S with toks := [t1, c2, t2] } W → Calls Tryz.prog 103 #[.pointer (some ⟨B.b, 0, none⟩)] W fun e w' => e = .returned (.agg #[.string ⟨v1.name.toArray⟩, .int .i64 v1.n]) ∧ ∃ B', Asm.Par B' { S with toks := [c2, t2] } w' ∧ Asm.Step Ba1 W B' w' := fun W h => by
  have h2 := value_calls Ba1 { S with toks := [t1, c2, t2] } t1 [c2, t2] v1 rfl hv1 W h
  rw [eba1] at h2
  exact h2
 clear hPW kL rW nG hm1
 go_wp2_with fail
 go_region_law (first | (go_simp; go_at_call 103; refine (hw1 _ (by first | exact hPa1 | exact hPa1.kept (below_drewN' (Below.refl a1.heap.size a1) 1))).mono ?_; rintro e b1 ⟨rfl, Bb1, hPb1, stb0⟩; have stb1 : Asm.Step Ba1 a1 Bb1 b1 := (by first | exact stb0 | exact Asm.Step.afterBelow (below_drewN' (Below.refl a1.heap.size a1) 1) stb0); obtain ⟨kLb1, nLb1⟩ := stb1.keep kLa1 nLa1; obtain ⟨rb1, nGb1⟩ := stb1.keepRow ra1 nGa1; have cb1 : b1.cell? ⟨bl, 0, none⟩ = some l0 := (blk_facts kLb1).1 0; have zb1 := blk_size kLb1; have bA1 : Below b1.heap.size b1 (b1.alloc (.cells #[.string ⟨v1.name.toArray⟩, .int .i64 v1.n] 195)) := below_alloc' (Below.refl _ _) _; have rA1 := rb1.alloc (.cells #[.string ⟨v1.name.toArray⟩, .int .i64 v1.n] 195); have hcn1 := cells_new2 b1 (.string ⟨v1.name.toArray⟩) (.int .i64 v1.n) 195; have kLA1 := blk_keep bA1 kLb1; have cbA1 : (b1.alloc (.cells #[.string ⟨v1.name.toArray⟩, .int .i64 v1.n] 195)).cell? ⟨bl, 0, none⟩ = some l0 := (blk_facts kLA1).1 0; have zbA1 := blk_size kLA1; have sz1 : N0 ≤ b1.heap.size := Nat.le_trans hblz (Nat.le_trans sta1.off.size stb1.off.size)) | (refine step_append_lies _ rfl _ _ 228 rfl N0 195 i0 _ 2 24 Tryz.underlying228 hinf hz0 hz1 hz2 rfl (by decide) _ _ _ rfl rA1 ⟨b1.heap.size, 0, none⟩ 1 1 [.string ⟨v1.name.toArray⟩, .int .i64 v1.n] rfl rfl hcn1 (by simp [Value.oneCell']) (by decide) (by decide) (by decide) (by rw [alloc_size]; omega) _ rfl ?_; intro g1 cap1 w1 r1 hgr1 hblk1 hlt1; have kL1 := (hgr1.block bl (blk_size kLA1) (fun e => by obtain ⟨cc, hcc⟩ := Asm.row_type rA1 e.symm; rw [kLA1] at hcc; injection (Option.some.inj hcc) with _ qq; exact absurd qq (by decide))).trans kLA1; have zL1 := blk_size kL1; have cL1 : w1.cell? ⟨bl, 0, none⟩ = some l0 := (blk_facts kL1).1 0; have fL1 : w1.frozen? ⟨bl, 0, none⟩ = false := (blk_facts kL1).2 0))
 all_goals (
  have ebb1 : Bb1.b = B.b := stb1.b.trans eba1
  have hPA1 := hPb1.kept bA1
  have stA1 := ((stW.trans sta1).trans stb1).belowAfter bA1
  have hPg1 := hPA1.grownOther hgr1 (fun r e => ⟨fun ho => nGb1 r e ho, Asm.row_type rA1 e⟩)
  have stg1 := stA1.grownAfter hgr1 (fun r e => by have := (row_lt rA1 r e).1; omega)
  have hPs1 := hPg1.setOther kL1 (by decide) nLb1 0 (.slice (some ⟨g1, 0, none⟩) (1 + 1) cap1 : Value)
  have sts1 := stg1.setOther (g := bl) (by omega) 0 (.slice (some ⟨g1, 0, none⟩) (1 + 1) cap1 : Value)
  have kS1 := setCell_row kL1 0 (.slice (some ⟨g1, 0, none⟩) (1 + 1) cap1 : Value) (cs' := #[(.slice (some ⟨g1, 0, none⟩) (1 + 1) cap1 : Value)]) rfl
  have rS1 := r1.kept (Asm.setCell_grown w1 bl 0 (.slice (some ⟨g1, 0, none⟩) (1 + 1) cap1 : Value)) (.inr fun e2 => by
   obtain ⟨cc, hcc⟩ := Asm.row_type r1 (g := g1) (by simp [Value.ownBlock])
   simp [Value.ownBlock] at e2
   rw [e2, kL1] at hcc
   injection (Option.some.inj hcc) with _ qq
   exact absurd qq (by decide))
  have nG1 : ∀ g, (.slice (some ⟨g1, 0, none⟩) (1 + 1) cap1 : Value).ownBlock = some g → ¬ Bb1.owns g := fun g e ho => by
   simp [Value.ownBlock] at e
   subst e
   rcases (show l0.ownBlock = some _ ∨ _ = (b1.alloc (.cells #[.string ⟨v1.name.toArray⟩, .int .i64 v1.n] 195)).heap.size from hblk1) with hh | hh
   · exact nGb1 _ hh ho
   · have h1 := hPb1.ltAll _ ho
     rw [hh, alloc_size] at h1
     omega
  have hblz1 : N0 ≤ (w1.setCell ⟨bl, 0, none⟩ (.slice (some ⟨g1, 0, none⟩) (1 + 1) cap1 : Value)).heap.size := by
   have h1 := hgr1.size
   have h2 := (Asm.setCell_grown w1 bl 0 (.slice (some ⟨g1, 0, none⟩) (1 + 1) cap1 : Value)).size
   rw [alloc_size] at h1
   omega
  have ebc1 : Bb1.b = B.b := ebb1
  clear hPA1 stA1 hPg1 stg1 r1 hgr1 hblk1 kL1 zL1 cL1 fL1 rA1 kLA1 bA1 hcn1 hPb1 kLb1 nGb1 cb1 zb1 cbA1 zbA1 ca1 cad1 za1 hw1 hPa1 sta1 kLa1 ra1 nGa1 stb1 stb0 rb1 stW
  generalize hWk : w1.setCell ⟨bl, 0, none⟩ (.slice (some ⟨g1, 0, none⟩) (1 + 1) cap1 : Value) = W1 at hPs1 sts1 kS1 rS1 hblz1 ⊢
  clear hWk
  go_wp2_with fail
  -- turn 2
  rw [rounds_succ]
  go_wp2_with fail
  have hi := is_calls Bb1 { S with toks := [c2, t2] } c2 [t2] rfl [44] W1 hPs1
  rw [ebc1, hc2.sort, hc2.bytes] at hi
  refine hi.mono ?_
  rintro e q2 ⟨rfl, hq⟩
  rw [hq]
  clear hq hi
  go_wp2_with fail
  have hm2 := comma_calls Bb1 { S with toks := [c2, t2] } c2 [t2] 44 rfl hc2 _ hPs1
  rw [ebc1] at hm2
  refine hm2.mono ?_
  rintro e a2 ⟨rfl, Ba2, hPa2, sta2⟩
  have eba2 : Ba2.b = B.b := sta2.b.trans ebc1
  obtain ⟨kLa2, nLa2⟩ := sta2.keep kS1 nLb1
  obtain ⟨ra2, nGa2⟩ := sta2.keepRow rS1 nG1
  have ca2 : a2.cell? ⟨bl, 0, none⟩ = some (.slice (some ⟨g1, 0, none⟩) (1 + 1) cap1 : Value) := (blk_facts kLa2).1 0
  have cad2 : a2.drew.cell? ⟨bl, 0, none⟩ = some (.slice (some ⟨g1, 0, none⟩) (1 + 1) cap1 : Value) := ca2
  have za2 := blk_size kLa2
  have hw2 : ∀ W, Asm.Par Ba2 { S with toks := [t2] } W → Calls Tryz.prog 103 #[.pointer (some ⟨B.b, 0, none⟩)] W fun e w' => e = .returned (.agg #[.string ⟨v2.name.toArray⟩, .int .i64 v2.n]) ∧ ∃ B', Asm.Par B' { S with toks := [] } w' ∧ Asm.Step Ba2 W B' w' := fun W h => by
   have h2 := value_calls Ba2 { S with toks := [t2] } t2 [] v2 rfl hv2 W h
   rw [eba2] at h2
   exact h2
  clear hPs1 kS1 rS1 nG1 hm2
  go_wp2_with fail
  go_region_law (first | (go_simp; go_at_call 103; refine (hw2 _ (by first | exact hPa2 | exact hPa2.kept (below_drewN' (Below.refl a2.heap.size a2) 1))).mono ?_; rintro e b2 ⟨rfl, Bb2, hPb2, stb0⟩; have stb2 : Asm.Step Ba2 a2 Bb2 b2 := (by first | exact stb0 | exact Asm.Step.afterBelow (below_drewN' (Below.refl a2.heap.size a2) 1) stb0); obtain ⟨kLb2, nLb2⟩ := stb2.keep kLa2 nLa2; obtain ⟨rb2, nGb2⟩ := stb2.keepRow ra2 nGa2; have cb2 : b2.cell? ⟨bl, 0, none⟩ = some (.slice (some ⟨g1, 0, none⟩) (1 + 1) cap1 : Value) := (blk_facts kLb2).1 0; have zb2 := blk_size kLb2; have bA2 : Below b2.heap.size b2 (b2.alloc (.cells #[.string ⟨v2.name.toArray⟩, .int .i64 v2.n] 195)) := below_alloc' (Below.refl _ _) _; have rA2 := rb2.alloc (.cells #[.string ⟨v2.name.toArray⟩, .int .i64 v2.n] 195); have hcn2 := cells_new2 b2 (.string ⟨v2.name.toArray⟩) (.int .i64 v2.n) 195; have kLA2 := blk_keep bA2 kLb2; have cbA2 : (b2.alloc (.cells #[.string ⟨v2.name.toArray⟩, .int .i64 v2.n] 195)).cell? ⟨bl, 0, none⟩ = some (.slice (some ⟨g1, 0, none⟩) (1 + 1) cap1 : Value) := (blk_facts kLA2).1 0; have zbA2 := blk_size kLA2; have sz2 : N0 ≤ b2.heap.size := Nat.le_trans hblz1 (Nat.le_trans sta2.off.size stb2.off.size)) | (refine step_append_lies _ rfl _ _ 228 rfl N0 195 i0 _ 2 24 Tryz.underlying228 hinf hz0 hz1 hz2 rfl (by decide) _ _ _ rfl rA2 ⟨b2.heap.size, 0, none⟩ 1 1 [.string ⟨v2.name.toArray⟩, .int .i64 v2.n] rfl rfl hcn2 (by simp [Value.oneCell']) (by decide) (by decide) (by decide) (by rw [alloc_size]; omega) _ rfl ?_; intro g2 cap2 w2 r2 hgr2 hblk2 hlt2; have kL2 := (hgr2.block bl (blk_size kLA2) (fun e => by obtain ⟨cc, hcc⟩ := Asm.row_type rA2 e.symm; rw [kLA2] at hcc; injection (Option.some.inj hcc) with _ qq; exact absurd qq (by decide))).trans kLA2; have zL2 := blk_size kL2; have cL2 : w2.cell? ⟨bl, 0, none⟩ = some (.slice (some ⟨g1, 0, none⟩) (1 + 1) cap1 : Value) := (blk_facts kL2).1 0; have fL2 : w2.frozen? ⟨bl, 0, none⟩ = false := (blk_facts kL2).2 0))
  all_goals (
   have ebb2 : Bb2.b = B.b := stb2.b.trans eba2
   have hPA2 := hPb2.kept bA2
   have stA2 := ((sts1.trans sta2).trans stb2).belowAfter bA2
   have hPg2 := hPA2.grownOther hgr2 (fun r e => ⟨fun ho => nGb2 r e ho, Asm.row_type rA2 e⟩)
   have stg2 := stA2.grownAfter hgr2 (fun r e => by have := (row_lt rA2 r e).1; omega)
   have hPs2 := hPg2.setOther kL2 (by decide) nLb2 0 (.slice (some ⟨g2, 0, none⟩) (2 + 1) cap2 : Value)
   have sts2 := stg2.setOther (g := bl) (by omega) 0 (.slice (some ⟨g2, 0, none⟩) (2 + 1) cap2 : Value)
   have kS2 := setCell_row kL2 0 (.slice (some ⟨g2, 0, none⟩) (2 + 1) cap2 : Value) (cs' := #[(.slice (some ⟨g2, 0, none⟩) (2 + 1) cap2 : Value)]) rfl
   have rS2 := r2.kept (Asm.setCell_grown w2 bl 0 (.slice (some ⟨g2, 0, none⟩) (2 + 1) cap2 : Value)) (.inr fun e2 => by
    obtain ⟨cc, hcc⟩ := Asm.row_type r2 (g := g2) (by simp [Value.ownBlock])
    simp [Value.ownBlock] at e2
    rw [e2, kL2] at hcc
    injection (Option.some.inj hcc) with _ qq
    exact absurd qq (by decide))
   have nG2 : ∀ g, (.slice (some ⟨g2, 0, none⟩) (2 + 1) cap2 : Value).ownBlock = some g → ¬ Bb2.owns g := fun g e ho => by
    simp [Value.ownBlock] at e
    subst e
    rcases (show (.slice (some ⟨g1, 0, none⟩) (1 + 1) cap1 : Value).ownBlock = some _ ∨ _ = (b2.alloc (.cells #[.string ⟨v2.name.toArray⟩, .int .i64 v2.n] 195)).heap.size from hblk2) with hh | hh
    · exact nGb2 _ hh ho
    · have h1 := hPb2.ltAll _ ho
      rw [hh, alloc_size] at h1
      omega
   have hblz2 : N0 ≤ (w2.setCell ⟨bl, 0, none⟩ (.slice (some ⟨g2, 0, none⟩) (2 + 1) cap2 : Value)).heap.size := by
    have h1 := hgr2.size
    have h2 := (Asm.setCell_grown w2 bl 0 (.slice (some ⟨g2, 0, none⟩) (2 + 1) cap2 : Value)).size
    rw [alloc_size] at h1
    omega
   have ebc2 : Bb2.b = B.b := ebb2
   clear hPA2 stA2 hPg2 stg2 r2 hgr2 hblk2 kL2 zL2 cL2 fL2 rA2 kLA2 bA2 hcn2 hPb2 kLb2 nGb2 cb2 zb2 cbA2 zbA2 ca2 cad2 za2 hw2 hPa2 sta2 kLa2 ra2 nGa2 stb2 stb0 rb2 sts1
   generalize hWk : w2.setCell ⟨bl, 0, none⟩ (.slice (some ⟨g2, 0, none⟩) (2 + 1) cap2 : Value) = W2 at hPs2 sts2 kS2 rS2 hblz2 ⊢
   clear hWk
   go_wp2_with fail
   -- the loop's end
   rw [rounds_succ]
   go_wp2_with fail
   have hi := is_nil Bb2 { S with toks := [] } rfl [44] W2 hPs2
   rw [ebc2] at hi
   refine hi.mono ?_
   rintro e q3 ⟨rfl, hq⟩
   rw [hq]
   clear hq hi
   have cl2 : W2.cell? ⟨bl, 0, none⟩ = some (.slice (some ⟨g2, 0, none⟩) 3 cap2) := (blk_facts kS2).1 0
   have zl2 := blk_size kS2
   obtain ⟨gg, cur, hpg, hgb, hgk, hcap1, hcap2, hcur⟩ : ∃ gg cur, g2 = gg ∧ N0 ≤ gg ∧ W2.heap[gg]? = some (.cells cur 195 (0, 0)) ∧ 3 ≤ cap2 ∧ cap2 ≤ maxLen ∧ ∀ (j : Nat) (u : Value), ([v0, v1, v2].flatMap fun v => (Asm.valCells v).toList)[j]? = some u → cur[j]? = some u := by
    rcases rS2.2 with ⟨_, h0⟩ | ⟨g, cap, cur, h0, h1, h2, h3, h4, h5, h6⟩
    · cases h0
    · injection h0 with e1 e2 e3
      subst e3
      refine ⟨g, cur, by simpa using e1, h1, h2, h3, h4, fun j u hj => ?_⟩
      have hj6 : j < 6 := (List.getElem?_eq_some_iff.1 hj).1
      have h7 : (cur.toList.take 6)[j]? = some u := by
       have h6' : cur.toList.take 6 = _ := h6
       rw [h6']
       exact hj
      rw [List.getElem?_take, if_pos hj6] at h7
      rw [← Array.getElem?_toList]
      exact h7
   subst hpg
   have hmf : ∀ (fn : Fn) (first cap : Array Value) (w : World), (Instr.makeFunc fn first cap).run Tryz.prog w = .ok (.func fn first cap) w := fun _ _ _ _ => rfl
   go_wp2_with fail
   have hcs : N0 ≤ W2.heap.size := hblz2
   have hn3 : Bb2.n0 = B.n0 := sts2.n0
   have hn0 := hP.b0
   have hzz := blk_size hP.own
   have hput := put_callsX Bb2 { S with toks := [] } ⟨hb.o0, hb.o1, hb.c, hb.puts, hb.labels, hb.pieces, hb.line0, hb.line1⟩ hm rfl 3 (by decide) (by show S.count + 3 ≤ _; omega) (by show S.pos + 4 * 3 ≤ _; omega) ⟨S.line, S.pos, ⟨0, 0, 0, 0, 0⟩, ⟨[], 0⟩, .word [v0, v1, v2]⟩ rfl rfl W2 hPs2 (139, [bl, g2])
    ⟨bl, g2, cap2, cur, rfl, hcap1, hcap2, kS2, hgk, hcur⟩ (by
     have : bl ≠ g2 := fun e => by rw [e, hgk] at kS2; injection (Option.some.inj kS2) with _ qq; exact absurd qq (by decide)
     simp [this]) (Asm.cutW W2 N0) (Asm.Off.cut hcs) (by
     intro g hg
     rw [Asm.cutW_size hcs]
     simp at hg
     rcases hg with rfl | rfl
     · exact ⟨nLb2, by omega, by omega⟩
     · exact ⟨nG2 _ (by simp [Value.ownBlock]), by omega, hgb⟩)
   rw [ebc2] at hput
   refine hput.mono ?_
   rintro e x2 ⟨rfl, D, hD, sD⟩
   have sE := Asm.Step.uncut hys hcs sts2 sD
   go_wp2_with fail
   go_end0
   exact ⟨rfl, D, hD, sE⟩))
end Go.Proofs.YtabmlbnnhhpaoaaGreatDoor
namespace Go.Proofs.YtabmlbnnhhpaoaaGreatDoor
open Go.RowKit Go.Shelf
namespace Asm
def rn1 (k : Nat) : List UInt8 := [[97], [98], [99], [100], [101]].getD k []
def rn2 (k : Nat) : List UInt8 := [[116, 111, 112], [114, 49, 54], [97, 100, 100], [95], [65, 98, 99, 100, 101, 102, 103, 104, 105, 106, 107, 108, 109, 110, 95, 49]].getD k []
def stText (o : List UInt8) (kind : Nat) : List UInt8 :=
 if kind = 0 then [98, 101, 113, 32, 114, 49, 44, 32, 114, 50, 44, 32] ++ o
 else if kind = 1 then [99, 97, 108, 108, 32] ++ o
 else if kind = 2 then [46, 119, 111, 114, 100, 32, 55, 44, 32] ++ o ++ [44, 32, 45, 49]
 else if kind = 3 then [108, 105, 32, 114, 51, 44, 32] ++ o
 else if kind = 4 then [108, 119, 32, 114, 52, 44, 32] ++ o ++ [40, 114, 48, 41]
 else [97, 100, 100, 32, 114, 49, 44, 32, 114, 50, 44, 32, 114, 51]
def stWord (kind : Nat) : List UInt8 :=
 if kind = 0 then [98, 101, 113] else if kind = 1 then [99, 97, 108, 108] else if kind = 2 then [46, 119, 111, 114, 100] else if kind = 3 then [108, 105] else if kind = 4 then [108, 119] else [97, 100, 100]
def stToks (o : List UInt8) (kind : Nat) : List Tok :=
 if kind = 0 then [⟨0, [114, 49], 0⟩, ⟨2, [44], 0⟩, ⟨0, [114, 50], 0⟩, ⟨2, [44], 0⟩, ⟨0, o, 0⟩]
 else if kind = 1 then [⟨0, o, 0⟩]
 else if kind = 2 then [⟨1, [55], 7⟩, ⟨2, [44], 0⟩, ⟨0, o, 0⟩, ⟨2, [44], 0⟩, ⟨1, [45, 49], -1⟩]
 else if kind = 3 then [⟨0, [114, 51], 0⟩, ⟨2, [44], 0⟩, ⟨0, o, 0⟩]
 else if kind = 4 then [⟨0, [114, 52], 0⟩, ⟨2, [44], 0⟩, ⟨0, o, 0⟩, ⟨2, [40], 0⟩, ⟨0, [114, 48], 0⟩, ⟨2, [41], 0⟩]
 else [⟨0, [114, 49], 0⟩, ⟨2, [44], 0⟩, ⟨0, [114, 50], 0⟩, ⟨2, [44], 0⟩, ⟨0, [114, 51], 0⟩]
structure NamesOk (N : Nat → List UInt8) : Prop where
 ok : ∀ k, k < 5 → nameOk (N k) = true
 inj : ∀ j k, j < 5 → k < 5 → N j = N k → j = k
 plain : ∀ k t, k < 6 → t < 5 → tokens (stText (N t) k) = some (⟨0, stWord k, 0⟩ :: stToks (N t) k)
 lab : ∀ l k t, l < 5 → k < 6 → t < 5 → tokens (N l ++ [58, 32] ++ stText (N t) k) = some (⟨0, N l, 0⟩ :: ⟨2, [58], 0⟩ :: ⟨0, stWord k, 0⟩ :: stToks (N t) k)
 nonl : ∀ k, k < 5 → ∀ c ∈ N k, c ≠ 10
theorem names1 : NamesOk rn1 := by
 have h1 : ∀ k : Fin 5, nameOk (rn1 k.1) = true := by decide +kernel
 have h2 : ∀ j k : Fin 5, rn1 j.1 = rn1 k.1 → j.1 = k.1 := by decide +kernel
 have h3 : ∀ (k : Fin 6) (t : Fin 5), tokens (stText (rn1 t.1) k.1) = some (⟨0, stWord k.1, 0⟩ :: stToks (rn1 t.1) k.1) := by decide +kernel
 have h4 : ∀ (l : Fin 5) (k : Fin 6) (t : Fin 5), tokens (rn1 l.1 ++ [58, 32] ++ stText (rn1 t.1) k.1) = some (⟨0, rn1 l.1, 0⟩ :: ⟨2, [58], 0⟩ :: ⟨0, stWord k.1, 0⟩ :: stToks (rn1 t.1) k.1) := by decide +kernel
 have h5 : ∀ k : Fin 5, ∀ c ∈ rn1 k.1, c ≠ 10 := by decide +kernel
 exact ⟨fun k h => h1 ⟨k, h⟩, fun j k hj hk => h2 ⟨j, hj⟩ ⟨k, hk⟩, fun k t hk ht => h3 ⟨k, hk⟩ ⟨t, ht⟩, fun l k t hl hk ht => h4 ⟨l, hl⟩ ⟨k, hk⟩ ⟨t, ht⟩, fun k h => h5 ⟨k, h⟩⟩
theorem names2 : NamesOk rn2 := by
 have h1 : ∀ k : Fin 5, nameOk (rn2 k.1) = true := by decide +kernel
 have h2 : ∀ j k : Fin 5, rn2 j.1 = rn2 k.1 → j.1 = k.1 := by decide +kernel
 have h3 : ∀ (k : Fin 6) (t : Fin 5), tokens (stText (rn2 t.1) k.1) = some (⟨0, stWord k.1, 0⟩ :: stToks (rn2 t.1) k.1) := by decide +kernel
 have h4 : ∀ (l : Fin 5) (k : Fin 6) (t : Fin 5), tokens (rn2 l.1 ++ [58, 32] ++ stText (rn2 t.1) k.1) = some (⟨0, rn2 l.1, 0⟩ :: ⟨2, [58], 0⟩ :: ⟨0, stWord k.1, 0⟩ :: stToks (rn2 t.1) k.1) := by decide +kernel
 have h5 : ∀ k : Fin 5, ∀ c ∈ rn2 k.1, c ≠ 10 := by decide +kernel
 exact ⟨fun k h => h1 ⟨k, h⟩, fun j k hj hk => h2 ⟨j, hj⟩ ⟨k, hk⟩, fun k t hk ht => h3 ⟨k, hk⟩ ⟨t, ht⟩, fun l k t hl hk ht => h4 ⟨l, hl⟩ ⟨k, hk⟩ ⟨t, ht⟩, fun k h => h5 ⟨k, h⟩⟩
end Asm
end Go.Proofs.YtabmlbnnhhpaoaaGreatDoor
namespace Go.Proofs.YtabmlbnnhhpaoaaGreatDoor
open Go.RowKit Go.Shelf
namespace Asm
def stPiece (o : List UInt8) (kind : Nat) (line pos : Int) : Piece :=
 if kind = 0 then ⟨line, pos, ⟨32, 0, 1, 2, 0⟩, ⟨o, 0⟩, .enc⟩
 else if kind = 1 then ⟨line, pos, ⟨38, 15, 0, 0, 0⟩, ⟨o, 0⟩, .enc⟩
 else if kind = 2 then ⟨line, pos, ⟨0, 0, 0, 0, 0⟩, ⟨[], 0⟩, .word [⟨[], 7⟩, ⟨o, 0⟩, ⟨[], -1⟩]⟩
 else if kind = 3 then ⟨line, pos, ⟨0, 3, 0, 0, 0⟩, ⟨o, 0⟩, .li⟩
 else if kind = 4 then ⟨line, pos, ⟨28, 4, 0, 0, 0⟩, ⟨o, 0⟩, .enc⟩
 else ⟨line, pos, ⟨1, 1, 2, 3, 0⟩, ⟨[], 0⟩, .enc⟩
def stCnt (kind : Nat) : Nat := if kind = 2 then 3 else if kind = 3 then 2 else 1
theorem enters_call (xs : Array Value) (w : World) : (callFunc 109 xs).run Tryz.prog w = .ok (.enter 109 xs) w := by kernel_rfl
theorem enters_li (xs : Array Value) (w : World) : (callFunc 106 xs).run Tryz.prog w = .ok (.enter 106 xs) w := by kernel_rfl
theorem reg_r (n : Nat) (b : List UInt8) (h : regOf b = some n) : IsReg ⟨0, b, 0⟩ n := ⟨rfl, h⟩
theorem sg (c : UInt8) : IsSign ⟨2, [c], 0⟩ c := ⟨rfl, rfl⟩
theorem tv_name {o : List UInt8} (h : nameOk o = true) : TokVal ⟨0, o, 0⟩ ⟨o, 0⟩ := .inr ⟨rfl, by have := nameOk_len h; show o.length ≤ _; omega, h, rfl⟩
def StOk (S S' : PS) (kind : Nat) : Prop :=
 ∀ (B : PB) (w : World), Par B S w → (if kind = 0 ∨ kind = 4 ∨ kind = 5 then Calls Tryz.prog 57 #[.pointer (some ⟨B.b, 0, none⟩), .int .i64 (if kind = 0 then 32 else if kind = 4 then 28 else 1)] w
  else Calls Tryz.prog (if kind = 1 then 109 else if kind = 2 then 112 else 106) #[.pointer (some ⟨B.b, 0, none⟩)] w) fun e w' => e = .returned (.tuple #[]) ∧ ∃ B', Par B' S' w' ∧ Step B w B' w'
theorem st_ok (o : List UInt8) (ho : nameOk o = true) (kind : Nat) (hk : kind < 6) (S : PS) (hS : S.toks = stToks o kind) (hb : Bnd S) (hm : markOk S = true) (hc : S.count < 4094) (hp : S.pos + 12 ≤ 4294967296) :
 StOk S (pushedX { S with toks := [] } (stPiece o kind S.line S.pos) (stCnt kind)) kind := by
 have r0 := reg_r 0 [114, 48] (by decide +kernel)
 have r1 := reg_r 1 [114, 49] (by decide +kernel)
 have r2 := reg_r 2 [114, 50] (by decide +kernel)
 have r3 := reg_r 3 [114, 51] (by decide +kernel)
 have r4 := reg_r 4 [114, 52] (by decide +kernel)
 have tn := tv_name ho
 intro B w hP
 match kind, hk with
 | 0, _ => exact instr_form3 32 (by decide) (by decide) (by decide +kernel) (by decide) B S _ _ _ _ _ 1 2 ⟨o, 0⟩ hS r1 (sg 44) r2 (sg 44) tn hb hm (by omega) (by omega) w hP
 | 1, _ => exact call_calls B S _ ⟨o, 0⟩ hS tn hb hm (by omega) (by omega) w hP
 | 2, _ => exact word_three B S _ _ _ _ _ ⟨[], 7⟩ ⟨o, 0⟩ ⟨[], -1⟩ hS (.inl ⟨rfl, rfl⟩) (sg 44) tn (sg 44) (.inl ⟨rfl, rfl⟩) hb hm hc hp w hP
 | 3, _ => exact li_calls B S _ _ _ 3 ⟨o, 0⟩ hS r3 (sg 44) tn hb hm (by omega) (by omega) w hP
 | 4, _ => exact instr_form9 28 (by decide) (by decide) (by decide +kernel) B S _ _ _ _ _ _ 4 0 ⟨o, 0⟩ hS r4 (sg 44) tn (sg 40) r0 (sg 41) hb hm (by omega) (by omega) w hP
 | 5, _ => exact instr_form1 1 (by decide) (by decide) (by decide +kernel) (by decide) B S _ _ _ _ _ 1 2 3 hS r1 (sg 44) r2 (sg 44) r3 hb hm (by omega) (by omega) w hP
 | n + 6, h => exact absurd h (by omega)
theorem stToks_first (o : List UInt8) (kind : Nat) (hk : kind < 6) : stToks o kind = [] ∨ ∃ t r, stToks o kind = t :: r ∧ t.sort ≠ 2 := by
 match kind, hk with
 | 0, _ => exact .inr ⟨_, _, rfl, by decide⟩
 | 1, _ => exact .inr ⟨_, _, rfl, by show (0 : Nat) ≠ 2; decide⟩
 | 2, _ => exact .inr ⟨_, _, rfl, by decide⟩
 | 3, _ => exact .inr ⟨_, _, rfl, by decide⟩
 | 4, _ => exact .inr ⟨_, _, rfl, by decide⟩
 | 5, _ => exact .inr ⟨_, _, rfl, by decide⟩
 | n + 6, h => exact absurd h (by omega)
theorem ren_plain (s o : List UInt8) (hl : s.length ≤ 1000000) (kind : Nat) (hk : kind < 6) (S S' : PS) (hts : tokens s = some (⟨0, stWord kind, 0⟩ :: stToks o kind)) (hst : StOk { S with line := S.line + 1, toks := stToks o kind, fresh := S.fresh } S' kind) (hb : Bnd S) (hline : S.line < 1000000) (hfl : S.fresh.length < 1000000) : OneOk S s S' := by
 intro B w hP
 have hf := stToks_first o kind hk
 match kind, hk with
 | 0, _ => exact one_NIx s hl B S _ _ rfl hf 32 (by decide +kernel) S' (fun C y hy => hst C y hy) hts hb hline hfl w hP
 | 1, _ => exact one_NOx s hl B S _ _ rfl hf 109 enters_call (by decide) 0 (by decide +kernel) rfl (by decide +kernel) S' (fun C y hy => hst C y hy) hts hb hline hfl w hP
 | 2, _ => exact one_NOx s hl B S _ _ rfl hf 112 enters_word (by decide) 0 (by decide +kernel) rfl (by decide +kernel) S' (fun C y hy => hst C y hy) hts hb hline hfl w hP
 | 3, _ => exact one_NOx s hl B S _ _ rfl hf 106 enters_li (by decide) 0 (by decide +kernel) rfl (by decide +kernel) S' (fun C y hy => hst C y hy) hts hb hline hfl w hP
 | 4, _ => exact one_NIx s hl B S _ _ rfl hf 28 (by decide +kernel) S' (fun C y hy => hst C y hy) hts hb hline hfl w hP
 | 5, _ => exact one_NIx s hl B S _ _ rfl hf 1 (by decide +kernel) S' (fun C y hy => hst C y hy) hts hb hline hfl w hP
 | n + 6, h => exact absurd h (by omega)
theorem ren_lab (s o n : List UInt8) (hn : nameOk n = true) (hl : s.length ≤ 1000000) (kind : Nat) (hk : kind < 6) (S S' : PS) (hts : tokens s = some (⟨0, n, 0⟩ :: ⟨2, [58], 0⟩ :: ⟨0, stWord kind, 0⟩ :: stToks o kind)) (hst : StOk { S with line := S.line + 1, toks := stToks o kind, fresh := S.fresh ++ [n] } S' kind) (hb : Bnd S) (hline : S.line < 1000000) (hfl : S.fresh.length < 1000000) : OneOk S s S' := by
 intro B w hP
 have hf := stToks_first o kind hk
 have hnl : n.length ≤ 1000000 := by have := nameOk_len hn; omega
 match kind, hk with
 | 0, _ => exact one_LIx s hl B S ⟨0, n, 0⟩ ⟨2, [58], 0⟩ rfl hnl hn (sg 58) _ _ rfl hf 32 (by decide +kernel) S' (fun C y hy => hst C y hy) hts hb hline hfl w hP
 | 1, _ => exact one_LOx s hl B S ⟨0, n, 0⟩ ⟨2, [58], 0⟩ rfl hnl hn (sg 58) _ _ rfl hf 109 enters_call (by decide) 0 (by decide +kernel) rfl (by decide +kernel) S' (fun C y hy => hst C y hy) hts hb hline hfl w hP
 | 2, _ => exact one_LOx s hl B S ⟨0, n, 0⟩ ⟨2, [58], 0⟩ rfl hnl hn (sg 58) _ _ rfl hf 112 enters_word (by decide) 0 (by decide +kernel) rfl (by decide +kernel) S' (fun C y hy => hst C y hy) hts hb hline hfl w hP
 | 3, _ => exact one_LOx s hl B S ⟨0, n, 0⟩ ⟨2, [58], 0⟩ rfl hnl hn (sg 58) _ _ rfl hf 106 enters_li (by decide) 0 (by decide +kernel) rfl (by decide +kernel) S' (fun C y hy => hst C y hy) hts hb hline hfl w hP
 | 4, _ => exact one_LIx s hl B S ⟨0, n, 0⟩ ⟨2, [58], 0⟩ rfl hnl hn (sg 58) _ _ rfl hf 28 (by decide +kernel) S' (fun C y hy => hst C y hy) hts hb hline hfl w hP
 | 5, _ => exact one_LIx s hl B S ⟨0, n, 0⟩ ⟨2, [58], 0⟩ rfl hnl hn (sg 58) _ _ rfl hf 1 (by decide +kernel) S' (fun C y hy => hst C y hy) hts hb hline hfl w hP
 | n + 6, h => exact absurd h (by omega)
end Asm
end Go.Proofs.YtabmlbnnhhpaoaaGreatDoor
namespace Go.Proofs.YtabmlbnnhhpaoaaGreatDoor
open Go.RowKit Go.Shelf
namespace Asm
structure Ln where
 lab : Option Nat
 kind : Nat
 tgt : Nat
def lnText (N : Nat → List UInt8) (l : Ln) : List UInt8 := (match l.lab with | none => [] | some k => N k ++ [58, 32]) ++ stText (N l.tgt) l.kind
structure LnOk (l : Ln) : Prop where
 kind : l.kind < 6
 tgt : l.tgt < 5
 lab : ∀ k, l.lab = some k → k < 5
def labOf (l : Ln) (c : Nat) : List (Nat × Nat) := match l.lab with | none => [] | some k => [(k, 4 * c)]
def rLabs : List Ln → Nat → List (Nat × Nat)
 | [], _ => []
 | l :: ls, c => labOf l c ++ rLabs ls (c + stCnt l.kind)
def rCnt : List Ln → Nat → Nat
 | [], c => c
 | l :: ls, c => rCnt ls (c + stCnt l.kind)
def rPcs : List Ln → Nat → List (Nat × Nat × Nat)
 | [], _ => []
 | l :: ls, c => (l.kind, l.tgt, 4 * c) :: rPcs ls (c + stCnt l.kind)
theorem stCnt_le (k : Nat) : 1 ≤ stCnt k ∧ stCnt k ≤ 3 := by unfold stCnt; split; omega; split <;> omega
structure RS (N : Nat → List UInt8) (S : PS) (labs : List (Nat × Nat)) (cnt m : Nat) : Prop where
 line : S.line = (m : Int)
 toks : S.toks = []
 fresh : S.fresh = []
 origin : S.origin = 0
 count : S.count = cnt
 puts : S.puts ≤ m
 labels : S.labels = labs.map fun p => (N p.1, (p.2 : Int))
 llen : labs.length ≤ m
 pieces : S.pieces.length ≤ m
 isMap : Maps.IsMap S.places
 seen : ∀ n, (∀ p ∈ labs, N p.1 ≠ n) → Maps.has S.places (.string n) = false
 val : ∀ p ∈ labs, valOf S ⟨N p.1, 0⟩ = (p.2 : Int) ∧ valOk S ⟨N p.1, 0⟩ = true
theorem RS.bnd {N : Nat → List UInt8} {S : PS} {labs : List (Nat × Nat)} {cnt m : Nat} (h : RS N S labs cnt m) (hm : m ≤ 900000) (hc : cnt ≤ 4096) : Bnd S := by
 have h2 := h.puts; have h3 := h.llen; have h4 := h.pieces; have h5 := h.count
 refine ⟨by rw [h.origin]; omega, by rw [h.origin]; omega, by omega, by omega, ?_, by omega, by rw [h.line]; omega, by rw [h.line]; omega⟩
 rw [h.labels, List.length_map]; omega
theorem RS.posI {N : Nat → List UInt8} {S : PS} {labs : List (Nat × Nat)} {cnt m : Nat} (h : RS N S labs cnt m) : S.pos = ((4 * cnt : Nat) : Int) := by
 unfold PS.pos; rw [h.origin, h.count]; omega
theorem name_ne {N : Nat → List UInt8} (hN : NamesOk N) {k : Nat} (hk : k < 5) : N k ≠ [] := by
 intro e
 have := hN.ok k hk
 rw [e] at this
 exact absurd this (by decide)
theorem RS.mark {N : Nat → List UInt8} (hN : NamesOk N) {S : PS} {labs : List (Nat × Nat)} {cnt m : Nat} (h : RS N S labs cnt m) {k : Nat} (hk : k < 5) (hl : ∀ p ∈ labs, p.1 < 5 ∧ p.1 ≠ k) (hcn : cnt ≤ 4096) :
 markOk { S with line := S.line + 1, toks := [], fresh := S.fresh ++ [N k] } = true ∧ RS N (marked { S with line := S.line + 1, toks := [], fresh := S.fresh ++ [N k] }) (labs ++ [(k, 4 * cnt)]) cnt (m + 1) ∧ (marked { S with line := S.line + 1, toks := [], fresh := S.fresh ++ [N k] }).pieces = S.pieces := by
 have hf : S.fresh ++ [N k] = [N k] := by rw [h.fresh]; rfl
 have hpos : ({ S with line := S.line + 1, toks := [], fresh := [N k] } : PS).pos = ((4 * cnt : Nat) : Int) := h.posI
 have hne : ∀ p ∈ labs, N p.1 ≠ N k := fun p hp e => (hl p hp).2 (hN.inj _ _ (hl p hp).1 hk e)
 have hnl := nameOk_len (hN.ok k hk)
 have e : marked { S with line := S.line + 1, toks := [], fresh := [N k] } = { S with line := S.line + 1, toks := [], labels := S.labels ++ [(N k, ((4 * cnt : Nat) : Int))], places := S.places.put (.string (N k)) (.lit (.int .i64 ((4 * cnt : Nat) : Int))), puts := S.puts + 1, placed := true, fresh := [] } := by
  show ({ S with line := S.line + 1, toks := [], labels := S.labels ++ [(N k, _)], places := S.places.put (.string (N k)) (.lit (.int .i64 _)), puts := S.puts + 1, placed := true, fresh := [] } : PS) = _
  rw [hpos]
 rw [hf]
 refine ⟨?_, ?_, by rw [e]⟩
 · show (decide ((N k).length ≤ 1000000) && !Maps.has S.places (.string (N k)) && decide (({ S with line := S.line + 1, toks := [], fresh := [N k] } : PS).pos < 4294967296)) = true
   rw [hpos, h.seen (N k) hne]
   simp
   omega
 · rw [e]
   have h2 := h.puts; have h3 := h.llen; have h4 := h.pieces
   refine ⟨by show S.line + 1 = _; rw [h.line]; omega, rfl, rfl, h.origin, h.count, by show S.puts + 1 ≤ _; omega, by show S.labels ++ _ = _; rw [h.labels, List.map_append]; rfl, by rw [List.length_append]; simp; omega, by show S.pieces.length ≤ _; omega, h.isMap.put _ _, ?_, ?_⟩
   · intro n hn
     show Maps.has (S.places.put (.string (N k)) _) (.string n) = false
     have hnk : N k ≠ n := hn (k, 4 * cnt) (by simp)
     rw [Maps.has_put_other (fun e => hnk (by injection e with e; exact e.symm))]
     exact h.seen n (fun p hp => hn p (List.mem_append_left _ hp))
   · intro p hp
     rcases List.mem_append.1 hp with hp | hp
     · obtain ⟨v1, v2⟩ := h.val p hp
       have hpk := hne p hp
       have hpn := name_ne hN (hl p hp).1
       have hl' : (Lit.string (N p.1)) ≠ .string (N k) := fun e => hpk (by injection e)
       refine ⟨?_, ?_⟩
       · unfold valOf at v1 ⊢
         rw [if_neg hpn] at v1 ⊢
         show litInt ((S.places.put (.string (N k)) _).atKey (.string (N p.1)) _) = _
         rw [Maps.atKey_put_other hl']
         exact v1
       · unfold valOk at v2 ⊢
         show (decide (N p.1 = []) || Maps.has (S.places.put (.string (N k)) _) (.string (N p.1))) = true
         rw [Maps.has_put_other hl']
         exact v2
     · simp at hp
       subst hp
       refine ⟨?_, ?_⟩
       · unfold valOf
         rw [if_neg (name_ne hN hk)]
         show litInt ((S.places.put (.string (N k)) _).atKey (.string (N k)) _) = _
         rw [Maps.atKey_put_same (k := .string (N k)) h.isMap trivial]
         rfl
       · unfold valOk
         show (decide (N k = []) || Maps.has (S.places.put (.string (N k)) _) (.string (N k))) = true
         rw [Maps.has_put_same (k := .string (N k)) h.isMap trivial]
         simp
theorem RS.push {N : Nat → List UInt8} {S : PS} {labs : List (Nat × Nat)} {cnt m : Nat} (h : RS N S labs cnt m) (x : Piece) (n : Nat) (hm : S.pieces.length + 1 ≤ m) : RS N { S with pieces := S.pieces ++ [x], count := S.count + n, placed := true } labs (cnt + n) m :=
 ⟨h.line, h.toks, h.fresh, h.origin, by show S.count + n = _; rw [h.count], h.puts, h.labels, h.llen, by show (S.pieces ++ [x]).length ≤ _; simp; omega, h.isMap, h.seen, h.val⟩
theorem ln_len {N : Nat → List UInt8} (hN : NamesOk N) {l : Ln} (hl : LnOk l) : (lnText N l).length ≤ 100 := by
 have h1 := nameOk_len (hN.ok _ hl.tgt)
 have h2 : (stText (N l.tgt) l.kind).length ≤ 60 := by
  unfold stText
  split
  · simp; omega
  · split
    · simp; omega
    · split
      · simp; omega
      · split
        · simp; omega
        · split
          · simp; omega
          · simp
 unfold lnText
 rw [List.length_append]
 cases hq : l.lab with
 | none => simp; omega
 | some k =>
  have h3 := nameOk_len (hN.ok _ (hl.lab k hq))
  simp; omega
theorem ren_step {N : Nat → List UInt8} (hN : NamesOk N) {S : PS} {labs : List (Nat × Nat)} {cnt m : Nat} (h : RS N S labs cnt m) {l : Ln} (hl : LnOk l) (hlb : ∀ p ∈ labs, p.1 < 5 ∧ l.lab ≠ some p.1) (hm : m ≤ 800000) (hc : cnt < 4000) :
 ∃ S', OneOk S (lnText N l) S' ∧ RS N S' (labs ++ labOf l cnt) (cnt + stCnt l.kind) (m + 1) ∧ S'.pieces = S.pieces ++ [stPiece (N l.tgt) l.kind ((m : Int) + 1) ((4 * cnt : Nat) : Int)] := by
 have hb := h.bnd (by omega) (by omega)
 have hll := ln_len hN hl
 have hbt : ∀ ts fr, Bnd { S with line := S.line + 1, toks := ts, fresh := fr } := fun ts fr => ⟨hb.o0, hb.o1, hb.c, hb.puts, hb.labels, hb.pieces, by show 0 ≤ S.line + 1; have := hb.line0; omega, by show S.line + 1 ≤ 1000000; rw [h.line]; omega⟩
 have hpos := h.posI
 have hcn := h.count
 have hpl := h.pieces
 have hfl : S.fresh.length < 1000000 := by rw [h.fresh]; decide
 cases hq : l.lab with
 | none =>
  have hmk : markOk { S with line := S.line + 1, toks := stToks (N l.tgt) l.kind, fresh := S.fresh } = true := by unfold markOk; rw [show ({ S with line := S.line + 1, toks := stToks (N l.tgt) l.kind, fresh := S.fresh } : PS).fresh = [] from h.fresh]
  have hst := st_ok (N l.tgt) (hN.ok _ hl.tgt) l.kind hl.kind { S with line := S.line + 1, toks := stToks (N l.tgt) l.kind, fresh := S.fresh } rfl (hbt _ _) hmk (by show S.count < 4094; omega) (by show S.pos + 12 ≤ _; omega)
  have hone := ren_plain (lnText N l) (N l.tgt) (by omega) l.kind hl.kind S _ (by unfold lnText; rw [hq]; exact hN.plain _ _ hl.kind hl.tgt) hst hb (by rw [h.line]; omega) hfl
  have hmd : marked { S with line := S.line + 1, toks := [], fresh := S.fresh } = { S with line := S.line + 1, toks := [], fresh := S.fresh } := by unfold marked; rw [show ({ S with line := S.line + 1, toks := [], fresh := S.fresh } : PS).fresh = [] from h.fresh]
  have h' : RS N { S with line := S.line + 1, toks := [], fresh := S.fresh } labs cnt (m + 1) := ⟨by show S.line + 1 = _; rw [h.line]; omega, rfl, h.fresh, h.origin, h.count, by show S.puts ≤ _; have := h.puts; omega, h.labels, by have := h.llen; omega, by show S.pieces.length ≤ _; omega, h.isMap, h.seen, h.val⟩
  refine ⟨_, hone, ?_, ?_⟩
  · unfold pushedX
    show RS N { marked { S with line := S.line + 1, toks := [], fresh := S.fresh } with pieces := _, count := _, placed := true } _ _ _
    rw [hmd]
    have e : labOf l cnt = [] := by unfold labOf; rw [hq]
    rw [e, List.append_nil]
    exact h'.push _ _ (by show S.pieces.length + 1 ≤ _; omega)
  · show S.pieces ++ [stPiece (N l.tgt) l.kind (S.line + 1) S.pos] = _
    rw [hpos, h.line]
 | some k =>
  have hk := hl.lab k hq
  obtain ⟨k1, k2, k3⟩ := h.mark hN hk (fun p hp => ⟨(hlb p hp).1, fun e => (hlb p hp).2 (by rw [hq, e])⟩) (by omega)
  have hmk : markOk { S with line := S.line + 1, toks := stToks (N l.tgt) l.kind, fresh := S.fresh ++ [N k] } = true := k1
  have hst := st_ok (N l.tgt) (hN.ok _ hl.tgt) l.kind hl.kind { S with line := S.line + 1, toks := stToks (N l.tgt) l.kind, fresh := S.fresh ++ [N k] } rfl (hbt _ _) hmk (by show S.count < 4094; omega) (by show S.pos + 12 ≤ _; omega)
  have hone := ren_lab (lnText N l) (N l.tgt) (N k) (hN.ok _ hk) (by omega) l.kind hl.kind S _ (by unfold lnText; rw [hq]; exact hN.lab _ _ _ hk hl.kind hl.tgt) hst hb (by rw [h.line]; omega) hfl
  refine ⟨_, hone, ?_, ?_⟩
  · have e : labOf l cnt = [(k, 4 * cnt)] := by unfold labOf; rw [hq]
    rw [e]
    have hr := k2.push (stPiece (N l.tgt) l.kind (S.line + 1) S.pos) (stCnt l.kind) (by rw [k3]; omega)
    rw [k3] at hr
    have hcc : (marked { S with line := S.line + 1, toks := [], fresh := S.fresh ++ [N k] }).count = S.count := (marked_same _).2.2.2.1
    rw [hcc] at hr
    exact hr
  · show S.pieces ++ [stPiece (N l.tgt) l.kind (S.line + 1) S.pos] = _
    rw [hpos, h.line]
inductive Pcs (N : Nat → List UInt8) : List Piece → List (Nat × Nat × Nat) → Prop
 | nil : Pcs N [] []
 | cons {p : Piece} {q : Nat × Nat × Nat} {ps : List Piece} {qs : List (Nat × Nat × Nat)} (h : ∃ line, p = stPiece (N q.2.1) q.1 line ((q.2.2 : Nat) : Int)) (k : Pcs N ps qs) : Pcs N (p :: ps) (q :: qs)
theorem ren_steps {N : Nat → List UInt8} (hN : NamesOk N) : ∀ (ls : List Ln) {S : PS} {labs : List (Nat × Nat)} {cnt m : Nat}, RS N S labs cnt m → (∀ l ∈ ls, LnOk l) → (∀ p ∈ labs ++ rLabs ls cnt, p.1 < 5) → ((labs ++ rLabs ls cnt).map (·.1)).Nodup → m + ls.length ≤ 800000 → cnt + 3 * ls.length < 4000 →
 ∃ S', Steps S (ls.map (lnText N)) S' ∧ RS N S' (labs ++ rLabs ls cnt) (rCnt ls cnt) (m + ls.length) ∧ ∃ ps, S'.pieces = S.pieces ++ ps ∧ Pcs N ps (rPcs ls cnt)
 | [], S, labs, cnt, m, h, _, _, _, _, _ => ⟨S, .nil S, by simpa [rLabs, rCnt] using h, [], by simp, .nil⟩
 | l :: ls, S, labs, cnt, m, h, hok, h5, hnd, hm, hc => by
  simp only [List.length_cons] at hm hc
  have hcnt := stCnt_le l.kind
  have e : labs ++ rLabs (l :: ls) cnt = (labs ++ labOf l cnt) ++ rLabs ls (cnt + stCnt l.kind) := by rw [rLabs, List.append_assoc]
  rw [e] at h5 hnd
  obtain ⟨S1, k1, k2, k3⟩ := ren_step hN h (hok l (by simp)) (fun p hp => ⟨h5 p (by simp [hp]), fun hq => by
   have e2 : labOf l cnt = [(p.1, 4 * cnt)] := by unfold labOf; rw [hq]
   rw [e2, List.map_append, List.map_append, List.nodup_append, List.nodup_append] at hnd
   exact hnd.1.2.2 p.1 (List.mem_map_of_mem hp) p.1 (by simp) rfl⟩) (by omega) (by omega)
  obtain ⟨S2, i1, i2, ps, i3, i4⟩ := ren_steps hN ls k2 (fun x hx => hok x (List.mem_cons_of_mem _ hx)) h5 hnd (by omega) (by omega)
  refine ⟨S2, .cons k1 i1, ?_, stPiece (N l.tgt) l.kind ((m : Int) + 1) ((4 * cnt : Nat) : Int) :: ps, by rw [i3, k3]; simp, .cons ⟨_, rfl⟩ i4⟩
  rw [e, List.length_cons, show m + (ls.length + 1) = m + 1 + ls.length by omega]
  exact i2
end Asm
end Go.Proofs.YtabmlbnnhhpaoaaGreatDoor
