/- What this claim needs of Asm13L2, Asm13N3, Asm13N8, Asm13NO, Asm13NB. -/
import Derived.Test.YtabmlbnnhhpaoaaGreatDoorEMAsmIns
import Derived.Test.YtabmlbnnhhpaoaaGreatDoorEMAsmPut
import Derived.Test.YtabmlbnnhhpaoaaGreatDoorEMAsmForms
set_option linter.unusedSimpArgs false
set_option linter.unusedVariables false
set_option maxHeartbeats 8000000
set_option maxRecDepth 100000
namespace Go.Proofs.YtabmlbnnhhpaoaaGreatDoor
open Go.RowKit Go.Shelf
theorem one_L2 (s : List UInt8) (hl : s.length ≤ 1000000) (tl tc wh t0 c1 t1 cv tv : Asm.Tok) (d a : Nat) (v : Asm.Val) (hts : Asm.tokens s = some [tl, tc, wh, t0, c1, t1, cv, tv]) (hl0 : tl.sort = 0) (hl1 : tl.bytes.length ≤ 1000000) (hl2 : Asm.nameOk tl.bytes = true) (hl3 : Asm.IsSign tc 58) (ht0 : Asm.IsReg t0 d) (hc1 : Asm.IsSign c1 44) (ht1 : Asm.IsReg t1 a) (hcv : Asm.IsSign cv 44) (htv : Asm.TokVal tv v) (hw : wh.sort = 0) (op : Nat) (h1 : 1 ≤ op) (h2 : op < 49) (hfo : Isa.formOf op = 2) (hnm : op < 24 ∨ 31 < op) (hnd : Isa.named ⟨wh.bytes.toArray⟩ = ((op : Int), true))
 (B : Asm.PB) (S : Asm.PS) (hb : Asm.Bnd S) (hline : S.line < 1000000) (hfl : S.fresh.length < 1000000) (hm : Asm.markOk { S with line := S.line + 1, toks := [], fresh := S.fresh ++ [tl.bytes] } = true) (hc : S.count < 4096) (hp : S.pos + 4 ≤ 4294967296) (w : World) (hP : Asm.Par B S w) :
 Calls Tryz.prog 27 #[.pointer (some ⟨B.b, 0, none⟩), .string ⟨s.toArray⟩] w fun e w' => e = .returned (.tuple #[]) ∧ ∃ B', Asm.Par B' (Asm.pushed { S with line := S.line + 1, toks := [], fresh := S.fresh ++ [tl.bytes] } ⟨(op : Int), (d : Int), (a : Int), 0, 0⟩ v) w' ∧ Asm.Step B w B' w' := by
 have hf1 := field1
 have hln0 := hb.line0
 have c0 : w.cell? ⟨B.b, 0, none⟩ = some (.int .i64 S.line) := (blk_facts hP.own).1 0
 have g0 : w.frozen? ⟨B.b, 0, none⟩ = false := (blk_facts hP.own).2 0
 have z0 := blk_size hP.own
 obtain ⟨hP1, st1⟩ := hP.set 0 (.int .i64 (S.line + 1)) B.vt (S.line + 1) S.toks S.origin S.placed S.count rfl hP.toks
 go_enter Tryz.func27, Tryz.ntmps27
 go_wp2_with fail
 have hT := tokens_calls s hl (w.setCell ⟨B.b, 0, none⟩ (.int .i64 (S.line + 1)))
 rw [hts] at hT
 refine hT.mono ?_
 rintro e y1 ⟨v1, rfl, hrow, hb1⟩
 clear hT
 have hP2 := hP1.kept hb1
 have st2 := st1.belowAfter hb1
 obtain ⟨p1, cap1, hv1⟩ := Asm.row_slice hrow
 subst hv1
 have view : Asm.TokView y1 (.slice p1 8 cap1) [tl, tc, wh, t0, c1, t1, cv, tv] := Asm.tokView_row hrow
 obtain ⟨hP3, st3⟩ := hP2.set 1 (.slice p1 8 cap1) (.slice p1 8 cap1) (S.line + 1) [tl, tc, wh, t0, c1, t1, cv, tv] S.origin S.placed S.count rfl view
 have st4 := st2.trans st3
 have c1 : y1.cell? ⟨B.b, 1, none⟩ = some B.vt := (blk_facts hP2.own).1 1
 have g1 : y1.frozen? ⟨B.b, 1, none⟩ = false := (blk_facts hP2.own).2 1
 have z1 : B.b < y1.heap.size := blk_size hP2.own
 clear hP2 hP1 hrow view st1 st2 st3
 go_wp2_with fail
 clear c0 g0 z0 c1 g1 z1
 generalize y1.setCell _ _ = Y at hP3 st4 ⊢
 refine wp_loop_rounds 2 ?_
 rw [rounds_succ]
 obtain ⟨vg, vo, vc, w5, w6, w1, w2, w3, w4, w7, w8⟩ := hP3.view rfl
 rw [show ((tl.sort : Nat) : Int) = 0 from by omega] at w2
 obtain ⟨w9, w10⟩ := w4 _ _ rfl
 rw [show ((tc.sort : Nat) : Int) = 2 from by have := hl3.sort; omega] at w9
 rw [hl3.bytes] at w10
 clear w4
 go_wp2_with fail
 clear w1 w2 w3 w5 w6 w7 w8 w9 w10
 have hq := next_calls { B with vt := .slice p1 8 cap1 } { S with line := S.line + 1, toks := [tl, tc, wh, t0, c1, t1, cv, tv], fresh := S.fresh } tl [tc, wh, t0, c1, t1, cv, tv] rfl _ hP3 |> fun h => (by rw [show ((tl.sort : Nat) : Int) = 0 from by omega] at h; exact h)
 refine hq.mono ?_
 rintro e x1 ⟨rfl, C1, hQ1, sp1⟩
 clear hq
 have sq1 := st4.trans sp1
 have eb1 : C1.b = B.b := sq1.b
 clear hP3 st4 sp1
 go_wp2_with fail
 refine (asmName_calls tl.bytes (by omega) _).mono ?_
 rintro e x9 ⟨rfl, h9⟩
 rw [h9, hl2]
 clear h9
 go_wp2_with fail
 have hq := comma_calls C1 { S with line := S.line + 1, toks := [tc, wh, t0, c1, t1, cv, tv], fresh := S.fresh } tc [wh, t0, c1, t1, cv, tv] 58 rfl hl3 _ hQ1
 rw [eb1] at hq
 refine hq.mono ?_
 rintro e x2 ⟨rfl, C2, hQ2, sp2⟩
 clear hq
 have sq2 := sq1.trans sp2
 have eb2 : C2.b = B.b := sq2.b
 clear hQ1 sq1 sp2
 obtain ⟨i0, hinf, hz0, hz1, hz2⟩ := info_parts asm_info9
 have hcn := cell_one_new x2 (.string ⟨tl.bytes.toArray⟩) 9
 have hW := hQ2.kept (below_alloc' (Below.refl x2.heap.size x2) (.cells #[.string ⟨tl.bytes.toArray⟩] 9))
 have c8 : x2.cell? ⟨B.b, 8, none⟩ = some C2.vf := by have h := (blk_facts hQ2.own).1 8; rw [eb2] at h; exact h
 have z8 : B.b < x2.heap.size := by have h := blk_size hQ2.own; rw [eb2] at h; exact h
 have hn8 : C2.n0 ≤ B.b := by have h := hQ2.b0; rw [eb2] at h; exact h
 go_wp2_with (at_builtin; refine wpList_append_own_at _ rfl _ _ 52 rfl C2.n0 9 i0 _ 1 16 Tryz.underlying52 hinf hz0 hz1 hz2 rfl (by decide) _ _ _ rfl hW.fresh ⟨x2.heap.size, 0, none⟩ 1 1 [.string ⟨tl.bytes.toArray⟩] rfl rfl hcn (by simp [Value.oneCell']) (by show S.fresh.length + 1 ≤ maxLen; unfold maxLen; omega) (by show (S.fresh.length + 1) * 16 ≤ _; omega) (by rw [alloc_size]; omega) ?_; intro v6 w6 hrow6 hgr6 hnil6 hblk6; have k6 := (hgr6.block C2.b (blk_size hW.own) (Asm.rowNot hW.fresh hW.own (by decide))).trans hW.own; have c6z : w6.cell? ⟨B.b, 8, none⟩ = some C2.vf := eb2 ▸ (blk_facts k6).1 8; have f6z : w6.frozen? ⟨B.b, 8, none⟩ = false := eb2 ▸ (blk_facts k6).2 8; obtain ⟨p6, cap6, hv6⟩ := Asm.row_slice hrow6; subst hv6)
 obtain ⟨hP6, ho6⟩ := hW.vfPush tl.bytes _ hrow6 hgr6 hblk6
 have st6 := (sq2.belowAfter (below_alloc' (Below.refl x2.heap.size x2) (.cells #[.string ⟨tl.bytes.toArray⟩] 9))).trans (Asm.Par.vfStep ho6 hblk6)
 rw [eb2] at hP6 st6
 clear hQ2 sq2 hW hrow6 hgr6 hnil6 hblk6 k6 c6z f6z c8 z8 hn8 ho6
 generalize w6.setCell _ _ = Y6 at hP6 st6 ⊢
 obtain ⟨D, hD⟩ : ∃ D, ({ C2 with b := B.b, vf := .slice p6 (({ S with line := S.line + 1, toks := [wh, t0, c1, t1, cv, tv], fresh := S.fresh } : Asm.PS).fresh.length + 1) cap6 } : Asm.PB) = D := ⟨_, rfl⟩
 have hP7 : Asm.Par D { S with line := S.line + 1, toks := [wh, t0, c1, t1, cv, tv], fresh := S.fresh ++ [tl.bytes] } Y6 := hD ▸ hP6
 have st7 : Asm.Step B w D Y6 := hD ▸ st6
 have ebD : D.b = B.b := by rw [← hD]
 clear hP6 st6 hD
 rw [rounds_succ]
 obtain ⟨vg, vo, vc, w5, w6, w1, w2, w3, w4, w7, w8⟩ := hP7.view rfl
 rw [ebD] at w1 w7
 rw [show ((wh.sort : Nat) : Int) = 0 from by omega] at w2
 obtain ⟨w9, w10⟩ := w4 _ _ rfl
 rw [show ((t0.sort : Nat) : Int) = 0 from by have := ht0.sort; omega] at w9
 clear w4
 go_wp2_with fail
 clear w1 w2 w3 w5 w6 w7 w8 w9 w10
 have hq := next_calls D { S with line := S.line + 1, toks := [wh, t0, c1, t1, cv, tv], fresh := S.fresh ++ [tl.bytes] } wh [t0, c1, t1, cv, tv] rfl _ hP7 |> fun h => (by rw [show ((wh.sort : Nat) : Int) = 0 from by omega] at h; exact h)
 rw [ebD] at hq
 refine hq.mono ?_
 rintro e x3 ⟨rfl, C3, hQ3, sp3⟩
 clear hq
 have sq3 := st7.trans sp3
 have eb3 : C3.b = B.b := sq3.b
 clear hP7 st7 sp3
 go_wp2_with fail
 refine (Named_calls ⟨wh.bytes.toArray⟩ _).mono ?_
 rintro e x8 ⟨rfl, h8⟩
 rw [hnd]
 have hP8 := hQ3.kept h8
 have st8 := sq3.belowAfter h8
 have hq := instr_form2 op h1 h2 hfo hnm C3 { S with line := S.line + 1, toks := [t0, c1, t1, cv, tv], fresh := S.fresh ++ [tl.bytes] } t0 c1 t1 cv tv d a v rfl ht0 hc1 ht1 hcv htv ⟨hb.o0, hb.o1, hb.c, hb.puts, hb.labels, hb.pieces, by show 0 ≤ S.line + 1; omega, by show S.line + 1 ≤ 1000000; omega⟩ hm hc hp _ hP8
 rw [eb3] at hq
 go_wp2_with fail
 refine hq.mono ?_
 rintro e x10 ⟨rfl, E, hE, sE⟩
 have sF := st8.trans sE
 go_wp2_with fail
 go_end0
 exact ⟨rfl, E, hE, sF⟩
end Go.Proofs.YtabmlbnnhhpaoaaGreatDoor
set_option maxHeartbeats 8000000
set_option maxRecDepth 100000
namespace Go.Proofs.YtabmlbnnhhpaoaaGreatDoor
open Go.RowKit Go.Shelf
theorem one_N3 (s : List UInt8) (hl : s.length ≤ 1000000) (wh t0 c1 t1 cv tv : Asm.Tok) (a b : Nat) (v : Asm.Val) (hts : Asm.tokens s = some [wh, t0, c1, t1, cv, tv]) (ht0 : Asm.IsReg t0 a) (hc1 : Asm.IsSign c1 44) (ht1 : Asm.IsReg t1 b) (hcv : Asm.IsSign cv 44) (htv : Asm.TokVal tv v) (hw : wh.sort = 0) (op : Nat) (h1 : 1 ≤ op) (h2 : op < 49) (hfo : Isa.formOf op = 3) (hnm : op < 24 ∨ 31 < op) (hnd : Isa.named ⟨wh.bytes.toArray⟩ = ((op : Int), true))
 (B : Asm.PB) (S : Asm.PS) (hb : Asm.Bnd S) (hline : S.line < 1000000) (hfl : S.fresh.length < 1000000) (hm : Asm.markOk { S with line := S.line + 1, toks := [], fresh := S.fresh } = true) (hc : S.count < 4096) (hp : S.pos + 4 ≤ 4294967296) (w : World) (hP : Asm.Par B S w) :
 Calls Tryz.prog 27 #[.pointer (some ⟨B.b, 0, none⟩), .string ⟨s.toArray⟩] w fun e w' => e = .returned (.tuple #[]) ∧ ∃ B', Asm.Par B' (Asm.pushed { S with line := S.line + 1, toks := [], fresh := S.fresh } ⟨(op : Int), 0, (a : Int), (b : Int), 0⟩ v) w' ∧ Asm.Step B w B' w' := by
 have hf1 := field1
 have hln0 := hb.line0
 have c0 : w.cell? ⟨B.b, 0, none⟩ = some (.int .i64 S.line) := (blk_facts hP.own).1 0
 have g0 : w.frozen? ⟨B.b, 0, none⟩ = false := (blk_facts hP.own).2 0
 have z0 := blk_size hP.own
 obtain ⟨hP1, st1⟩ := hP.set 0 (.int .i64 (S.line + 1)) B.vt (S.line + 1) S.toks S.origin S.placed S.count rfl hP.toks
 go_enter Tryz.func27, Tryz.ntmps27
 go_wp2_with fail
 have hT := tokens_calls s hl (w.setCell ⟨B.b, 0, none⟩ (.int .i64 (S.line + 1)))
 rw [hts] at hT
 refine hT.mono ?_
 rintro e y1 ⟨v1, rfl, hrow, hb1⟩
 clear hT
 have hP2 := hP1.kept hb1
 have st2 := st1.belowAfter hb1
 obtain ⟨p1, cap1, hv1⟩ := Asm.row_slice hrow
 subst hv1
 have view : Asm.TokView y1 (.slice p1 6 cap1) [wh, t0, c1, t1, cv, tv] := Asm.tokView_row hrow
 obtain ⟨hP3, st3⟩ := hP2.set 1 (.slice p1 6 cap1) (.slice p1 6 cap1) (S.line + 1) [wh, t0, c1, t1, cv, tv] S.origin S.placed S.count rfl view
 have st4 := st2.trans st3
 have c1 : y1.cell? ⟨B.b, 1, none⟩ = some B.vt := (blk_facts hP2.own).1 1
 have g1 : y1.frozen? ⟨B.b, 1, none⟩ = false := (blk_facts hP2.own).2 1
 have z1 : B.b < y1.heap.size := blk_size hP2.own
 clear hP2 hP1 hrow view st1 st2 st3
 go_wp2_with fail
 clear c0 g0 z0 c1 g1 z1
 generalize y1.setCell _ _ = Y at hP3 st4 ⊢
 refine wp_loop_rounds 1 ?_
 rw [rounds_succ]
 obtain ⟨vg, vo, vc, w5, w6, w1, w2, w3, w4, w7, w8⟩ := hP3.view rfl
 rw [show ((wh.sort : Nat) : Int) = 0 from by omega] at w2
 obtain ⟨w9, w10⟩ := w4 _ _ rfl
 rw [show ((t0.sort : Nat) : Int) = 0 from by have := ht0.sort; omega] at w9
 clear w4
 go_wp2_with fail
 clear w1 w2 w3 w5 w6 w7 w8 w9 w10
 have hq := next_calls { B with vt := .slice p1 6 cap1 } { S with line := S.line + 1, toks := [wh, t0, c1, t1, cv, tv], fresh := S.fresh } wh [t0, c1, t1, cv, tv] rfl _ hP3 |> fun h => (by rw [show ((wh.sort : Nat) : Int) = 0 from by omega] at h; exact h)
 refine hq.mono ?_
 rintro e x1 ⟨rfl, C1, hQ1, sp1⟩
 clear hq
 have sq1 := st4.trans sp1
 have eb1 : C1.b = B.b := sq1.b
 clear hP3 st4 sp1
 go_wp2_with fail
 refine (Named_calls ⟨wh.bytes.toArray⟩ _).mono ?_
 rintro e x8 ⟨rfl, h8⟩
 rw [hnd]
 have hP8 := hQ1.kept h8
 have st8 := sq1.belowAfter h8
 have hq := instr_form3 op h1 h2 hfo hnm C1 { S with line := S.line + 1, toks := [t0, c1, t1, cv, tv], fresh := S.fresh } t0 c1 t1 cv tv a b v rfl ht0 hc1 ht1 hcv htv ⟨hb.o0, hb.o1, hb.c, hb.puts, hb.labels, hb.pieces, by show 0 ≤ S.line + 1; omega, by show S.line + 1 ≤ 1000000; omega⟩ hm hc hp _ hP8
 rw [eb1] at hq
 go_wp2_with fail
 refine hq.mono ?_
 rintro e x10 ⟨rfl, E, hE, sE⟩
 have sF := st8.trans sE
 go_wp2_with fail
 go_end0
 exact ⟨rfl, E, hE, sF⟩
end Go.Proofs.YtabmlbnnhhpaoaaGreatDoor
set_option maxHeartbeats 8000000
set_option maxRecDepth 100000
namespace Go.Proofs.YtabmlbnnhhpaoaaGreatDoor
open Go.RowKit Go.Shelf
theorem one_N8 (s : List UInt8) (hl : s.length ≤ 1000000) (wh : Asm.Tok)   (hts : Asm.tokens s = some [wh]) (hw : wh.sort = 0) (op : Nat) (h1 : 1 ≤ op) (h2 : op < 49) (hfo : Isa.formOf op = 8) (hnm : op < 24 ∨ 31 < op) (hnd : Isa.named ⟨wh.bytes.toArray⟩ = ((op : Int), true))
 (B : Asm.PB) (S : Asm.PS) (hb : Asm.Bnd S) (hline : S.line < 1000000) (hfl : S.fresh.length < 1000000) (hm : Asm.markOk { S with line := S.line + 1, toks := [], fresh := S.fresh } = true) (hc : S.count < 4096) (hp : S.pos + 4 ≤ 4294967296) (w : World) (hP : Asm.Par B S w) :
 Calls Tryz.prog 27 #[.pointer (some ⟨B.b, 0, none⟩), .string ⟨s.toArray⟩] w fun e w' => e = .returned (.tuple #[]) ∧ ∃ B', Asm.Par B' (Asm.pushed { S with line := S.line + 1, toks := [], fresh := S.fresh } ⟨(op : Int), 0, 0, 0, 0⟩ ⟨[], 0⟩) w' ∧ Asm.Step B w B' w' := by
 have hf1 := field1
 have hln0 := hb.line0
 have c0 : w.cell? ⟨B.b, 0, none⟩ = some (.int .i64 S.line) := (blk_facts hP.own).1 0
 have g0 : w.frozen? ⟨B.b, 0, none⟩ = false := (blk_facts hP.own).2 0
 have z0 := blk_size hP.own
 obtain ⟨hP1, st1⟩ := hP.set 0 (.int .i64 (S.line + 1)) B.vt (S.line + 1) S.toks S.origin S.placed S.count rfl hP.toks
 go_enter Tryz.func27, Tryz.ntmps27
 go_wp2_with fail
 have hT := tokens_calls s hl (w.setCell ⟨B.b, 0, none⟩ (.int .i64 (S.line + 1)))
 rw [hts] at hT
 refine hT.mono ?_
 rintro e y1 ⟨v1, rfl, hrow, hb1⟩
 clear hT
 have hP2 := hP1.kept hb1
 have st2 := st1.belowAfter hb1
 obtain ⟨p1, cap1, hv1⟩ := Asm.row_slice hrow
 subst hv1
 have view : Asm.TokView y1 (.slice p1 1 cap1) [wh] := Asm.tokView_row hrow
 obtain ⟨hP3, st3⟩ := hP2.set 1 (.slice p1 1 cap1) (.slice p1 1 cap1) (S.line + 1) [wh] S.origin S.placed S.count rfl view
 have st4 := st2.trans st3
 have c1 : y1.cell? ⟨B.b, 1, none⟩ = some B.vt := (blk_facts hP2.own).1 1
 have g1 : y1.frozen? ⟨B.b, 1, none⟩ = false := (blk_facts hP2.own).2 1
 have z1 : B.b < y1.heap.size := blk_size hP2.own
 clear hP2 hP1 hrow view st1 st2 st3
 go_wp2_with fail
 clear c0 g0 z0 c1 g1 z1
 generalize y1.setCell _ _ = Y at hP3 st4 ⊢
 refine wp_loop_rounds 1 ?_
 rw [rounds_succ]
 obtain ⟨vg, vo, vc, w5, w6, w1, w2, w3, w4, w7, w8⟩ := hP3.view rfl
 rw [show ((wh.sort : Nat) : Int) = 0 from by omega] at w2
 clear w4
 go_wp2_with fail
 clear w1 w2 w3 w5 w6 w7 w8
 have hq := next_calls { B with vt := .slice p1 1 cap1 } { S with line := S.line + 1, toks := [wh], fresh := S.fresh } wh [] rfl _ hP3 |> fun h => (by rw [show ((wh.sort : Nat) : Int) = 0 from by omega] at h; exact h)
 refine hq.mono ?_
 rintro e x1 ⟨rfl, C1, hQ1, sp1⟩
 clear hq
 have sq1 := st4.trans sp1
 have eb1 : C1.b = B.b := sq1.b
 clear hP3 st4 sp1
 go_wp2_with fail
 refine (Named_calls ⟨wh.bytes.toArray⟩ _).mono ?_
 rintro e x8 ⟨rfl, h8⟩
 rw [hnd]
 have hP8 := hQ1.kept h8
 have st8 := sq1.belowAfter h8
 have hq := instr_form8 op h1 h2 hfo hnm C1 { S with line := S.line + 1, toks := [], fresh := S.fresh }   rfl  ⟨hb.o0, hb.o1, hb.c, hb.puts, hb.labels, hb.pieces, by show 0 ≤ S.line + 1; omega, by show S.line + 1 ≤ 1000000; omega⟩ hm hc hp _ hP8
 rw [eb1] at hq
 go_wp2_with fail
 refine hq.mono ?_
 rintro e x10 ⟨rfl, E, hE, sE⟩
 have sF := st8.trans sE
 go_wp2_with fail
 go_end0
 exact ⟨rfl, E, hE, sF⟩
end Go.Proofs.YtabmlbnnhhpaoaaGreatDoor
set_option maxHeartbeats 8000000
set_option maxRecDepth 100000
namespace Go.Proofs.YtabmlbnnhhpaoaaGreatDoor
open Go.RowKit Go.Shelf
theorem one_NO (s : List UInt8) (hl : s.length ≤ 1000000) (wh tn : Asm.Tok)   (hts : Asm.tokens s = some [wh, tn]) (hw : wh.sort = 0) (hw2 : wh.bytes = [46, 111, 114, 103]) (hn1 : tn.sort = 1) (hn2 : 0 ≤ tn.n) (hn3 : tn.n < 4294967296) (hn4 : tn.n % 4 = 0)
 (B : Asm.PB) (S : Asm.PS) (hb : Asm.Bnd S) (hline : S.line < 1000000) (hfl : S.fresh.length < 1000000) (hpl : S.placed = false) (hfr : S.fresh = [])  (w : World) (hP : Asm.Par B S w) :
 Calls Tryz.prog 27 #[.pointer (some ⟨B.b, 0, none⟩), .string ⟨s.toArray⟩] w fun e w' => e = .returned (.tuple #[]) ∧ ∃ B', Asm.Par B' { S with line := S.line + 1, toks := [], origin := tn.n, placed := true } w' ∧ Asm.Step B w B' w' := by
 have hf1 := field1
 have hln0 := hb.line0
 have c0 : w.cell? ⟨B.b, 0, none⟩ = some (.int .i64 S.line) := (blk_facts hP.own).1 0
 have g0 : w.frozen? ⟨B.b, 0, none⟩ = false := (blk_facts hP.own).2 0
 have z0 := blk_size hP.own
 obtain ⟨hP1, st1⟩ := hP.set 0 (.int .i64 (S.line + 1)) B.vt (S.line + 1) S.toks S.origin S.placed S.count rfl hP.toks
 go_enter Tryz.func27, Tryz.ntmps27
 go_wp2_with fail
 have hT := tokens_calls s hl (w.setCell ⟨B.b, 0, none⟩ (.int .i64 (S.line + 1)))
 rw [hts] at hT
 refine hT.mono ?_
 rintro e y1 ⟨v1, rfl, hrow, hb1⟩
 clear hT
 have hP2 := hP1.kept hb1
 have st2 := st1.belowAfter hb1
 obtain ⟨p1, cap1, hv1⟩ := Asm.row_slice hrow
 subst hv1
 have view : Asm.TokView y1 (.slice p1 2 cap1) [wh, tn] := Asm.tokView_row hrow
 obtain ⟨hP3, st3⟩ := hP2.set 1 (.slice p1 2 cap1) (.slice p1 2 cap1) (S.line + 1) [wh, tn] S.origin S.placed S.count rfl view
 have st4 := st2.trans st3
 have c1 : y1.cell? ⟨B.b, 1, none⟩ = some B.vt := (blk_facts hP2.own).1 1
 have g1 : y1.frozen? ⟨B.b, 1, none⟩ = false := (blk_facts hP2.own).2 1
 have z1 : B.b < y1.heap.size := blk_size hP2.own
 clear hP2 hP1 hrow view st1 st2 st3
 go_wp2_with fail
 clear c0 g0 z0 c1 g1 z1
 generalize y1.setCell _ _ = Y at hP3 st4 ⊢
 refine wp_loop_rounds 1 ?_
 rw [rounds_succ]
 obtain ⟨vg, vo, vc, w5, w6, w1, w2, w3, w4, w7, w8⟩ := hP3.view rfl
 rw [show ((wh.sort : Nat) : Int) = 0 from by omega] at w2
 obtain ⟨w9, w10⟩ := w4 _ _ rfl
 rw [show ((tn.sort : Nat) : Int) = 1 from by omega] at w9
 clear w4
 go_wp2_with fail
 clear w1 w2 w3 w5 w6 w7 w8 w9 w10
 have hq := next_calls { B with vt := .slice p1 2 cap1 } { S with line := S.line + 1, toks := [wh, tn], fresh := S.fresh } wh [tn] rfl _ hP3 |> fun h => (by rw [show ((wh.sort : Nat) : Int) = 0 from by omega] at h; exact h)
 refine hq.mono ?_
 rintro e x1 ⟨rfl, C1, hQ1, sp1⟩
 clear hq
 have sq1 := st4.trans sp1
 have eb1 : C1.b = B.b := sq1.b
 clear hP3 st4 sp1
 go_wp2_with fail
 try rw [hw2]
 refine (Named_calls ⟨#[46, 111, 114, 103]⟩ _).mono ?_
 rintro e x8 ⟨rfl, h8⟩
 rw [show Isa.named ⟨#[46, 111, 114, 103]⟩ = (0, false) from by decide +kernel]
 have hP8 := hQ1.kept h8
 have st8 := sq1.belowAfter h8
 go_wp2_with fail
 refine (others_calls _).mono ?_
 rintro e x9 ⟨g9, rfl, hg9, o9, h9⟩
 obtain ⟨f9, ps9, hlk, hf9⟩ := o9.look_ok (Maps.string_keyed Tryz.underlying9) Tryz.underlying134 (z := .nilFunc) (Tryz.zeroValue132 x9) (show Asm.RV .nilFunc = _ from rfl) (Go.WideMaps.keyOf_string_mk Tryz.underlying9 (s := ⟨#[46, 111, 114, 103]⟩) (by decide))
 have hat : (Asm.othersD Asm.otherKeys (.map [])).atKey (.string [46, 111, 114, 103]) (.held .nilFunc) = .held (.func (.func 111) #[] #[]) := rfl
 have hhas : Maps.has (Asm.othersD Asm.otherKeys (.map [])) (.string [46, 111, 114, 103]) = true := by decide +kernel
 rw [show (⟨#[46, 111, 114, 103]⟩ : ByteArray).data.toList = [46, 111, 114, 103] from rfl] at hlk hf9
 rw [hhas] at hlk
 rw [hat] at hf9
 have hf9' : f9 = .func (.func 111) #[] #[] := by injection (congrArg Prod.fst (Option.some.inj hf9))
 subst hf9'
 clear hf9 hat hhas
 have hP9 := hP8.kept h9
 have st9 := st8.belowAfter h9
 have hq := org_calls C1 { S with line := S.line + 1, toks := [tn], fresh := S.fresh } tn rfl hn1 hpl hfr hn2 hn3 hn4 _ hP9
 rw [eb1] at hq
 go_wp2_with fail
 refine hq.mono ?_
 rintro e x10 ⟨rfl, E, hE, sE⟩
 have sF := st9.trans sE
 go_wp2_with fail
 go_end0
 exact ⟨rfl, E, hE, sF⟩
end Go.Proofs.YtabmlbnnhhpaoaaGreatDoor
set_option maxHeartbeats 8000000
set_option maxRecDepth 100000
namespace Go.Proofs.YtabmlbnnhhpaoaaGreatDoor
open Go.RowKit Go.Shelf
theorem one_NB (s : List UInt8) (hl : s.length ≤ 1000000)    (hts : Asm.tokens s = some []) 
 (B : Asm.PB) (S : Asm.PS) (hb : Asm.Bnd S) (hline : S.line < 1000000) (hfl : S.fresh.length < 1000000) (hm : Asm.markOk { S with line := S.line + 1, toks := [], fresh := S.fresh } = true)  (w : World) (hP : Asm.Par B S w) :
 Calls Tryz.prog 27 #[.pointer (some ⟨B.b, 0, none⟩), .string ⟨s.toArray⟩] w fun e w' => e = .returned (.tuple #[]) ∧ ∃ B', Asm.Par B' (Asm.marked { S with line := S.line + 1, toks := [], fresh := S.fresh }) w' ∧ Asm.Step B w B' w' := by
 have hf1 := field1
 have hln0 := hb.line0
 have c0 : w.cell? ⟨B.b, 0, none⟩ = some (.int .i64 S.line) := (blk_facts hP.own).1 0
 have g0 : w.frozen? ⟨B.b, 0, none⟩ = false := (blk_facts hP.own).2 0
 have z0 := blk_size hP.own
 obtain ⟨hP1, st1⟩ := hP.set 0 (.int .i64 (S.line + 1)) B.vt (S.line + 1) S.toks S.origin S.placed S.count rfl hP.toks
 go_enter Tryz.func27, Tryz.ntmps27
 go_wp2_with fail
 have hT := tokens_calls s hl (w.setCell ⟨B.b, 0, none⟩ (.int .i64 (S.line + 1)))
 rw [hts] at hT
 refine hT.mono ?_
 rintro e y1 ⟨v1, rfl, hrow, hb1⟩
 clear hT
 have hP2 := hP1.kept hb1
 have st2 := st1.belowAfter hb1
 obtain ⟨p1, cap1, hv1⟩ := Asm.row_slice hrow
 subst hv1
 have view : Asm.TokView y1 (.slice p1 0 cap1) [] := Asm.tokView_row hrow
 obtain ⟨hP3, st3⟩ := hP2.set 1 (.slice p1 0 cap1) (.slice p1 0 cap1) (S.line + 1) [] S.origin S.placed S.count rfl view
 have st4 := st2.trans st3
 have c1 : y1.cell? ⟨B.b, 1, none⟩ = some B.vt := (blk_facts hP2.own).1 1
 have g1 : y1.frozen? ⟨B.b, 1, none⟩ = false := (blk_facts hP2.own).2 1
 have z1 : B.b < y1.heap.size := blk_size hP2.own
 clear hP2 hP1 hrow view st1 st2 st3
 go_wp2_with fail
 clear c0 g0 z0 c1 g1 z1
 generalize y1.setCell _ _ = Y at hP3 st4 ⊢
 refine wp_loop_rounds 1 ?_
 rw [rounds_succ]
 obtain ⟨vp, vc, w1, w2⟩ := hP3.viewNil rfl
 go_wp2_with fail
 clear w1 w2
 have hq := mark_calls { B with vt := .slice p1 0 cap1 } { S with line := S.line + 1, toks := [], fresh := S.fresh } ⟨hb.o0, hb.o1, hb.c, hb.puts, hb.labels, hb.pieces, by show 0 ≤ S.line + 1; omega, by show S.line + 1 ≤ 1000000; omega⟩ hm _ hP3
 refine hq.mono ?_
 rintro e x1 ⟨rfl, C1, hQ1, sp1⟩
 clear hq
 have sq1 := st4.trans sp1
 have eb1 : C1.b = B.b := sq1.b
 clear hP3 st4 sp1
 go_wp2_with fail
 refine bodyPost_ret (v := .tuple #[]) (by simp [results, Tryz.results27, go_sem]) rfl ⟨rfl, _, hQ1, sq1⟩
end Go.Proofs.YtabmlbnnhhpaoaaGreatDoor
