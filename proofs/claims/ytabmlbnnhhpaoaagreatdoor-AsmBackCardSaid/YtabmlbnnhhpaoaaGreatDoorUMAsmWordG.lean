/- What this claim needs of AsmWordSt, AsmOneNI, AsmOneNO, AsmWordLaw, AsmWord1, AsmOneLB, AsmOneNB. -/
import Derived.Test.YtabmlbnnhhpaoaaGreatDoorEMAsmIns
import Derived.Test.YtabmlbnnhhpaoaaGreatDoorEMAsmPut
import Derived.Test.YtabmlbnnhhpaoaaGreatDoorEMAsmForms
import Derived.Test.YtabmlbnnhhpaoaaGreatDoorUMTokG
import Derived.Test.YtabmlbnnhhpaoaaGreatDoorUMAsmAll
import Derived.Test.YtabmlbnnhhpaoaaGreatDoorEMAsmDisG
set_option linter.unusedSimpArgs false
set_option linter.unusedVariables false
set_option maxHeartbeats 2000000
set_option maxRecDepth 100000
namespace Go.Proofs.YtabmlbnnhhpaoaaGreatDoor
open Go.RowKit Go.Shelf
theorem is_nil (B : Asm.PB) (S : Asm.PS) (hS : S.toks = []) (q : List UInt8) (w : World) (hP : Asm.Par B S w) :
 Calls Tryz.prog 97 #[.pointer (some ⟨B.b, 0, none⟩), .string ⟨q.toArray⟩] w fun e w' => e = .returned (.bool false) ∧ w' = w := by
 obtain ⟨p, cap, ev, hlc, hcm, hcell⟩ := hP.toks
 rw [hS] at ev
 obtain ⟨dp, fp⟩ := blk_facts hP.own
 have c1 : w.cell? ⟨B.b, 1, none⟩ = some (.slice p 0 cap) := (dp 1).trans (by rw [← show B.vt = .slice p 0 cap from ev]; rfl)
 have z1 := blk_size hP.own
 clear dp fp
 go_enter Tryz.func97, Tryz.ntmps97
 go_wp2_with fail
 go_ret
 exact ⟨rfl, rfl⟩
theorem word_one (B : Asm.PB) (S : Asm.PS) (t : Asm.Tok) (v : Asm.Val) (hS : S.toks = [t]) (hv : Asm.TokVal t v) (hb : Asm.Bnd S) (hm : Asm.markOk S = true) (hc : S.count < 4096) (hp : S.pos + 4 ≤ 4294967296) (w : World) (hP : Asm.Par B S w) :
 Calls Tryz.prog 112 #[.pointer (some ⟨B.b, 0, none⟩)] w fun e w' => e = .returned (.tuple #[]) ∧
  ∃ B', Asm.Par B' (Asm.pushedX { S with toks := [] } ⟨S.line, S.pos, ⟨0, 0, 0, 0, 0⟩, ⟨[], 0⟩, .word [v]⟩ 1) w' ∧ Asm.Step B w B' w' := by
 go_enter Tryz.func112, Tryz.ntmps112
 go_wp2_with fail
 refine (value_calls B S t [] v hS hv w hP).mono ?_
 rintro e y1 ⟨rfl, B1, hP1, st1⟩
 have eb1 : B1.b = B.b := st1.b
 go_wp2_with fail
 obtain ⟨W, hW⟩ : ∃ W, (y1.alloc (.cells #[.string ⟨v.name.toArray⟩, .int .i64 v.n] 195)).alloc (.cells #[.slice (some ⟨y1.heap.size, 0, none⟩) 1 1] 228) = W := ⟨_, rfl⟩
 have bW : Below y1.heap.size y1 W := hW ▸ below_alloc' (below_alloc' (Below.refl _ _) _) _
 have kG : W.heap[y1.heap.size]? = some (.cells #[.string ⟨v.name.toArray⟩, .int .i64 v.n] 195 (0, 0)) := hW ▸ blk_alloc _ (heap_alloc_new _ _)
 have kL : W.heap[y1.heap.size + 1]? = some (.cells #[.slice (some ⟨y1.heap.size, 0, none⟩) 1 1] 228 (0, 0)) := by
  have h := heap_alloc_new (y1.alloc (.cells #[.string ⟨v.name.toArray⟩, .int .i64 v.n] 195)) (.cells #[.slice (some ⟨y1.heap.size, 0, none⟩) 1 1] 228)
  rw [alloc_size] at h
  exact hW ▸ h
 have hPW := hP1.kept bW
 have hlt := hP1.ltAll
 have hn1 := hP1.b0
 have hbb := hlt B1.b (.inl rfl)
 have hys := st1.off.size
 have ml : W.cell? ⟨y1.heap.size + 1, 0, none⟩ = some (.slice (some ⟨y1.heap.size, 0, none⟩) 1 1) := (blk_facts kL).1 0
 have zl := blk_size kL
 rw [hW]
 clear hW
 refine wp_loop_rounds 1 ?_
 rw [rounds_succ]
 go_wp2_with fail
 have hi := is_nil B1 { S with toks := [] } rfl [44] W hPW
 rw [eb1] at hi
 refine hi.mono ?_
 rintro e w2 ⟨rfl, h2⟩
 rw [h2]
 clear h2
 have hmf : ∀ (fn : Fn) (first cap : Array Value) (w : World), (Instr.makeFunc fn first cap).run Tryz.prog w = .ok (.func fn first cap) w := fun _ _ _ _ => rfl
 go_wp2_with fail
 have hput := put_callsX B1 { S with toks := [] } ⟨hb.o0, hb.o1, hb.c, hb.puts, hb.labels, hb.pieces, hb.line0, hb.line1⟩ hm rfl 1 (by decide) (by show S.count + 1 ≤ _; omega) (by show S.pos + 4 * 1 ≤ _; omega) ⟨S.line, S.pos, ⟨0, 0, 0, 0, 0⟩, ⟨[], 0⟩, .word [v]⟩ rfl rfl W hPW (139, [y1.heap.size + 1, y1.heap.size])
  ⟨y1.heap.size + 1, y1.heap.size, 1, _, rfl, by simp, by decide, kL, kG, fun j u hj => by simpa [Asm.valCells] using hj⟩ (by simp) y1 (Asm.Off.of_below bW) (by
   intro g hg
   simp at hg
   rcases hg with rfl | rfl
   · exact ⟨fun h => by have := hlt _ h; omega, by omega, by omega⟩
   · exact ⟨fun h => by have := hlt _ h; omega, by omega, by omega⟩)
 rw [eb1] at hput
 refine hput.mono ?_
 rintro e x2 ⟨rfl, D, hD, sD⟩
 have sE := st1.trans sD
 go_wp2_with fail
 go_end0
 exact ⟨rfl, D, hD, sE⟩
end Go.Proofs.YtabmlbnnhhpaoaaGreatDoor
set_option maxHeartbeats 8000000
set_option maxRecDepth 100000
namespace Go.Proofs.YtabmlbnnhhpaoaaGreatDoor
open Go.RowKit Go.Shelf
theorem one_NIx (s : List UInt8) (hl : s.length ≤ 1000000) (B : Asm.PB) (S : Asm.PS) (wh : Asm.Tok) (rest : List Asm.Tok) (hw : wh.sort = 0) (hrest : rest = [] ∨ ∃ t r, rest = t :: r ∧ t.sort ≠ 2) (op : Int) (hnd : Isa.named ⟨wh.bytes.toArray⟩ = (op, true)) (S' : Asm.PS) (hin : ∀ (C : Asm.PB) (y : World), Asm.Par C { S with line := S.line + 1, toks := rest, fresh := S.fresh } y → Calls Tryz.prog 57 #[.pointer (some ⟨C.b, 0, none⟩), .int .i64 op] y fun e w' => e = .returned (.tuple #[]) ∧ ∃ B', Asm.Par B' S' w' ∧ Asm.Step C y B' w') (hts : Asm.tokens s = some (wh :: rest))
 (hb : Asm.Bnd S) (hline : S.line < 1000000) (hfl : S.fresh.length < 1000000)  (w : World) (hP : Asm.Par B S w) :
 Calls Tryz.prog 27 #[.pointer (some ⟨B.b, 0, none⟩), .string ⟨s.toArray⟩] w fun e w' => e = .returned (.tuple #[]) ∧ ∃ B', Asm.Par B' S' w' ∧ Asm.Step B w B' w' := by
 have hf1 := field1
 have hln0 := hb.line0
 have c0 : w.cell? ⟨B.b, 0, none⟩ = some (.int .i64 S.line) := (blk_facts hP.own).1 0
 have g0 : w.frozen? ⟨B.b, 0, none⟩ = false := (blk_facts hP.own).2 0
 have z0 := blk_size hP.own
 obtain ⟨hP1, st1⟩ := hP.set 0 (.int .i64 (S.line + 1)) B.vt (S.line + 1) S.toks S.origin S.placed S.count rfl hP.toks
 rcases hrest with rfl | ⟨t, r, rfl, hns⟩
 · go_enter Tryz.func27, Tryz.ntmps27
   go_wp2_with fail
   have hT := tokens_calls s hl (w.setCell ⟨B.b, 0, none⟩ (.int .i64 (S.line + 1)))
   rw [hts] at hT
   refine hT.mono ?_
   rintro e y1 ⟨v1, rfl, hrow, hb1⟩
   clear hT
   have hP2 := hP1.kept hb1
   have st2 := st1.belowAfter hb1
   obtain ⟨p1, cap1, hv1⟩ := Asm.row_slice hrow
   subst hv1
   have view : Asm.TokView y1 (.slice p1 1 cap1) ([wh]) := Asm.tokView_row hrow
   obtain ⟨hP3, st3⟩ := hP2.set 1 (.slice p1 1 cap1) (.slice p1 1 cap1) (S.line + 1) ([wh]) S.origin S.placed S.count rfl view
   have st4 := st2.trans st3
   have c1 : y1.cell? ⟨B.b, 1, none⟩ = some B.vt := (blk_facts hP2.own).1 1
   have g1 : y1.frozen? ⟨B.b, 1, none⟩ = false := (blk_facts hP2.own).2 1
   have z1 : B.b < y1.heap.size := blk_size hP2.own
   clear hP2 hP1 hrow view st1 st2 st3
   go_wp2_with fail
   clear c0 g0 z0 c1 g1 z1
   generalize y1.setCell _ _ = Y at hP3 st4 ⊢
   refine wp_loop_rounds 1 ?_
   rw [rounds_succ]
   obtain ⟨vg, vo, vc, w5, w6, w1, w2, w3, w4, w7, w8⟩ := hP3.view rfl
   rw [show ((wh.sort : Nat) : Int) = 0 from by omega] at w2
   clear w4
   go_wp2_with fail
   clear w1 w2 w3 w5 w6 w7 w8
   have hq := next_calls { B with vt := .slice p1 1 cap1 } { S with line := S.line + 1, toks := [wh], fresh := S.fresh } wh ([]) rfl _ hP3 |> fun h => (by rw [show ((wh.sort : Nat) : Int) = 0 from by omega] at h; exact h)
   refine hq.mono ?_
   rintro e x1 ⟨rfl, C1, hQ1, sp1⟩
   clear hq
   have sq1 := st4.trans sp1
   have eb1 : C1.b = B.b := sq1.b
   clear hP3 st4 sp1
   go_wp2_with fail
   refine (Named_calls ⟨wh.bytes.toArray⟩ _).mono ?_
   rintro e x8 ⟨rfl, h8⟩
   rw [hnd]
   have hP8 := hQ1.kept h8
   have st8 := sq1.belowAfter h8
   have hq := hin C1 _ hP8
   rw [eb1] at hq
   go_wp2_with fail
   refine hq.mono ?_
   rintro e x10 ⟨rfl, E, hE, sE⟩
   have sF := st8.trans sE
   go_wp2_with fail
   go_end0
   exact ⟨rfl, E, hE, sF⟩
 · go_enter Tryz.func27, Tryz.ntmps27
   go_wp2_with fail
   have hT := tokens_calls s hl (w.setCell ⟨B.b, 0, none⟩ (.int .i64 (S.line + 1)))
   rw [hts] at hT
   refine hT.mono ?_
   rintro e y1 ⟨v1, rfl, hrow, hb1⟩
   clear hT
   have hP2 := hP1.kept hb1
   have st2 := st1.belowAfter hb1
   obtain ⟨p1, cap1, hv1⟩ := Asm.row_slice hrow
   subst hv1
   have view : Asm.TokView y1 (.slice p1 (r.length + 1 + 1) cap1) (wh :: t :: r) := Asm.tokView_row hrow
   obtain ⟨hP3, st3⟩ := hP2.set 1 (.slice p1 (r.length + 1 + 1) cap1) (.slice p1 (r.length + 1 + 1) cap1) (S.line + 1) (wh :: t :: r) S.origin S.placed S.count rfl view
   have st4 := st2.trans st3
   have c1 : y1.cell? ⟨B.b, 1, none⟩ = some B.vt := (blk_facts hP2.own).1 1
   have g1 : y1.frozen? ⟨B.b, 1, none⟩ = false := (blk_facts hP2.own).2 1
   have z1 : B.b < y1.heap.size := blk_size hP2.own
   have hcap1 : (r.length + 1 + 1) ≤ cap1 ∧ cap1 ≤ maxLen := by obtain ⟨p, c, e, h1, h2, _⟩ := view; injection e with e1 e2 e3; subst e3; exact ⟨h1, h2⟩
   obtain ⟨hcl1, hcm1⟩ := hcap1
   clear hP2 hP1 hrow view st1 st2 st3
   go_wp2_with fail
   clear c0 g0 z0 c1 g1 z1
   generalize y1.setCell _ _ = Y at hP3 st4 ⊢
   refine wp_loop_rounds 1 ?_
   rw [rounds_succ]
   obtain ⟨vg, vo, vc, w5, w6, w1, w2, w3, w4, w7, w8⟩ := hP3.view rfl
   rw [show ((wh.sort : Nat) : Int) = 0 from by omega] at w2
   obtain ⟨w9, w10⟩ := w4 _ _ rfl
   clear w4
   simp only [List.length_cons] at w1 w5
   have hnsi : ¬ ((t.sort : Nat) : Int) = 2 := by omega
   go_wp2_with fail
   clear w1 w2 w3 w5 w6 w7 w8 w9 w10
   have hq := next_calls { B with vt := .slice p1 (r.length + 1 + 1) cap1 } { S with line := S.line + 1, toks := wh :: t :: r, fresh := S.fresh } wh (t :: r) rfl _ hP3 |> fun h => (by rw [show ((wh.sort : Nat) : Int) = 0 from by omega] at h; exact h)
   refine hq.mono ?_
   rintro e x1 ⟨rfl, C1, hQ1, sp1⟩
   clear hq
   have sq1 := st4.trans sp1
   have eb1 : C1.b = B.b := sq1.b
   clear hP3 st4 sp1
   go_wp2_with fail
   refine (Named_calls ⟨wh.bytes.toArray⟩ _).mono ?_
   rintro e x8 ⟨rfl, h8⟩
   rw [hnd]
   have hP8 := hQ1.kept h8
   have st8 := sq1.belowAfter h8
   have hq := hin C1 _ hP8
   rw [eb1] at hq
   go_wp2_with fail
   refine hq.mono ?_
   rintro e x10 ⟨rfl, E, hE, sE⟩
   have sF := st8.trans sE
   go_wp2_with fail
   go_end0
   exact ⟨rfl, E, hE, sF⟩
end Go.Proofs.YtabmlbnnhhpaoaaGreatDoor
set_option maxHeartbeats 8000000
set_option maxRecDepth 100000
namespace Go.Proofs.YtabmlbnnhhpaoaaGreatDoor
open Go.RowKit Go.Shelf
theorem one_NOx (s : List UInt8) (hl : s.length ≤ 1000000) (B : Asm.PB) (S : Asm.PS) (wh : Asm.Tok) (rest : List Asm.Tok) (hw : wh.sort = 0) (hrest : rest = [] ∨ ∃ t r, rest = t :: r ∧ t.sort ≠ 2) (fn : Nat) (hcf : ∀ (xs : Array Value) (w : World), (callFunc fn xs).run Tryz.prog w = .ok (.enter fn xs) w) (hwl : wh.bytes.length ≤ 1000000) (op0 : Int) (hnd : Isa.named ⟨wh.bytes.toArray⟩ = (op0, false)) (hat : (Asm.othersD Asm.otherKeys (.map [])).atKey (.string wh.bytes) (.held .nilFunc) = .held (.func (.func fn) #[] #[])) (hhas : Maps.has (Asm.othersD Asm.otherKeys (.map [])) (.string wh.bytes) = true) (S' : Asm.PS) (hin : ∀ (C : Asm.PB) (y : World), Asm.Par C { S with line := S.line + 1, toks := rest, fresh := S.fresh } y → Calls Tryz.prog fn #[.pointer (some ⟨C.b, 0, none⟩)] y fun e w' => e = .returned (.tuple #[]) ∧ ∃ B', Asm.Par B' S' w' ∧ Asm.Step C y B' w') (hts : Asm.tokens s = some (wh :: rest))
 (hb : Asm.Bnd S) (hline : S.line < 1000000) (hfl : S.fresh.length < 1000000)  (w : World) (hP : Asm.Par B S w) :
 Calls Tryz.prog 27 #[.pointer (some ⟨B.b, 0, none⟩), .string ⟨s.toArray⟩] w fun e w' => e = .returned (.tuple #[]) ∧ ∃ B', Asm.Par B' S' w' ∧ Asm.Step B w B' w' := by
 have hf1 := field1
 have hln0 := hb.line0
 have c0 : w.cell? ⟨B.b, 0, none⟩ = some (.int .i64 S.line) := (blk_facts hP.own).1 0
 have g0 : w.frozen? ⟨B.b, 0, none⟩ = false := (blk_facts hP.own).2 0
 have z0 := blk_size hP.own
 obtain ⟨hP1, st1⟩ := hP.set 0 (.int .i64 (S.line + 1)) B.vt (S.line + 1) S.toks S.origin S.placed S.count rfl hP.toks
 rcases hrest with rfl | ⟨t, r, rfl, hns⟩
 · go_enter Tryz.func27, Tryz.ntmps27
   go_wp2_with fail
   have hT := tokens_calls s hl (w.setCell ⟨B.b, 0, none⟩ (.int .i64 (S.line + 1)))
   rw [hts] at hT
   refine hT.mono ?_
   rintro e y1 ⟨v1, rfl, hrow, hb1⟩
   clear hT
   have hP2 := hP1.kept hb1
   have st2 := st1.belowAfter hb1
   obtain ⟨p1, cap1, hv1⟩ := Asm.row_slice hrow
   subst hv1
   have view : Asm.TokView y1 (.slice p1 1 cap1) ([wh]) := Asm.tokView_row hrow
   obtain ⟨hP3, st3⟩ := hP2.set 1 (.slice p1 1 cap1) (.slice p1 1 cap1) (S.line + 1) ([wh]) S.origin S.placed S.count rfl view
   have st4 := st2.trans st3
   have c1 : y1.cell? ⟨B.b, 1, none⟩ = some B.vt := (blk_facts hP2.own).1 1
   have g1 : y1.frozen? ⟨B.b, 1, none⟩ = false := (blk_facts hP2.own).2 1
   have z1 : B.b < y1.heap.size := blk_size hP2.own
   clear hP2 hP1 hrow view st1 st2 st3
   go_wp2_with fail
   clear c0 g0 z0 c1 g1 z1
   generalize y1.setCell _ _ = Y at hP3 st4 ⊢
   refine wp_loop_rounds 1 ?_
   rw [rounds_succ]
   obtain ⟨vg, vo, vc, w5, w6, w1, w2, w3, w4, w7, w8⟩ := hP3.view rfl
   rw [show ((wh.sort : Nat) : Int) = 0 from by omega] at w2
   clear w4
   go_wp2_with fail
   clear w1 w2 w3 w5 w6 w7 w8
   have hq := next_calls { B with vt := .slice p1 1 cap1 } { S with line := S.line + 1, toks := [wh], fresh := S.fresh } wh ([]) rfl _ hP3 |> fun h => (by rw [show ((wh.sort : Nat) : Int) = 0 from by omega] at h; exact h)
   refine hq.mono ?_
   rintro e x1 ⟨rfl, C1, hQ1, sp1⟩
   clear hq
   have sq1 := st4.trans sp1
   have eb1 : C1.b = B.b := sq1.b
   clear hP3 st4 sp1
   go_wp2_with fail
   refine (Named_calls ⟨wh.bytes.toArray⟩ _).mono ?_
   rintro e x8 ⟨rfl, h8⟩
   rw [hnd]
   have hP8 := hQ1.kept h8
   have st8 := sq1.belowAfter h8
   go_wp2_with fail
   refine (others_calls _).mono ?_
   rintro e x9 ⟨g9, rfl, hg9, o9, h9⟩
   obtain ⟨f9, ps9, hlk, hf9⟩ := o9.look_ok (Maps.string_keyed Tryz.underlying9) Tryz.underlying134 (z := .nilFunc) (Tryz.zeroValue132 x9) (show Asm.RV .nilFunc = _ from rfl) (Go.WideMaps.keyOf_string_mk Tryz.underlying9 (s := ⟨wh.bytes.toArray⟩) (by simp [ByteArray.size, maxLen]; omega))
   rw [show (⟨wh.bytes.toArray⟩ : ByteArray).data.toList = wh.bytes from rfl] at hlk hf9
   rw [hhas] at hlk
   rw [hat] at hf9
   have hf9' : f9 = .func (.func fn) #[] #[] := by injection (congrArg Prod.fst (Option.some.inj hf9))
   subst hf9'
   clear hf9
   have hP9 := hP8.kept h9
   have st9 := st8.belowAfter h9
   have hq := hin C1 _ hP9
   rw [eb1] at hq
   go_wp2_with fail
   refine hq.mono ?_
   rintro e x10 ⟨rfl, E, hE, sE⟩
   have sF := st9.trans sE
   go_wp2_with fail
   go_end0
   exact ⟨rfl, E, hE, sF⟩
 · go_enter Tryz.func27, Tryz.ntmps27
   go_wp2_with fail
   have hT := tokens_calls s hl (w.setCell ⟨B.b, 0, none⟩ (.int .i64 (S.line + 1)))
   rw [hts] at hT
   refine hT.mono ?_
   rintro e y1 ⟨v1, rfl, hrow, hb1⟩
   clear hT
   have hP2 := hP1.kept hb1
   have st2 := st1.belowAfter hb1
   obtain ⟨p1, cap1, hv1⟩ := Asm.row_slice hrow
   subst hv1
   have view : Asm.TokView y1 (.slice p1 (r.length + 1 + 1) cap1) (wh :: t :: r) := Asm.tokView_row hrow
   obtain ⟨hP3, st3⟩ := hP2.set 1 (.slice p1 (r.length + 1 + 1) cap1) (.slice p1 (r.length + 1 + 1) cap1) (S.line + 1) (wh :: t :: r) S.origin S.placed S.count rfl view
   have st4 := st2.trans st3
   have c1 : y1.cell? ⟨B.b, 1, none⟩ = some B.vt := (blk_facts hP2.own).1 1
   have g1 : y1.frozen? ⟨B.b, 1, none⟩ = false := (blk_facts hP2.own).2 1
   have z1 : B.b < y1.heap.size := blk_size hP2.own
   have hcap1 : (r.length + 1 + 1) ≤ cap1 ∧ cap1 ≤ maxLen := by obtain ⟨p, c, e, h1, h2, _⟩ := view; injection e with e1 e2 e3; subst e3; exact ⟨h1, h2⟩
   obtain ⟨hcl1, hcm1⟩ := hcap1
   clear hP2 hP1 hrow view st1 st2 st3
   go_wp2_with fail
   clear c0 g0 z0 c1 g1 z1
   generalize y1.setCell _ _ = Y at hP3 st4 ⊢
   refine wp_loop_rounds 1 ?_
   rw [rounds_succ]
   obtain ⟨vg, vo, vc, w5, w6, w1, w2, w3, w4, w7, w8⟩ := hP3.view rfl
   rw [show ((wh.sort : Nat) : Int) = 0 from by omega] at w2
   obtain ⟨w9, w10⟩ := w4 _ _ rfl
   clear w4
   simp only [List.length_cons] at w1 w5
   have hnsi : ¬ ((t.sort : Nat) : Int) = 2 := by omega
   go_wp2_with fail
   clear w1 w2 w3 w5 w6 w7 w8 w9 w10
   have hq := next_calls { B with vt := .slice p1 (r.length + 1 + 1) cap1 } { S with line := S.line + 1, toks := wh :: t :: r, fresh := S.fresh } wh (t :: r) rfl _ hP3 |> fun h => (by rw [show ((wh.sort : Nat) : Int) = 0 from by omega] at h; exact h)
   refine hq.mono ?_
   rintro e x1 ⟨rfl, C1, hQ1, sp1⟩
   clear hq
   have sq1 := st4.trans sp1
   have eb1 : C1.b = B.b := sq1.b
   clear hP3 st4 sp1
   go_wp2_with fail
   refine (Named_calls ⟨wh.bytes.toArray⟩ _).mono ?_
   rintro e x8 ⟨rfl, h8⟩
   rw [hnd]
   have hP8 := hQ1.kept h8
   have st8 := sq1.belowAfter h8
   go_wp2_with fail
   refine (others_calls _).mono ?_
   rintro e x9 ⟨g9, rfl, hg9, o9, h9⟩
   obtain ⟨f9, ps9, hlk, hf9⟩ := o9.look_ok (Maps.string_keyed Tryz.underlying9) Tryz.underlying134 (z := .nilFunc) (Tryz.zeroValue132 x9) (show Asm.RV .nilFunc = _ from rfl) (Go.WideMaps.keyOf_string_mk Tryz.underlying9 (s := ⟨wh.bytes.toArray⟩) (by simp [ByteArray.size, maxLen]; omega))
   rw [show (⟨wh.bytes.toArray⟩ : ByteArray).data.toList = wh.bytes from rfl] at hlk hf9
   rw [hhas] at hlk
   rw [hat] at hf9
   have hf9' : f9 = .func (.func fn) #[] #[] := by injection (congrArg Prod.fst (Option.some.inj hf9))
   subst hf9'
   clear hf9
   have hP9 := hP8.kept h9
   have st9 := st8.belowAfter h9
   have hq := hin C1 _ hP9
   rw [eb1] at hq
   go_wp2_with fail
   refine hq.mono ?_
   rintro e x10 ⟨rfl, E, hE, sE⟩
   have sF := st9.trans sE
   go_wp2_with fail
   go_end0
   exact ⟨rfl, E, hE, sF⟩
end Go.Proofs.YtabmlbnnhhpaoaaGreatDoor
namespace Go.Proofs.YtabmlbnnhhpaoaaGreatDoor
open Go.RowKit Go.Shelf
namespace Asm
theorem reg_is : ∀ n : Fin 16, regOf (114 :: Lib.itoa (n.1 : Int)) = some n.1 := by decide +kernel
theorem tR_is (d : Nat) (h : d ≤ 15) : IsReg (tR (d : Int)) d := ⟨rfl, reg_is ⟨d, by omega⟩⟩
theorem tS_is (c : UInt8) : IsSign (tS c) c := ⟨rfl, rfl⟩
theorem tN_is (m : Int) : TokVal (tN m) ⟨[], m⟩ := .inl ⟨rfl, rfl⟩
theorem named_is : ∀ n : Fin 49, 1 ≤ n.1 → Isa.named (Isa.nameOf n.1) = ((n.1 : Int), true) := by decide +kernel
theorem mem_ops : ∀ n : Fin 49, (Isa.shapeOf n.1 = 1 → 24 ≤ n.1 ∧ n.1 ≤ 31) ∧ (Isa.shapeOf n.1 = 0 → n.1 < 24 ∨ 31 < n.1) := by decide +kernel
theorem mem_op (n : Nat) (h : n < 49) (hs : Isa.shapeOf n = 1) : 24 ≤ n ∧ n ≤ 31 := (mem_ops ⟨n, h⟩).1 hs
theorem not_mem_op (n : Nat) (h : n < 49) (hs : Isa.shapeOf n = 0) : n < 24 ∨ 31 < n := (mem_ops ⟨n, h⟩).2 hs
theorem enc_zero {n : Nat} {d a b m x : Int} (h1 : 1 ≤ n) (h2 : n < 49) (hd : 0 ≤ d) (ha : 0 ≤ a) (hb : 0 ≤ b) (h : Isa.enc (n : Int) d a b m = (x, 0)) :
 (Isa.atD (Isa.formOf n) < 0 → d = 0) ∧ (Isa.atA (Isa.formOf n) < 0 → a = 0) ∧ (Isa.atB (Isa.formOf n) < 0 → b = 0) ∧ (Isa.numOf n = 0 → m = 0) := by
 unfold Isa.enc at h
 rw [if_neg (by omega)] at h
 rw [Int.toNat_natCast] at h
 unfold Isa.encF at h
 split at h
 · exact absurd (congrArg Prod.snd h) (by simp)
 · rename_i hbad
   split at h
   · rename_i hfit
     simp only [Bool.or_eq_true, not_or, Isa.badAt, Bool.and_eq_true, decide_eq_true_eq, not_and, Int.not_lt, Int.not_le] at hbad
     obtain ⟨⟨⟨_, b1⟩, ⟨_, b2⟩⟩, ⟨_, b3⟩⟩ := hbad
     refine ⟨fun e => by have := b1 e; omega, fun e => by have := b2 e; omega, fun e => by have := b3 e; omega, fun e => ?_⟩
     rw [e] at hfit
     unfold Isa.fits at hfit
     simpa using hfit
   · exact absurd (congrArg Prod.snd h) (by simp)
end Asm
theorem instr_toks (n : Nat) (d a b m x : Int) (h1 : 1 ≤ n) (h2 : n < 49) (hd : 0 ≤ d ∧ d ≤ 15) (ha : 0 ≤ a ∧ a ≤ 15) (hbb : 0 ≤ b ∧ b ≤ 15) (he : Isa.enc (n : Int) d a b m = (x, 0))
 (B : Asm.PB) (S : Asm.PS) (hS : S.toks = Asm.tailToks (Isa.formOf n) (Isa.numOf n) (Isa.shapeOf n) d a b m) (hb : Asm.Bnd S) (hm : Asm.markOk S = true) (hc : S.count < 4096) (hp : S.pos + 4 ≤ 4294967296) (w : World) (hP : Asm.Par B S w) :
 Calls Tryz.prog 57 #[.pointer (some ⟨B.b, 0, none⟩), .int .i64 (n : Int)] w fun e w' => e = .returned (.tuple #[]) ∧
  ∃ B', Asm.Par B' (Asm.pushed { S with toks := [] } ⟨(n : Int), d, a, b, 0⟩ ⟨[], m⟩) w' ∧ Asm.Step B w B' w' := by
 obtain ⟨z1, z2, z3, z4⟩ := Asm.enc_zero h1 h2 hd.1 ha.1 hbb.1 he
 obtain ⟨d, rfl⟩ := Int.eq_ofNat_of_zero_le hd.1
 obtain ⟨a, rfl⟩ := Int.eq_ofNat_of_zero_le ha.1
 obtain ⟨b, rfl⟩ := Int.eq_ofNat_of_zero_le hbb.1
 have rd := Asm.tR_is d (by omega)
 have ra := Asm.tR_is a (by omega)
 have rb := Asm.tR_is b (by omega)
 rcases Asm.shapes_in ⟨n, h2⟩ h1 with ⟨hf, hs, hn⟩ | ⟨hf, hs, hn⟩ | ⟨hf, hs, hn⟩ | ⟨hf, hs, hn⟩ | ⟨hf, hs, hn⟩ | ⟨hf, hs, hn⟩ | ⟨hf, hs, hn⟩ | ⟨hf, hs, hn⟩ | ⟨hf, hs, hn⟩ | ⟨hf, hs, hn⟩
 all_goals simp only at hf hs hn
 all_goals rw [hf, hs] at hS
 all_goals rw [hf] at z1 z2 z3
 · obtain rfl := z4 hn
   exact instr_form1 n h1 h2 hf (Asm.not_mem_op n h2 hs) B S _ _ _ _ _ d a b hS rd (Asm.tS_is 44) ra (Asm.tS_is 44) rb hb hm hc hp w hP
 · obtain rfl : b = 0 := by have := z3 (by decide); omega
   exact instr_form2 n h1 h2 hf (Asm.not_mem_op n h2 hs) B S _ _ _ _ _ d a ⟨[], m⟩ hS rd (Asm.tS_is 44) ra (Asm.tS_is 44) (Asm.tN_is m) hb hm hc hp w hP
 · obtain rfl : b = 0 := by have := z3 (by decide); omega
   exact instr_form9 n (Asm.mem_op n h2 hs).1 (Asm.mem_op n h2 hs).2 hf B S _ _ _ _ _ _ d a ⟨[], m⟩ hS rd (Asm.tS_is 44) (Asm.tN_is m) (Asm.tS_is 40) ra (Asm.tS_is 41) hb hm hc hp w hP
 · obtain rfl : d = 0 := by have := z1 (by decide); omega
   exact instr_form3 n h1 h2 hf (Asm.not_mem_op n h2 hs) B S _ _ _ _ _ a b ⟨[], m⟩ hS ra (Asm.tS_is 44) rb (Asm.tS_is 44) (Asm.tN_is m) hb hm hc hp w hP
 · obtain rfl : d = 0 := by have := z1 (by decide); omega
   exact instr_form10 n (Asm.mem_op n h2 hs).1 (Asm.mem_op n h2 hs).2 hf B S _ _ _ _ _ _ b a ⟨[], m⟩ hS rb (Asm.tS_is 44) (Asm.tN_is m) (Asm.tS_is 40) ra (Asm.tS_is 41) hb hm hc hp w hP
 · obtain rfl : a = 0 := by have := z2 (by decide); omega
   obtain rfl : b = 0 := by have := z3 (by decide); omega
   exact instr_form4 n h1 h2 hf (Asm.not_mem_op n h2 hs) B S _ _ _ d ⟨[], m⟩ hS rd (Asm.tS_is 44) (Asm.tN_is m) hb hm hc hp w hP
 · obtain rfl := z4 hn
   obtain rfl : a = 0 := by have := z2 (by decide); omega
   obtain rfl : b = 0 := by have := z3 (by decide); omega
   exact instr_form5 n h1 h2 hf (Asm.not_mem_op n h2 hs) B S _ d hS rd hb hm hc hp w hP
 · obtain rfl := z4 hn
   obtain rfl : d = 0 := by have := z1 (by decide); omega
   obtain rfl : b = 0 := by have := z3 (by decide); omega
   exact instr_form6 n h1 h2 hf (Asm.not_mem_op n h2 hs) B S _ a hS ra hb hm hc hp w hP
 · obtain rfl : d = 0 := by have := z1 (by decide); omega
   obtain rfl : a = 0 := by have := z2 (by decide); omega
   obtain rfl : b = 0 := by have := z3 (by decide); omega
   exact instr_form7 n h1 h2 hf (Asm.not_mem_op n h2 hs) B S _ ⟨[], m⟩ hS (Asm.tN_is m) hb hm hc hp w hP
 · obtain rfl := z4 hn
   obtain rfl : d = 0 := by have := z1 (by decide); omega
   obtain rfl : a = 0 := by have := z2 (by decide); omega
   obtain rfl : b = 0 := by have := z3 (by decide); omega
   exact instr_form8 n h1 h2 hf (Asm.not_mem_op n h2 hs) B S hS hb hm hc hp w hP
end Go.Proofs.YtabmlbnnhhpaoaaGreatDoor
namespace Go.Proofs.YtabmlbnnhhpaoaaGreatDoor
open Go.RowKit Go.Shelf
namespace Asm
def wordPiece (x : Nat) (line pos : Int) : Piece :=
 if (Isa.dec (x : Int)).2.2.2.2.2 = 0 then ⟨line, pos, ⟨(Isa.dec (x : Int)).1, (Isa.dec (x : Int)).2.1, (Isa.dec (x : Int)).2.2.1, (Isa.dec (x : Int)).2.2.2.1, 0⟩, ⟨[], (Isa.dec (x : Int)).2.2.2.2.1⟩, .enc⟩
 else ⟨line, pos, ⟨0, 0, 0, 0, 0⟩, ⟨[], 0⟩, .word [⟨[], (x : Int)⟩]⟩
theorem wordPiece_ok (x : Nat) (hx : x < 4294967296) (line pos : Int) (h0 : 0 ≤ pos) (h1 : pos ≤ 4294967296) (S : PS) : PieceOk S (wordPiece x line pos) ∧ wordsOf S (wordPiece x line pos) = [(x : Int)] := by
 unfold wordPiece
 by_cases h : (Isa.dec (x : Int)).2.2.2.2.2 = 0
 · obtain ⟨n, d, a, b, m, hd, hn1, hn2, gd, ga, gb, gm, he, _⟩ := line_ins x 0 hx h
   rw [if_pos h, hd]
   have hv : valOf S ⟨[], m⟩ = m := by simp [valOf]
   have hnum : numAt S pos ⟨(n : Int), d, a, b, 0⟩ ⟨[], m⟩ = m := by simp [numAt, valOf]
   refine ⟨?_, ?_⟩
   · show EncOk S _
     refine ⟨⟨⟨gd.1, by show d ≤ 255; omega⟩, ⟨ga.1, by show a ≤ 255; omega⟩, ⟨gb.1, by show b ≤ 255; omega⟩⟩, by simp, by simp [valOk], h0, h1, ?_, ?_, ?_, ?_, ?_⟩
     · show _ ≤ valOf S ⟨[], m⟩; rw [hv]; omega
     · show valOf S ⟨[], m⟩ ≤ _; rw [hv]; omega
     · show _ ≤ numAt S pos ⟨(n : Int), d, a, b, 0⟩ ⟨[], m⟩; rw [hnum]; omega
     · show numAt S pos ⟨(n : Int), d, a, b, 0⟩ ⟨[], m⟩ ≤ _; rw [hnum]; omega
     · show (Isa.enc (n : Int) d a b (numAt S pos ⟨(n : Int), d, a, b, 0⟩ ⟨[], m⟩)).2 = 0; rw [hnum, he]
   · show [wordAt S pos ⟨(n : Int), d, a, b, 0⟩ ⟨[], m⟩] = _
     unfold wordAt
     rw [hnum, he]
 · rw [if_neg h]
   refine ⟨⟨by simp, by simp, fun v hv => ?_⟩, ?_⟩
   · simp at hv
     subst hv
     exact ⟨by simp, by simp [valOk], by simp [valOf] <;> omega, by simp [valOf] <;> omega⟩
   · show [valOf S ⟨[], (x : Int)⟩ % 4294967296] = _
     simp [valOf] <;> omega
theorem tail_first (n : Nat) (h1 : 1 ≤ n) (h2 : n < 49) (d a b m : Int) : tailToks (Isa.formOf n) (Isa.numOf n) (Isa.shapeOf n) d a b m = [] ∨ ∃ t r, tailToks (Isa.formOf n) (Isa.numOf n) (Isa.shapeOf n) d a b m = t :: r ∧ t.sort ≠ 2 := by
 have hR : ∀ n, (tR n).sort ≠ 2 := fun _ => by simp [tR]
 have hN : ∀ n, (tN n).sort ≠ 2 := fun _ => by simp [tN]
 rcases shapes_in ⟨n, h2⟩ h1 with ⟨hf, hs, hn⟩ | ⟨hf, hs, hn⟩ | ⟨hf, hs, hn⟩ | ⟨hf, hs, hn⟩ | ⟨hf, hs, hn⟩ | ⟨hf, hs, hn⟩ | ⟨hf, hs, hn⟩ | ⟨hf, hs, hn⟩ | ⟨hf, hs, hn⟩ | ⟨hf, hs, hn⟩
 all_goals simp only at hf hs
 all_goals rw [hf, hs]
 all_goals first | exact .inr ⟨_, _, rfl, hR _⟩ | exact .inr ⟨_, _, rfl, hN _⟩ | exact .inl rfl
theorem enters_word (xs : Array Value) (w : World) : (callFunc 112 xs).run Tryz.prog w = .ok (.enter 112 xs) w := by kernel_rfl
theorem line_one (x at_ : Nat) (hx : x < 4294967296) (l : List UInt8) (hl : l.length ≤ 1000000) (htk : tokens l = tokens (lineText x at_).data.toList) (S : PS) (hb : Bnd S) (hline : S.line < 1000000) (hfr : S.fresh = []) (hc : S.count < 4096) (hp : S.pos + 4 ≤ 4294967296) :
 OneOk S l (pushedX { S with line := S.line + 1, toks := [] } (wordPiece x (S.line + 1) S.pos) 1) := by
 intro B w hP
 have hfl : S.fresh.length < 1000000 := by rw [hfr]; decide
 have hb1 : ∀ ts, Bnd { S with line := S.line + 1, toks := ts } := fun ts => ⟨hb.o0, hb.o1, hb.c, hb.puts, hb.labels, hb.pieces, by show 0 ≤ S.line + 1; have := hb.line0; omega, by show S.line + 1 ≤ 1000000; omega⟩
 have hm1 : ∀ ts, markOk { S with line := S.line + 1, toks := ts } = true := fun ts => by unfold markOk; rw [show ({ S with line := S.line + 1, toks := ts } : PS).fresh = [] from hfr]
 by_cases h : (Isa.dec (x : Int)).2.2.2.2.2 = 0
 · obtain ⟨n, d, a, b, m, hd, hn1, hn2, gd, ga, gb, gm, he, hts⟩ := line_ins x at_ hx h
   have hpc : wordPiece x (S.line + 1) S.pos = ⟨S.line + 1, S.pos, ⟨(n : Int), d, a, b, 0⟩, ⟨[], m⟩, .enc⟩ := by unfold wordPiece; rw [if_pos h, hd]
   rw [hpc]
   refine one_NIx l hl B S ⟨0, (Isa.nameOf n).data.toList, 0⟩ _ rfl (tail_first n hn1 hn2 d a b m) (n : Int) (named_is ⟨n, hn2⟩ hn1) _ (fun C y hy => ?_) (htk.trans hts) hb hline hfl w hP
   exact instr_toks n d a b m x hn1 hn2 gd ga gb he C _ rfl (hb1 _) (hm1 _) hc hp y hy
 · have hts := line_word x at_ hx h
   have hpc : wordPiece x (S.line + 1) S.pos = ⟨S.line + 1, S.pos, ⟨0, 0, 0, 0, 0⟩, ⟨[], 0⟩, .word [⟨[], (x : Int)⟩]⟩ := by unfold wordPiece; rw [if_neg h]
   rw [hpc]
   refine one_NOx l hl B S ⟨0, [46, 119, 111, 114, 100], 0⟩ _ rfl (.inr ⟨_, _, rfl, by simp⟩) 112 enters_word (by decide) 0 (by decide +kernel) rfl (by decide +kernel) _ (fun C y hy => ?_) (htk.trans hts) hb hline hfl w hP
   exact word_one C { S with line := S.line + 1, toks := [⟨1, Hex.eight x, (x : Int)⟩] } _ ⟨[], (x : Int)⟩ rfl (.inl ⟨rfl, rfl⟩) (hb1 _) (hm1 _) hc hp y hy
end Asm
end Go.Proofs.YtabmlbnnhhpaoaaGreatDoor
set_option maxHeartbeats 8000000
set_option maxRecDepth 100000
namespace Go.Proofs.YtabmlbnnhhpaoaaGreatDoor
open Go.RowKit Go.Shelf
theorem one_LBx (s : List UInt8) (hl : s.length ≤ 1000000) (B : Asm.PB) (S : Asm.PS) (tl tc : Asm.Tok) (hl0 : tl.sort = 0) (hl1 : tl.bytes.length ≤ 1000000) (hl2 : Asm.nameOk tl.bytes = true) (hl3 : Asm.IsSign tc 58) (hts : Asm.tokens s = some (tl :: tc :: []))
 (hb : Asm.Bnd S) (hline : S.line < 1000000) (hfl : S.fresh.length < 1000000) (hm : Asm.markOk { S with line := S.line + 1, toks := [], fresh := S.fresh ++ [tl.bytes] } = true) (w : World) (hP : Asm.Par B S w) :
 Calls Tryz.prog 27 #[.pointer (some ⟨B.b, 0, none⟩), .string ⟨s.toArray⟩] w fun e w' => e = .returned (.tuple #[]) ∧ ∃ B', Asm.Par B' (Asm.marked { S with line := S.line + 1, toks := [], fresh := S.fresh ++ [tl.bytes] }) w' ∧ Asm.Step B w B' w' := by
 have hf1 := field1
 have hln0 := hb.line0
 have c0 : w.cell? ⟨B.b, 0, none⟩ = some (.int .i64 S.line) := (blk_facts hP.own).1 0
 have g0 : w.frozen? ⟨B.b, 0, none⟩ = false := (blk_facts hP.own).2 0
 have z0 := blk_size hP.own
 obtain ⟨hP1, st1⟩ := hP.set 0 (.int .i64 (S.line + 1)) B.vt (S.line + 1) S.toks S.origin S.placed S.count rfl hP.toks
 go_enter Tryz.func27, Tryz.ntmps27
 go_wp2_with fail
 have hT := tokens_calls s hl (w.setCell ⟨B.b, 0, none⟩ (.int .i64 (S.line + 1)))
 rw [hts] at hT
 refine hT.mono ?_
 rintro e y1 ⟨v1, rfl, hrow, hb1⟩
 clear hT
 have hP2 := hP1.kept hb1
 have st2 := st1.belowAfter hb1
 obtain ⟨p1, cap1, hv1⟩ := Asm.row_slice hrow
 subst hv1
 have view : Asm.TokView y1 (.slice p1 2 cap1) ([tl, tc]) := Asm.tokView_row hrow
 obtain ⟨hP3, st3⟩ := hP2.set 1 (.slice p1 2 cap1) (.slice p1 2 cap1) (S.line + 1) ([tl, tc]) S.origin S.placed S.count rfl view
 have st4 := st2.trans st3
 have c1 : y1.cell? ⟨B.b, 1, none⟩ = some B.vt := (blk_facts hP2.own).1 1
 have g1 : y1.frozen? ⟨B.b, 1, none⟩ = false := (blk_facts hP2.own).2 1
 have z1 : B.b < y1.heap.size := blk_size hP2.own
 clear hP2 hP1 hrow view st1 st2 st3
 go_wp2_with fail
 clear c0 g0 z0 c1 g1 z1
 generalize y1.setCell _ _ = Y at hP3 st4 ⊢
 refine wp_loop_rounds 2 ?_
 rw [rounds_succ]
 obtain ⟨vg, vo, vc, w5, w6, w1, w2, w3, w4, w7, w8⟩ := hP3.view rfl
 rw [show ((tl.sort : Nat) : Int) = 0 from by omega] at w2
 obtain ⟨w9, w10⟩ := w4 _ _ rfl
 rw [show ((tc.sort : Nat) : Int) = 2 from by have := hl3.sort; omega] at w9
 rw [hl3.bytes] at w10
 clear w4
 go_wp2_with fail
 clear w1 w2 w3 w5 w6 w7 w8 w9 w10
 have hq := next_calls { B with vt := .slice p1 2 cap1 } { S with line := S.line + 1, toks := [tl, tc], fresh := S.fresh } tl ([tc]) rfl _ hP3 |> fun h => (by rw [show ((tl.sort : Nat) : Int) = 0 from by omega] at h; exact h)
 refine hq.mono ?_
 rintro e x1 ⟨rfl, C1, hQ1, sp1⟩
 clear hq
 have sq1 := st4.trans sp1
 have eb1 : C1.b = B.b := sq1.b
 clear hP3 st4 sp1
 go_wp2_with fail
 refine (asmName_calls tl.bytes (by omega) _).mono ?_
 rintro e x9 ⟨rfl, h9⟩
 rw [h9, hl2]
 clear h9
 go_wp2_with fail
 have hq := comma_calls C1 { S with line := S.line + 1, toks := [tc], fresh := S.fresh } tc ([]) 58 rfl hl3 _ hQ1
 rw [eb1] at hq
 refine hq.mono ?_
 rintro e x2 ⟨rfl, C2, hQ2, sp2⟩
 clear hq
 have sq2 := sq1.trans sp2
 have eb2 : C2.b = B.b := sq2.b
 clear hQ1 sq1 sp2
 obtain ⟨i0, hinf, hz0, hz1, hz2⟩ := info_parts asm_info9
 have hcn := cell_one_new x2 (.string ⟨tl.bytes.toArray⟩) 9
 have hW := hQ2.kept (below_alloc' (Below.refl x2.heap.size x2) (.cells #[.string ⟨tl.bytes.toArray⟩] 9))
 have c8 : x2.cell? ⟨B.b, 8, none⟩ = some C2.vf := by have h := (blk_facts hQ2.own).1 8; rw [eb2] at h; exact h
 have z8 : B.b < x2.heap.size := by have h := blk_size hQ2.own; rw [eb2] at h; exact h
 have hn8 : C2.n0 ≤ B.b := by have h := hQ2.b0; rw [eb2] at h; exact h
 go_wp2_with (at_builtin; refine wpList_append_own_at _ rfl _ _ 52 rfl C2.n0 9 i0 _ 1 16 Tryz.underlying52 hinf hz0 hz1 hz2 rfl (by decide) _ _ _ rfl hW.fresh ⟨x2.heap.size, 0, none⟩ 1 1 [.string ⟨tl.bytes.toArray⟩] rfl rfl hcn (by simp [Value.oneCell']) (by show S.fresh.length + 1 ≤ maxLen; unfold maxLen; omega) (by show (S.fresh.length + 1) * 16 ≤ _; omega) (by rw [alloc_size]; omega) ?_; intro v6 w6 hrow6 hgr6 hnil6 hblk6; have k6 := (hgr6.block C2.b (blk_size hW.own) (Asm.rowNot hW.fresh hW.own (by decide))).trans hW.own; have c6z : w6.cell? ⟨B.b, 8, none⟩ = some C2.vf := eb2 ▸ (blk_facts k6).1 8; have f6z : w6.frozen? ⟨B.b, 8, none⟩ = false := eb2 ▸ (blk_facts k6).2 8; obtain ⟨p6, cap6, hv6⟩ := Asm.row_slice hrow6; subst hv6)
 obtain ⟨hP6, ho6⟩ := hW.vfPush tl.bytes _ hrow6 hgr6 hblk6
 have st6 := (sq2.belowAfter (below_alloc' (Below.refl x2.heap.size x2) (.cells #[.string ⟨tl.bytes.toArray⟩] 9))).trans (Asm.Par.vfStep ho6 hblk6)
 rw [eb2] at hP6 st6
 clear hQ2 sq2 hW hrow6 hgr6 hnil6 hblk6 k6 c6z f6z c8 z8 hn8 ho6
 generalize w6.setCell _ _ = Y6 at hP6 st6 ⊢
 obtain ⟨D, hD⟩ : ∃ D, ({ C2 with b := B.b, vf := .slice p6 (({ S with line := S.line + 1, toks := [], fresh := S.fresh } : Asm.PS).fresh.length + 1) cap6 } : Asm.PB) = D := ⟨_, rfl⟩
 have hP7 : Asm.Par D { S with line := S.line + 1, toks := [], fresh := S.fresh ++ [tl.bytes] } Y6 := hD ▸ hP6
 have st7 : Asm.Step B w D Y6 := hD ▸ st6
 have ebD : D.b = B.b := by rw [← hD]
 clear hP6 st6 hD
 rw [rounds_succ]
 obtain ⟨vp, vc, w1, w2⟩ := hP7.viewNil rfl
 rw [ebD] at w1 w2
 go_wp2_with fail
 clear w1 w2
 have hq := mark_calls D { S with line := S.line + 1, toks := [], fresh := S.fresh ++ [tl.bytes] } ⟨hb.o0, hb.o1, hb.c, hb.puts, hb.labels, hb.pieces, by show 0 ≤ S.line + 1; omega, by show S.line + 1 ≤ 1000000; omega⟩ hm _ hP7
 rw [ebD] at hq
 refine hq.mono ?_
 rintro e x3 ⟨rfl, C3, hQ3, sp3⟩
 clear hq
 have sq3 := st7.trans sp3
 have eb3 : C3.b = B.b := sq3.b
 clear hP7 st7 sp3
 go_wp2_with fail
 refine bodyPost_ret (v := .tuple #[]) (by simp [results, Tryz.results27, go_sem]) rfl ⟨rfl, _, hQ3, sq3⟩
end Go.Proofs.YtabmlbnnhhpaoaaGreatDoor
set_option maxHeartbeats 8000000
set_option maxRecDepth 100000
namespace Go.Proofs.YtabmlbnnhhpaoaaGreatDoor
open Go.RowKit Go.Shelf
theorem one_NBx (s : List UInt8) (hl : s.length ≤ 1000000) (B : Asm.PB) (S : Asm.PS)  (hts : Asm.tokens s = some ([]))
 (hb : Asm.Bnd S) (hline : S.line < 1000000) (hfl : S.fresh.length < 1000000) (hm : Asm.markOk { S with line := S.line + 1, toks := [], fresh := S.fresh } = true) (w : World) (hP : Asm.Par B S w) :
 Calls Tryz.prog 27 #[.pointer (some ⟨B.b, 0, none⟩), .string ⟨s.toArray⟩] w fun e w' => e = .returned (.tuple #[]) ∧ ∃ B', Asm.Par B' (Asm.marked { S with line := S.line + 1, toks := [], fresh := S.fresh }) w' ∧ Asm.Step B w B' w' := by
 have hf1 := field1
 have hln0 := hb.line0
 have c0 : w.cell? ⟨B.b, 0, none⟩ = some (.int .i64 S.line) := (blk_facts hP.own).1 0
 have g0 : w.frozen? ⟨B.b, 0, none⟩ = false := (blk_facts hP.own).2 0
 have z0 := blk_size hP.own
 obtain ⟨hP1, st1⟩ := hP.set 0 (.int .i64 (S.line + 1)) B.vt (S.line + 1) S.toks S.origin S.placed S.count rfl hP.toks
 go_enter Tryz.func27, Tryz.ntmps27
 go_wp2_with fail
 have hT := tokens_calls s hl (w.setCell ⟨B.b, 0, none⟩ (.int .i64 (S.line + 1)))
 rw [hts] at hT
 refine hT.mono ?_
 rintro e y1 ⟨v1, rfl, hrow, hb1⟩
 clear hT
 have hP2 := hP1.kept hb1
 have st2 := st1.belowAfter hb1
 obtain ⟨p1, cap1, hv1⟩ := Asm.row_slice hrow
 subst hv1
 have view : Asm.TokView y1 (.slice p1 0 cap1) ([]) := Asm.tokView_row hrow
 obtain ⟨hP3, st3⟩ := hP2.set 1 (.slice p1 0 cap1) (.slice p1 0 cap1) (S.line + 1) ([]) S.origin S.placed S.count rfl view
 have st4 := st2.trans st3
 have c1 : y1.cell? ⟨B.b, 1, none⟩ = some B.vt := (blk_facts hP2.own).1 1
 have g1 : y1.frozen? ⟨B.b, 1, none⟩ = false := (blk_facts hP2.own).2 1
 have z1 : B.b < y1.heap.size := blk_size hP2.own
 clear hP2 hP1 hrow view st1 st2 st3
 go_wp2_with fail
 clear c0 g0 z0 c1 g1 z1
 generalize y1.setCell _ _ = Y at hP3 st4 ⊢
 refine wp_loop_rounds 1 ?_
 rw [rounds_succ]
 obtain ⟨vp, vc, w1, w2⟩ := hP3.viewNil rfl
 go_wp2_with fail
 clear w1 w2
 have hq := mark_calls { B with vt := .slice p1 0 cap1 } { S with line := S.line + 1, toks := [], fresh := S.fresh } ⟨hb.o0, hb.o1, hb.c, hb.puts, hb.labels, hb.pieces, by show 0 ≤ S.line + 1; omega, by show S.line + 1 ≤ 1000000; omega⟩ hm _ hP3
 refine hq.mono ?_
 rintro e x1 ⟨rfl, C1, hQ1, sp1⟩
 clear hq
 have sq1 := st4.trans sp1
 have eb1 : C1.b = B.b := sq1.b
 clear hP3 st4 sp1
 go_wp2_with fail
 refine bodyPost_ret (v := .tuple #[]) (by simp [results, Tryz.results27, go_sem]) rfl ⟨rfl, _, hQ1, sq1⟩
end Go.Proofs.YtabmlbnnhhpaoaaGreatDoor
