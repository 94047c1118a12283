/- What this claim needs of Asm11f2, Asm11f3, Asm11f8, Asm11f1, Asm11f4, Asm11f5, Asm11f6, Asm11f7, Asm11f9, Asm11f10. -/
import Derived.Test.YtabmlbnnhhpaoaaGreatDoorEAsmBoxes
set_option linter.unusedSimpArgs false
set_option linter.unusedVariables false
set_option maxHeartbeats 8000000
set_option maxRecDepth 100000
namespace Go.Proofs.YtabmlbnnhhpaoaaGreatDoor
open Go.RowKit Go.Shelf
theorem instr_form2 (op : Nat) (h1 : 1 ≤ op) (h2 : op < 49) (hfo : Isa.formOf op = 2) (hnm : op < 24 ∨ 31 < op) (B : Asm.PB) (S : Asm.PS) (t0 c1 t1 cv tv : Asm.Tok) (d a : Nat) (v : Asm.Val) (hS : S.toks = [t0, c1, t1, cv, tv]) (ht0 : Asm.IsReg t0 d) (hc1 : Asm.IsSign c1 44) (ht1 : Asm.IsReg t1 a) (hcv : Asm.IsSign cv 44) (htv : Asm.TokVal tv v)
 (hb : Asm.Bnd S) (hm : Asm.markOk S = true) (hc : S.count < 4096) (hp : S.pos + 4 ≤ 4294967296) (w : World) (hP : Asm.Par B S w) :
 Calls Tryz.prog 57 #[.pointer (some ⟨B.b, 0, none⟩), .int .i64 (op : Int)] w fun e w' => e = .returned (.tuple #[]) ∧
  ∃ B', Asm.Par B' (Asm.pushed { S with toks := [] } ⟨(op : Int), (d : Int), (a : Int), 0, 0⟩ v) w' ∧ Asm.Step B w B' w' := by
 have hmm := @run_makeMap Tryz.prog
 have hix : Isa.ix (op : Int) = op := by unfold Isa.ix; rw [if_pos (by omega)]; rfl
 have hfc := Form_calls (op : Int)
 rw [hix, hfo] at hfc
 have hlt := hP.ltAll
 have zb := hlt B.b (.inl rfl)
 have hn0b := hP.b0
 -- the boxes of the instruction and of the value, the map
 obtain ⟨W, W1, W2, W3, W4, W5, W6, hW, hWs, ⟨e1, e2, e3, e4, e5, e6, o6, off6, a1, a2, a3, a4, a5, a6, s1, s2, s3, s4, s5⟩, hb6, Kib6, Kvb6⟩ := instr_boxes op w
 rw [hWs] at e1
 rcases hnm with hnm | hnm
 all_goals go_enter Tryz.func57, Tryz.ntmps57
 all_goals (
  go_wp2_with fail
  refine (hfc _).mono ?_
  rintro e w7 ⟨rfl, hb7⟩
  have hlk := fields_look o6 hb7 2 (by decide) (.slice (some ⟨(W1.heap.size), 0, none⟩) 2 2) rfl
  go_wp2_with fail
  have K4 := heap_alloc_new w7 (.cells #[.int .i64 2, .int .i64 3, .int .i64 4, .int .i64 7] 147)
  have hb74 := below_next hb7 (below_alloc' (Below.refl w7.heap.size w7) (.cells #[.int .i64 2, .int .i64 3, .int .i64 4, .int .i64 7] 147))
  refine (hfc _).mono ?_
  rintro e w8 ⟨rfl, hb8⟩
  have K48 := blk_keep hb8 K4
  have hb68 := below_next hb74 hb8
  have hbw8 : Below w.heap.size w w8 := hb6.trans (hb68.mono hb6.size)
  have Kib := blk_keep hb68 Kib6
  have Kvb := blk_keep hb68 Kvb6
  have Ksl := blk_keep hb68 a2
  have hP8 := hP.kept hbw8
  have st := Asm.Step.belowAfter (Asm.Step.refl B w) hbw8
  have nib : ¬ B.owns w.heap.size := fun h => by have := hlt _ h; omega
  have nvb : ¬ B.owns (w.heap.size + 1) := fun h => by have := hlt _ h; omega
  have hslw : w.heap.size + 2 < (W1.heap.size) := by omega
  have nsl : ¬ B.owns (W1.heap.size) := fun h => by have := hlt _ h; omega
  go_wp2_with fail
  refine (contains_calls w7.heap.size 2 (by decide) _ K48).mono ?_
  rintro e w9 ⟨rfl, h9⟩
  rw [h9]
  clear h9 K48 K4 hb74 hb8 hb7 hlk
  go_wp2_with fail
  have hPs : Asm.Par B { S with toks := [t0, c1, t1, cv, tv] } w8 := by
   have h := hP8
   rw [← hS]
   exact h
  refine wp_loop_rounds 3 ?_
  rw [rounds_succ]
  obtain ⟨dsl, fsl⟩ := blk_facts Ksl
  have pq : w8.cell? ⟨(W1.heap.size), 0, none⟩ = some (.pointer (some ⟨w.heap.size, 1, none⟩)) := dsl 0
  have zq := blk_size Ksl
  clear dsl fsl
  go_wp2_with fail
  clear pq zq
  have hq := register_calls B { S with toks := [t0, c1, t1, cv, tv] } t0 [c1, t1, cv, tv] rfl ht0.sort d ht0.reg _ hPs
  refine hq.mono ?_
  rintro e y1 ⟨rfl, C1, hQ1, sp1⟩
  clear hq
  have sq1 := st.trans sp1
  have eb1 : C1.b = B.b := sq1.b
  obtain ⟨Kib1, nib1⟩ := sp1.keep Kib nib
  obtain ⟨Kvb1, nvb1⟩ := sp1.keep Kvb nvb
  obtain ⟨Ksl1, nsl1⟩ := sp1.keep Ksl nsl
  clear hPs st Kib Kvb sp1 Ksl
  obtain ⟨dib, fib⟩ := blk_facts Kib1
  have pq : y1.cell? ⟨w.heap.size, 1, none⟩ = some (.int .u8 0) := dib 1
  have gq : y1.frozen? ⟨w.heap.size, 1, none⟩ = false := fib 1
  have zq := blk_size Kib1
  clear dib fib
  have hR1 := hQ1.setOther Kib1 (by decide) nib1 1 (.int .u8 (d : Int))
  have sr1 := sq1.setOther (g := w.heap.size) (Nat.le_refl _) 1 (.int .u8 (d : Int))
  have Lib1 := setCell_row Kib1 1 (.int .u8 (d : Int)) (cs' := #[.int .i64 (op : Int), .int .u8 (d : Int), .int .u8 0, .int .u8 0, .int .i32 0]) rfl
  have Lvb1 := setCell_far Kvb1 (g := w.heap.size) (by omega) 1 (.int .u8 (d : Int))
  have Lsl1 := setCell_far Ksl1 (g := w.heap.size) (by omega) 1 (.int .u8 (d : Int))
  go_wp2_with fail
  clear pq gq zq hQ1 sq1 Kib1 Kvb1 Ksl1
  generalize y1.setCell _ _ = Z1 at hR1 sr1 Lib1 Lvb1 Lsl1 ⊢
  rw [rounds_succ]
  obtain ⟨dsl, fsl⟩ := blk_facts Lsl1
  have pq : Z1.cell? ⟨(W1.heap.size), 1, none⟩ = some (.pointer (some ⟨w.heap.size, 2, none⟩)) := dsl 1
  have zq := blk_size Lsl1
  clear dsl fsl
  go_wp2_with fail
  clear pq zq
  have hq := comma_calls C1 { S with toks := [c1, t1, cv, tv] } c1 [t1, cv, tv] 44 rfl hc1 _ hR1
  rw [eb1] at hq
  refine hq.mono ?_
  rintro e y2 ⟨rfl, C2, hQ2, sp2⟩
  clear hq
  have sq2 := sr1.trans sp2
  have eb2 : C2.b = B.b := sq2.b
  obtain ⟨Kib2, nib2⟩ := sp2.keep Lib1 nib1
  obtain ⟨Kvb2, nvb2⟩ := sp2.keep Lvb1 nvb1
  obtain ⟨Ksl2, nsl2⟩ := sp2.keep Lsl1 nsl1
  clear hR1 sr1 Lib1 Lvb1 sp2 Lsl1
  go_wp2_with fail
  have hq := register_calls C2 { S with toks := [t1, cv, tv] } t1 [cv, tv] rfl ht1.sort a ht1.reg _ hQ2
  rw [eb2] at hq
  refine hq.mono ?_
  rintro e y3 ⟨rfl, C3, hQ3, sp3⟩
  clear hq
  have sq3 := sq2.trans sp3
  have eb3 : C3.b = B.b := sq3.b
  obtain ⟨Kib3, nib3⟩ := sp3.keep Kib2 nib2
  obtain ⟨Kvb3, nvb3⟩ := sp3.keep Kvb2 nvb2
  obtain ⟨Ksl3, nsl3⟩ := sp3.keep Ksl2 nsl2
  clear hQ2 sq2 Kib2 Kvb2 sp3 Ksl2
  obtain ⟨dib, fib⟩ := blk_facts Kib3
  have pq : y3.cell? ⟨w.heap.size, 2, none⟩ = some (.int .u8 0) := dib 2
  have gq : y3.frozen? ⟨w.heap.size, 2, none⟩ = false := fib 2
  have zq := blk_size Kib3
  clear dib fib
  have hR3 := hQ3.setOther Kib3 (by decide) nib3 2 (.int .u8 (a : Int))
  have sr3 := sq3.setOther (g := w.heap.size) (Nat.le_refl _) 2 (.int .u8 (a : Int))
  have Lib3 := setCell_row Kib3 2 (.int .u8 (a : Int)) (cs' := #[.int .i64 (op : Int), .int .u8 (d : Int), .int .u8 (a : Int), .int .u8 0, .int .i32 0]) rfl
  have Lvb3 := setCell_far Kvb3 (g := w.heap.size) (by omega) 2 (.int .u8 (a : Int))
  have Lsl3 := setCell_far Ksl3 (g := w.heap.size) (by omega) 2 (.int .u8 (a : Int))
  go_wp2_with fail
  clear pq gq zq hQ3 sq3 Kib3 Kvb3 Ksl3
  generalize y3.setCell _ _ = Z3 at hR3 sr3 Lib3 Lvb3 Lsl3 ⊢
  rw [rounds_succ]
  go_wp2_with fail
  have hq := comma_calls C3 { S with toks := [cv, tv] } cv [tv] 44 rfl hcv _ hR3
  rw [eb3] at hq
  refine hq.mono ?_
  rintro e y4 ⟨rfl, C4, hQ4, sp4⟩
  clear hq
  have sq4 := sr3.trans sp4
  have eb4 : C4.b = B.b := sq4.b
  obtain ⟨Kib4, nib4⟩ := sp4.keep Lib3 nib3
  obtain ⟨Kvb4, nvb4⟩ := sp4.keep Lvb3 nvb3
  obtain ⟨Ksl4, nsl4⟩ := sp4.keep Lsl3 nsl3
  clear hR3 sr3 Lib3 Lvb3 sp4 Lsl3
  go_wp2_with fail
  have hq := value_calls C4 { S with toks := [tv] } tv [] v rfl htv _ hQ4
  rw [eb4] at hq
  refine hq.mono ?_
  rintro e y5 ⟨rfl, C5, hQ5, sp5⟩
  clear hq
  have sq5 := sq4.trans sp5
  have eb5 : C5.b = B.b := sq5.b
  obtain ⟨Kib5, nib5⟩ := sp5.keep Kib4 nib4
  obtain ⟨Kvb5, nvb5⟩ := sp5.keep Kvb4 nvb4
  obtain ⟨Ksl5, nsl5⟩ := sp5.keep Ksl4 nsl4
  clear hQ4 sq4 Kib4 Kvb4 sp5 Ksl4
  obtain ⟨dvb, fvb⟩ := blk_facts Kvb5
  have p0 : y5.cell? ⟨w.heap.size + 1, 0, none⟩ = some (.string ⟨#[]⟩) := dvb 0
  have p1 : y5.cell? ⟨w.heap.size + 1, 1, none⟩ = some (.int .i64 0) := dvb 1
  have g0 : y5.frozen? ⟨w.heap.size + 1, 0, none⟩ = false := fvb 0
  have g1 : y5.frozen? ⟨w.heap.size + 1, 1, none⟩ = false := fvb 1
  have zvb := blk_size Kvb5
  clear dvb fvb
  have r1 := setCell_row Kvb5 0 (.string ⟨v.name.toArray⟩) (cs' := #[.string ⟨v.name.toArray⟩, .int .i64 0]) rfl
  have Lvb5 := setCell_row r1 1 (.int .i64 v.n) (cs' := #[.string ⟨v.name.toArray⟩, .int .i64 v.n]) rfl
  have hR5 := (hQ5.setOther Kvb5 (by decide) nvb5 0 (.string ⟨v.name.toArray⟩)).setOther r1 (by decide) nvb5 1 (.int .i64 v.n)
  have sr5 := (sq5.setOther (g := w.heap.size + 1) (by omega) 0 (.string ⟨v.name.toArray⟩)).setOther (g := w.heap.size + 1) (by omega) 1 (.int .i64 v.n)
  have Lib5 := setCell_far (setCell_far Kib5 (g := w.heap.size + 1) (by omega) 0 (.string ⟨v.name.toArray⟩)) (g := w.heap.size + 1) (by omega) 1 (.int .i64 v.n)
  have d0 : ∀ i, ((y5.setCell ⟨w.heap.size + 1, 0, none⟩ (.string ⟨v.name.toArray⟩)).setCell ⟨w.heap.size + 1, 1, none⟩ (.int .i64 v.n)).cell? ⟨w.heap.size, i, none⟩ = (#[.int .i64 (op : Int), .int .u8 (d : Int), .int .u8 (a : Int), .int .u8 0, .int .i32 0] : Array Value)[i]? := (blk_facts Lib5).1
  have d0' := (blk_facts Kib5).1
  have q0 : ((y5.setCell ⟨w.heap.size + 1, 0, none⟩ (.string ⟨v.name.toArray⟩)).setCell ⟨w.heap.size + 1, 1, none⟩ (.int .i64 v.n)).cell? ⟨w.heap.size + 1, 0, none⟩ = some (.string ⟨v.name.toArray⟩) := (blk_facts Lvb5).1 0
  have q1 : ((y5.setCell ⟨w.heap.size + 1, 0, none⟩ (.string ⟨v.name.toArray⟩)).setCell ⟨w.heap.size + 1, 1, none⟩ (.int .i64 v.n)).cell? ⟨w.heap.size + 1, 1, none⟩ = some (.int .i64 v.n) := (blk_facts Lvb5).1 1
  have q2 : (y5.setCell ⟨w.heap.size + 1, 0, none⟩ (.string ⟨v.name.toArray⟩)).cell? ⟨w.heap.size + 1, 0, none⟩ = some (.string ⟨v.name.toArray⟩) := (blk_facts r1).1 0
  go_wp2_with fail
  clear p0 p1 g0 g1 zvb r1 d0 d0' q0 q1 q2
  generalize (y5.setCell _ _).setCell _ _ = Z at hR5 sr5 Lib5 Lvb5 ⊢
  refine (encoded_calls ⟨(op : Int), (d : Int), (a : Int), 0, 0⟩ v Z).mono ?_
  rintro e x1 ⟨rfl, rfl⟩
  have bE : Below Z.heap.size Z ((Z.alloc (.cells (Asm.insCells ⟨(op : Int), (d : Int), (a : Int), 0, 0⟩) 96)).alloc (.cells (Asm.valCells v) 195)) := below_alloc' (below_alloc' (Below.refl _ _) _) _
  have kI := blk_alloc (.cells (Asm.valCells v) 195) (heap_alloc_new Z (.cells (Asm.insCells ⟨(op : Int), (d : Int), (a : Int), 0, 0⟩) 96))
  have kV := heap_alloc_new (Z.alloc (.cells (Asm.insCells ⟨(op : Int), (d : Int), (a : Int), 0, 0⟩) 96)) (.cells (Asm.valCells v) 195)
  rw [alloc_size] at kV
  have hlt2 := hR5.ltAll
  have hn2 := hR5.b0
  have hbb := hlt2 C5.b (.inl rfl)
  have hput := put_calls C5 { S with toks := [] } ⟨hb.o0, hb.o1, hb.c, hb.puts, hb.labels, hb.pieces, hb.line0, hb.line1⟩ hm rfl hc hp ⟨(op : Int), (d : Int), (a : Int), 0, 0⟩ v _ (hR5.kept bE) (Z.heap.size + 1) Z.heap.size kV kI (fun h => by have := hlt2 _ h; omega) (fun h => by have := hlt2 _ h; omega) (by omega) (by omega) Z (Asm.Off.of_below bE) (by omega) (by omega)
  rw [eb5] at hput
  clear bE kI kV
  go_wp2_with fail
  refine hput.mono ?_
  rintro e x2 ⟨rfl, D, hD, sD⟩
  have sE := sr5.trans sD
  go_wp2_with fail
  go_end0
  exact ⟨rfl, D, hD, sE⟩)
end Go.Proofs.YtabmlbnnhhpaoaaGreatDoor
set_option maxHeartbeats 8000000
set_option maxRecDepth 100000
namespace Go.Proofs.YtabmlbnnhhpaoaaGreatDoor
open Go.RowKit Go.Shelf
theorem instr_form3 (op : Nat) (h1 : 1 ≤ op) (h2 : op < 49) (hfo : Isa.formOf op = 3) (hnm : op < 24 ∨ 31 < op) (B : Asm.PB) (S : Asm.PS) (t0 c1 t1 cv tv : Asm.Tok) (a b : Nat) (v : Asm.Val) (hS : S.toks = [t0, c1, t1, cv, tv]) (ht0 : Asm.IsReg t0 a) (hc1 : Asm.IsSign c1 44) (ht1 : Asm.IsReg t1 b) (hcv : Asm.IsSign cv 44) (htv : Asm.TokVal tv v)
 (hb : Asm.Bnd S) (hm : Asm.markOk S = true) (hc : S.count < 4096) (hp : S.pos + 4 ≤ 4294967296) (w : World) (hP : Asm.Par B S w) :
 Calls Tryz.prog 57 #[.pointer (some ⟨B.b, 0, none⟩), .int .i64 (op : Int)] w fun e w' => e = .returned (.tuple #[]) ∧
  ∃ B', Asm.Par B' (Asm.pushed { S with toks := [] } ⟨(op : Int), 0, (a : Int), (b : Int), 0⟩ v) w' ∧ Asm.Step B w B' w' := by
 have hmm := @run_makeMap Tryz.prog
 have hix : Isa.ix (op : Int) = op := by unfold Isa.ix; rw [if_pos (by omega)]; rfl
 have hfc := Form_calls (op : Int)
 rw [hix, hfo] at hfc
 have hlt := hP.ltAll
 have zb := hlt B.b (.inl rfl)
 have hn0b := hP.b0
 -- the boxes of the instruction and of the value, the map
 obtain ⟨W, W1, W2, W3, W4, W5, W6, hW, hWs, ⟨e1, e2, e3, e4, e5, e6, o6, off6, a1, a2, a3, a4, a5, a6, s1, s2, s3, s4, s5⟩, hb6, Kib6, Kvb6⟩ := instr_boxes op w
 rw [hWs] at e1
 rcases hnm with hnm | hnm
 all_goals go_enter Tryz.func57, Tryz.ntmps57
 all_goals (
  go_wp2_with fail
  refine (hfc _).mono ?_
  rintro e w7 ⟨rfl, hb7⟩
  have hlk := fields_look o6 hb7 3 (by decide) (.slice (some ⟨(W2.heap.size), 0, none⟩) 2 2) rfl
  go_wp2_with fail
  have K4 := heap_alloc_new w7 (.cells #[.int .i64 2, .int .i64 3, .int .i64 4, .int .i64 7] 147)
  have hb74 := below_next hb7 (below_alloc' (Below.refl w7.heap.size w7) (.cells #[.int .i64 2, .int .i64 3, .int .i64 4, .int .i64 7] 147))
  refine (hfc _).mono ?_
  rintro e w8 ⟨rfl, hb8⟩
  have K48 := blk_keep hb8 K4
  have hb68 := below_next hb74 hb8
  have hbw8 : Below w.heap.size w w8 := hb6.trans (hb68.mono hb6.size)
  have Kib := blk_keep hb68 Kib6
  have Kvb := blk_keep hb68 Kvb6
  have Ksl := blk_keep hb68 a3
  have hP8 := hP.kept hbw8
  have st := Asm.Step.belowAfter (Asm.Step.refl B w) hbw8
  have nib : ¬ B.owns w.heap.size := fun h => by have := hlt _ h; omega
  have nvb : ¬ B.owns (w.heap.size + 1) := fun h => by have := hlt _ h; omega
  have hslw : w.heap.size + 2 < (W2.heap.size) := by omega
  have nsl : ¬ B.owns (W2.heap.size) := fun h => by have := hlt _ h; omega
  go_wp2_with fail
  refine (contains_calls w7.heap.size 3 (by decide) _ K48).mono ?_
  rintro e w9 ⟨rfl, h9⟩
  rw [h9]
  clear h9 K48 K4 hb74 hb8 hb7 hlk
  go_wp2_with fail
  have hPs : Asm.Par B { S with toks := [t0, c1, t1, cv, tv] } w8 := by
   have h := hP8
   rw [← hS]
   exact h
  refine wp_loop_rounds 3 ?_
  rw [rounds_succ]
  obtain ⟨dsl, fsl⟩ := blk_facts Ksl
  have pq : w8.cell? ⟨(W2.heap.size), 0, none⟩ = some (.pointer (some ⟨w.heap.size, 2, none⟩)) := dsl 0
  have zq := blk_size Ksl
  clear dsl fsl
  go_wp2_with fail
  clear pq zq
  have hq := register_calls B { S with toks := [t0, c1, t1, cv, tv] } t0 [c1, t1, cv, tv] rfl ht0.sort a ht0.reg _ hPs
  refine hq.mono ?_
  rintro e y1 ⟨rfl, C1, hQ1, sp1⟩
  clear hq
  have sq1 := st.trans sp1
  have eb1 : C1.b = B.b := sq1.b
  obtain ⟨Kib1, nib1⟩ := sp1.keep Kib nib
  obtain ⟨Kvb1, nvb1⟩ := sp1.keep Kvb nvb
  obtain ⟨Ksl1, nsl1⟩ := sp1.keep Ksl nsl
  clear hPs st Kib Kvb sp1 Ksl
  obtain ⟨dib, fib⟩ := blk_facts Kib1
  have pq : y1.cell? ⟨w.heap.size, 2, none⟩ = some (.int .u8 0) := dib 2
  have gq : y1.frozen? ⟨w.heap.size, 2, none⟩ = false := fib 2
  have zq := blk_size Kib1
  clear dib fib
  have hR1 := hQ1.setOther Kib1 (by decide) nib1 2 (.int .u8 (a : Int))
  have sr1 := sq1.setOther (g := w.heap.size) (Nat.le_refl _) 2 (.int .u8 (a : Int))
  have Lib1 := setCell_row Kib1 2 (.int .u8 (a : Int)) (cs' := #[.int .i64 (op : Int), .int .u8 0, .int .u8 (a : Int), .int .u8 0, .int .i32 0]) rfl
  have Lvb1 := setCell_far Kvb1 (g := w.heap.size) (by omega) 2 (.int .u8 (a : Int))
  have Lsl1 := setCell_far Ksl1 (g := w.heap.size) (by omega) 2 (.int .u8 (a : Int))
  go_wp2_with fail
  clear pq gq zq hQ1 sq1 Kib1 Kvb1 Ksl1
  generalize y1.setCell _ _ = Z1 at hR1 sr1 Lib1 Lvb1 Lsl1 ⊢
  rw [rounds_succ]
  obtain ⟨dsl, fsl⟩ := blk_facts Lsl1
  have pq : Z1.cell? ⟨(W2.heap.size), 1, none⟩ = some (.pointer (some ⟨w.heap.size, 3, none⟩)) := dsl 1
  have zq := blk_size Lsl1
  clear dsl fsl
  go_wp2_with fail
  clear pq zq
  have hq := comma_calls C1 { S with toks := [c1, t1, cv, tv] } c1 [t1, cv, tv] 44 rfl hc1 _ hR1
  rw [eb1] at hq
  refine hq.mono ?_
  rintro e y2 ⟨rfl, C2, hQ2, sp2⟩
  clear hq
  have sq2 := sr1.trans sp2
  have eb2 : C2.b = B.b := sq2.b
  obtain ⟨Kib2, nib2⟩ := sp2.keep Lib1 nib1
  obtain ⟨Kvb2, nvb2⟩ := sp2.keep Lvb1 nvb1
  obtain ⟨Ksl2, nsl2⟩ := sp2.keep Lsl1 nsl1
  clear hR1 sr1 Lib1 Lvb1 sp2 Lsl1
  go_wp2_with fail
  have hq := register_calls C2 { S with toks := [t1, cv, tv] } t1 [cv, tv] rfl ht1.sort b ht1.reg _ hQ2
  rw [eb2] at hq
  refine hq.mono ?_
  rintro e y3 ⟨rfl, C3, hQ3, sp3⟩
  clear hq
  have sq3 := sq2.trans sp3
  have eb3 : C3.b = B.b := sq3.b
  obtain ⟨Kib3, nib3⟩ := sp3.keep Kib2 nib2
  obtain ⟨Kvb3, nvb3⟩ := sp3.keep Kvb2 nvb2
  obtain ⟨Ksl3, nsl3⟩ := sp3.keep Ksl2 nsl2
  clear hQ2 sq2 Kib2 Kvb2 sp3 Ksl2
  obtain ⟨dib, fib⟩ := blk_facts Kib3
  have pq : y3.cell? ⟨w.heap.size, 3, none⟩ = some (.int .u8 0) := dib 3
  have gq : y3.frozen? ⟨w.heap.size, 3, none⟩ = false := fib 3
  have zq := blk_size Kib3
  clear dib fib
  have hR3 := hQ3.setOther Kib3 (by decide) nib3 3 (.int .u8 (b : Int))
  have sr3 := sq3.setOther (g := w.heap.size) (Nat.le_refl _) 3 (.int .u8 (b : Int))
  have Lib3 := setCell_row Kib3 3 (.int .u8 (b : Int)) (cs' := #[.int .i64 (op : Int), .int .u8 0, .int .u8 (a : Int), .int .u8 (b : Int), .int .i32 0]) rfl
  have Lvb3 := setCell_far Kvb3 (g := w.heap.size) (by omega) 3 (.int .u8 (b : Int))
  have Lsl3 := setCell_far Ksl3 (g := w.heap.size) (by omega) 3 (.int .u8 (b : Int))
  go_wp2_with fail
  clear pq gq zq hQ3 sq3 Kib3 Kvb3 Ksl3
  generalize y3.setCell _ _ = Z3 at hR3 sr3 Lib3 Lvb3 Lsl3 ⊢
  rw [rounds_succ]
  go_wp2_with fail
  have hq := comma_calls C3 { S with toks := [cv, tv] } cv [tv] 44 rfl hcv _ hR3
  rw [eb3] at hq
  refine hq.mono ?_
  rintro e y4 ⟨rfl, C4, hQ4, sp4⟩
  clear hq
  have sq4 := sr3.trans sp4
  have eb4 : C4.b = B.b := sq4.b
  obtain ⟨Kib4, nib4⟩ := sp4.keep Lib3 nib3
  obtain ⟨Kvb4, nvb4⟩ := sp4.keep Lvb3 nvb3
  obtain ⟨Ksl4, nsl4⟩ := sp4.keep Lsl3 nsl3
  clear hR3 sr3 Lib3 Lvb3 sp4 Lsl3
  go_wp2_with fail
  have hq := value_calls C4 { S with toks := [tv] } tv [] v rfl htv _ hQ4
  rw [eb4] at hq
  refine hq.mono ?_
  rintro e y5 ⟨rfl, C5, hQ5, sp5⟩
  clear hq
  have sq5 := sq4.trans sp5
  have eb5 : C5.b = B.b := sq5.b
  obtain ⟨Kib5, nib5⟩ := sp5.keep Kib4 nib4
  obtain ⟨Kvb5, nvb5⟩ := sp5.keep Kvb4 nvb4
  obtain ⟨Ksl5, nsl5⟩ := sp5.keep Ksl4 nsl4
  clear hQ4 sq4 Kib4 Kvb4 sp5 Ksl4
  obtain ⟨dvb, fvb⟩ := blk_facts Kvb5
  have p0 : y5.cell? ⟨w.heap.size + 1, 0, none⟩ = some (.string ⟨#[]⟩) := dvb 0
  have p1 : y5.cell? ⟨w.heap.size + 1, 1, none⟩ = some (.int .i64 0) := dvb 1
  have g0 : y5.frozen? ⟨w.heap.size + 1, 0, none⟩ = false := fvb 0
  have g1 : y5.frozen? ⟨w.heap.size + 1, 1, none⟩ = false := fvb 1
  have zvb := blk_size Kvb5
  clear dvb fvb
  have r1 := setCell_row Kvb5 0 (.string ⟨v.name.toArray⟩) (cs' := #[.string ⟨v.name.toArray⟩, .int .i64 0]) rfl
  have Lvb5 := setCell_row r1 1 (.int .i64 v.n) (cs' := #[.string ⟨v.name.toArray⟩, .int .i64 v.n]) rfl
  have hR5 := (hQ5.setOther Kvb5 (by decide) nvb5 0 (.string ⟨v.name.toArray⟩)).setOther r1 (by decide) nvb5 1 (.int .i64 v.n)
  have sr5 := (sq5.setOther (g := w.heap.size + 1) (by omega) 0 (.string ⟨v.name.toArray⟩)).setOther (g := w.heap.size + 1) (by omega) 1 (.int .i64 v.n)
  have Lib5 := setCell_far (setCell_far Kib5 (g := w.heap.size + 1) (by omega) 0 (.string ⟨v.name.toArray⟩)) (g := w.heap.size + 1) (by omega) 1 (.int .i64 v.n)
  have d0 : ∀ i, ((y5.setCell ⟨w.heap.size + 1, 0, none⟩ (.string ⟨v.name.toArray⟩)).setCell ⟨w.heap.size + 1, 1, none⟩ (.int .i64 v.n)).cell? ⟨w.heap.size, i, none⟩ = (#[.int .i64 (op : Int), .int .u8 0, .int .u8 (a : Int), .int .u8 (b : Int), .int .i32 0] : Array Value)[i]? := (blk_facts Lib5).1
  have d0' := (blk_facts Kib5).1
  have q0 : ((y5.setCell ⟨w.heap.size + 1, 0, none⟩ (.string ⟨v.name.toArray⟩)).setCell ⟨w.heap.size + 1, 1, none⟩ (.int .i64 v.n)).cell? ⟨w.heap.size + 1, 0, none⟩ = some (.string ⟨v.name.toArray⟩) := (blk_facts Lvb5).1 0
  have q1 : ((y5.setCell ⟨w.heap.size + 1, 0, none⟩ (.string ⟨v.name.toArray⟩)).setCell ⟨w.heap.size + 1, 1, none⟩ (.int .i64 v.n)).cell? ⟨w.heap.size + 1, 1, none⟩ = some (.int .i64 v.n) := (blk_facts Lvb5).1 1
  have q2 : (y5.setCell ⟨w.heap.size + 1, 0, none⟩ (.string ⟨v.name.toArray⟩)).cell? ⟨w.heap.size + 1, 0, none⟩ = some (.string ⟨v.name.toArray⟩) := (blk_facts r1).1 0
  go_wp2_with fail
  clear p0 p1 g0 g1 zvb r1 d0 d0' q0 q1 q2
  generalize (y5.setCell _ _).setCell _ _ = Z at hR5 sr5 Lib5 Lvb5 ⊢
  refine (encoded_calls ⟨(op : Int), 0, (a : Int), (b : Int), 0⟩ v Z).mono ?_
  rintro e x1 ⟨rfl, rfl⟩
  have bE : Below Z.heap.size Z ((Z.alloc (.cells (Asm.insCells ⟨(op : Int), 0, (a : Int), (b : Int), 0⟩) 96)).alloc (.cells (Asm.valCells v) 195)) := below_alloc' (below_alloc' (Below.refl _ _) _) _
  have kI := blk_alloc (.cells (Asm.valCells v) 195) (heap_alloc_new Z (.cells (Asm.insCells ⟨(op : Int), 0, (a : Int), (b : Int), 0⟩) 96))
  have kV := heap_alloc_new (Z.alloc (.cells (Asm.insCells ⟨(op : Int), 0, (a : Int), (b : Int), 0⟩) 96)) (.cells (Asm.valCells v) 195)
  rw [alloc_size] at kV
  have hlt2 := hR5.ltAll
  have hn2 := hR5.b0
  have hbb := hlt2 C5.b (.inl rfl)
  have hput := put_calls C5 { S with toks := [] } ⟨hb.o0, hb.o1, hb.c, hb.puts, hb.labels, hb.pieces, hb.line0, hb.line1⟩ hm rfl hc hp ⟨(op : Int), 0, (a : Int), (b : Int), 0⟩ v _ (hR5.kept bE) (Z.heap.size + 1) Z.heap.size kV kI (fun h => by have := hlt2 _ h; omega) (fun h => by have := hlt2 _ h; omega) (by omega) (by omega) Z (Asm.Off.of_below bE) (by omega) (by omega)
  rw [eb5] at hput
  clear bE kI kV
  go_wp2_with fail
  refine hput.mono ?_
  rintro e x2 ⟨rfl, D, hD, sD⟩
  have sE := sr5.trans sD
  go_wp2_with fail
  go_end0
  exact ⟨rfl, D, hD, sE⟩)
end Go.Proofs.YtabmlbnnhhpaoaaGreatDoor
set_option maxHeartbeats 8000000
set_option maxRecDepth 100000
namespace Go.Proofs.YtabmlbnnhhpaoaaGreatDoor
open Go.RowKit Go.Shelf
theorem instr_form8 (op : Nat) (h1 : 1 ≤ op) (h2 : op < 49) (hfo : Isa.formOf op = 8) (hnm : op < 24 ∨ 31 < op) (B : Asm.PB) (S : Asm.PS)    (hS : S.toks = []) 
 (hb : Asm.Bnd S) (hm : Asm.markOk S = true) (hc : S.count < 4096) (hp : S.pos + 4 ≤ 4294967296) (w : World) (hP : Asm.Par B S w) :
 Calls Tryz.prog 57 #[.pointer (some ⟨B.b, 0, none⟩), .int .i64 (op : Int)] w fun e w' => e = .returned (.tuple #[]) ∧
  ∃ B', Asm.Par B' (Asm.pushed { S with toks := [] } ⟨(op : Int), 0, 0, 0, 0⟩ ⟨[], 0⟩) w' ∧ Asm.Step B w B' w' := by
 have hmm := @run_makeMap Tryz.prog
 have hix : Isa.ix (op : Int) = op := by unfold Isa.ix; rw [if_pos (by omega)]; rfl
 have hfc := Form_calls (op : Int)
 rw [hix, hfo] at hfc
 have hlt := hP.ltAll
 have zb := hlt B.b (.inl rfl)
 have hn0b := hP.b0
 -- the boxes of the instruction and of the value, the map
 obtain ⟨W, W1, W2, W3, W4, W5, W6, hW, hWs, ⟨e1, e2, e3, e4, e5, e6, o6, off6, a1, a2, a3, a4, a5, a6, s1, s2, s3, s4, s5⟩, hb6, Kib6, Kvb6⟩ := instr_boxes op w
 rw [hWs] at e1
 rcases hnm with hnm | hnm
 all_goals go_enter Tryz.func57, Tryz.ntmps57
 all_goals (
  go_wp2_with fail
  refine (hfc _).mono ?_
  rintro e w7 ⟨rfl, hb7⟩
  have hlk := fields_look o6 hb7 8 (by decide) (.slice none 0 0) rfl
  go_wp2_with fail
  have K4 := heap_alloc_new w7 (.cells #[.int .i64 2, .int .i64 3, .int .i64 4, .int .i64 7] 147)
  have hb74 := below_next hb7 (below_alloc' (Below.refl w7.heap.size w7) (.cells #[.int .i64 2, .int .i64 3, .int .i64 4, .int .i64 7] 147))
  refine (hfc _).mono ?_
  rintro e w8 ⟨rfl, hb8⟩
  have K48 := blk_keep hb8 K4
  have hb68 := below_next hb74 hb8
  have hbw8 : Below w.heap.size w w8 := hb6.trans (hb68.mono hb6.size)
  have Kib := blk_keep hb68 Kib6
  have Kvb := blk_keep hb68 Kvb6
  have hP8 := hP.kept hbw8
  have st := Asm.Step.belowAfter (Asm.Step.refl B w) hbw8
  have nib : ¬ B.owns w.heap.size := fun h => by have := hlt _ h; omega
  have nvb : ¬ B.owns (w.heap.size + 1) := fun h => by have := hlt _ h; omega
  go_wp2_with fail
  refine (contains_calls w7.heap.size 8 (by decide) _ K48).mono ?_
  rintro e w9 ⟨rfl, h9⟩
  rw [h9]
  clear h9 K48 K4 hb74 hb8 hb7 hlk
  go_wp2_with fail
  have hPs : Asm.Par B { S with toks := [] } w8 := by
   have h := hP8
   rw [← hS]
   exact h
  refine wp_loop_rounds 1 ?_
  rw [rounds_succ]
  obtain ⟨dib, fib⟩ := blk_facts Kib
  obtain ⟨dvb, fvb⟩ := blk_facts Kvb
  have zib := blk_size Kib
  have zvb := blk_size Kvb
  go_wp2_with fail
  refine (encoded_calls ⟨(op : Int), 0, 0, 0, 0⟩ ⟨[], 0⟩ w8).mono ?_
  rintro e x1 ⟨rfl, rfl⟩
  have bE : Below w8.heap.size w8 ((w8.alloc (.cells (Asm.insCells ⟨(op : Int), 0, 0, 0, 0⟩) 96)).alloc (.cells (Asm.valCells ⟨[], 0⟩) 195)) := below_alloc' (below_alloc' (Below.refl _ _) _) _
  have kI := blk_alloc (.cells (Asm.valCells ⟨[], 0⟩) 195) (heap_alloc_new w8 (.cells (Asm.insCells ⟨(op : Int), 0, 0, 0, 0⟩) 96))
  have kV := heap_alloc_new (w8.alloc (.cells (Asm.insCells ⟨(op : Int), 0, 0, 0, 0⟩) 96)) (.cells (Asm.valCells ⟨[], 0⟩) 195)
  rw [alloc_size] at kV
  have hlt2 := hPs.ltAll
  have hn2 := hPs.b0
  have hbb := hlt2 B.b (.inl rfl)
  have hput := put_calls B { S with toks := [] } ⟨hb.o0, hb.o1, hb.c, hb.puts, hb.labels, hb.pieces, hb.line0, hb.line1⟩ hm rfl hc hp ⟨(op : Int), 0, 0, 0, 0⟩ ⟨[], 0⟩ _ (hPs.kept bE) (w8.heap.size + 1) w8.heap.size kV kI (fun h => by have := hlt2 _ h; omega) (fun h => by have := hlt2 _ h; omega) (by omega) (by omega) w8 (Asm.Off.of_below bE) (by omega) (by omega)
  clear bE kI kV
  go_wp2_with fail
  refine hput.mono ?_
  rintro e x2 ⟨rfl, D, hD, sD⟩
  have sE := st.trans sD
  go_wp2_with fail
  go_end0
  exact ⟨rfl, D, hD, sE⟩)
end Go.Proofs.YtabmlbnnhhpaoaaGreatDoor
set_option maxHeartbeats 8000000
set_option maxRecDepth 100000
namespace Go.Proofs.YtabmlbnnhhpaoaaGreatDoor
open Go.RowKit Go.Shelf
theorem instr_form1 (op : Nat) (h1 : 1 ≤ op) (h2 : op < 49) (hfo : Isa.formOf op = 1) (hnm : op < 24 ∨ 31 < op) (B : Asm.PB) (S : Asm.PS) (t0 c1 t1 c2 t2 : Asm.Tok) (d a b : Nat)  (hS : S.toks = [t0, c1, t1, c2, t2]) (ht0 : Asm.IsReg t0 d) (hc1 : Asm.IsSign c1 44) (ht1 : Asm.IsReg t1 a) (hc2 : Asm.IsSign c2 44) (ht2 : Asm.IsReg t2 b)
 (hb : Asm.Bnd S) (hm : Asm.markOk S = true) (hc : S.count < 4096) (hp : S.pos + 4 ≤ 4294967296) (w : World) (hP : Asm.Par B S w) :
 Calls Tryz.prog 57 #[.pointer (some ⟨B.b, 0, none⟩), .int .i64 (op : Int)] w fun e w' => e = .returned (.tuple #[]) ∧
  ∃ B', Asm.Par B' (Asm.pushed { S with toks := [] } ⟨(op : Int), (d : Int), (a : Int), (b : Int), 0⟩ ⟨[], 0⟩) w' ∧ Asm.Step B w B' w' := by
 have hmm := @run_makeMap Tryz.prog
 have hix : Isa.ix (op : Int) = op := by unfold Isa.ix; rw [if_pos (by omega)]; rfl
 have hfc := Form_calls (op : Int)
 rw [hix, hfo] at hfc
 have hlt := hP.ltAll
 have zb := hlt B.b (.inl rfl)
 have hn0b := hP.b0
 -- the boxes of the instruction and of the value, the map
 obtain ⟨W, W1, W2, W3, W4, W5, W6, hW, hWs, ⟨e1, e2, e3, e4, e5, e6, o6, off6, a1, a2, a3, a4, a5, a6, s1, s2, s3, s4, s5⟩, hb6, Kib6, Kvb6⟩ := instr_boxes op w
 rw [hWs] at e1
 rcases hnm with hnm | hnm
 all_goals go_enter Tryz.func57, Tryz.ntmps57
 all_goals (
  go_wp2_with fail
  refine (hfc _).mono ?_
  rintro e w7 ⟨rfl, hb7⟩
  have hlk := fields_look o6 hb7 1 (by decide) (.slice (some ⟨(W.heap.size), 0, none⟩) 3 3) rfl
  rw [hWs] at hlk a1
  go_wp2_with fail
  have K4 := heap_alloc_new w7 (.cells #[.int .i64 2, .int .i64 3, .int .i64 4, .int .i64 7] 147)
  have hb74 := below_next hb7 (below_alloc' (Below.refl w7.heap.size w7) (.cells #[.int .i64 2, .int .i64 3, .int .i64 4, .int .i64 7] 147))
  refine (hfc _).mono ?_
  rintro e w8 ⟨rfl, hb8⟩
  have K48 := blk_keep hb8 K4
  have hb68 := below_next hb74 hb8
  have hbw8 : Below w.heap.size w w8 := hb6.trans (hb68.mono hb6.size)
  have Kib := blk_keep hb68 Kib6
  have Kvb := blk_keep hb68 Kvb6
  have Ksl := blk_keep hb68 a1
  have hP8 := hP.kept hbw8
  have st := Asm.Step.belowAfter (Asm.Step.refl B w) hbw8
  have nib : ¬ B.owns w.heap.size := fun h => by have := hlt _ h; omega
  have nvb : ¬ B.owns (w.heap.size + 1) := fun h => by have := hlt _ h; omega
  have hslw : w.heap.size + 2 < (w.heap.size + 2 + 1) := by omega
  have nsl : ¬ B.owns (w.heap.size + 2 + 1) := fun h => by have := hlt _ h; omega
  go_wp2_with fail
  refine (contains_calls w7.heap.size 1 (by decide) _ K48).mono ?_
  rintro e w9 ⟨rfl, h9⟩
  rw [h9]
  clear h9 K48 K4 hb74 hb8 hb7 hlk
  go_wp2_with fail
  have hPs : Asm.Par B { S with toks := [t0, c1, t1, c2, t2] } w8 := by
   have h := hP8
   rw [← hS]
   exact h
  refine wp_loop_rounds 4 ?_
  rw [rounds_succ]
  obtain ⟨dsl, fsl⟩ := blk_facts Ksl
  have pq : w8.cell? ⟨(w.heap.size + 2 + 1), 0, none⟩ = some (.pointer (some ⟨w.heap.size, 1, none⟩)) := dsl 0
  have zq := blk_size Ksl
  clear dsl fsl
  go_wp2_with fail
  clear pq zq
  have hq := register_calls B { S with toks := [t0, c1, t1, c2, t2] } t0 [c1, t1, c2, t2] rfl ht0.sort d ht0.reg _ hPs
  refine hq.mono ?_
  rintro e y1 ⟨rfl, C1, hQ1, sp1⟩
  clear hq
  have sq1 := st.trans sp1
  have eb1 : C1.b = B.b := sq1.b
  obtain ⟨Kib1, nib1⟩ := sp1.keep Kib nib
  obtain ⟨Kvb1, nvb1⟩ := sp1.keep Kvb nvb
  obtain ⟨Ksl1, nsl1⟩ := sp1.keep Ksl nsl
  clear hPs st Kib Kvb sp1 Ksl
  obtain ⟨dib, fib⟩ := blk_facts Kib1
  have pq : y1.cell? ⟨w.heap.size, 1, none⟩ = some (.int .u8 0) := dib 1
  have gq : y1.frozen? ⟨w.heap.size, 1, none⟩ = false := fib 1
  have zq := blk_size Kib1
  clear dib fib
  have hR1 := hQ1.setOther Kib1 (by decide) nib1 1 (.int .u8 (d : Int))
  have sr1 := sq1.setOther (g := w.heap.size) (Nat.le_refl _) 1 (.int .u8 (d : Int))
  have Lib1 := setCell_row Kib1 1 (.int .u8 (d : Int)) (cs' := #[.int .i64 (op : Int), .int .u8 (d : Int), .int .u8 0, .int .u8 0, .int .i32 0]) rfl
  have Lvb1 := setCell_far Kvb1 (g := w.heap.size) (by omega) 1 (.int .u8 (d : Int))
  have Lsl1 := setCell_far Ksl1 (g := w.heap.size) (by omega) 1 (.int .u8 (d : Int))
  go_wp2_with fail
  clear pq gq zq hQ1 sq1 Kib1 Kvb1 Ksl1
  generalize y1.setCell _ _ = Z1 at hR1 sr1 Lib1 Lvb1 Lsl1 ⊢
  rw [rounds_succ]
  obtain ⟨dsl, fsl⟩ := blk_facts Lsl1
  have pq : Z1.cell? ⟨(w.heap.size + 2 + 1), 1, none⟩ = some (.pointer (some ⟨w.heap.size, 2, none⟩)) := dsl 1
  have zq := blk_size Lsl1
  clear dsl fsl
  go_wp2_with fail
  clear pq zq
  have hq := comma_calls C1 { S with toks := [c1, t1, c2, t2] } c1 [t1, c2, t2] 44 rfl hc1 _ hR1
  rw [eb1] at hq
  refine hq.mono ?_
  rintro e y2 ⟨rfl, C2, hQ2, sp2⟩
  clear hq
  have sq2 := sr1.trans sp2
  have eb2 : C2.b = B.b := sq2.b
  obtain ⟨Kib2, nib2⟩ := sp2.keep Lib1 nib1
  obtain ⟨Kvb2, nvb2⟩ := sp2.keep Lvb1 nvb1
  obtain ⟨Ksl2, nsl2⟩ := sp2.keep Lsl1 nsl1
  clear hR1 sr1 Lib1 Lvb1 sp2 Lsl1
  go_wp2_with fail
  have hq := register_calls C2 { S with toks := [t1, c2, t2] } t1 [c2, t2] rfl ht1.sort a ht1.reg _ hQ2
  rw [eb2] at hq
  refine hq.mono ?_
  rintro e y3 ⟨rfl, C3, hQ3, sp3⟩
  clear hq
  have sq3 := sq2.trans sp3
  have eb3 : C3.b = B.b := sq3.b
  obtain ⟨Kib3, nib3⟩ := sp3.keep Kib2 nib2
  obtain ⟨Kvb3, nvb3⟩ := sp3.keep Kvb2 nvb2
  obtain ⟨Ksl3, nsl3⟩ := sp3.keep Ksl2 nsl2
  clear hQ2 sq2 Kib2 Kvb2 sp3 Ksl2
  obtain ⟨dib, fib⟩ := blk_facts Kib3
  have pq : y3.cell? ⟨w.heap.size, 2, none⟩ = some (.int .u8 0) := dib 2
  have gq : y3.frozen? ⟨w.heap.size, 2, none⟩ = false := fib 2
  have zq := blk_size Kib3
  clear dib fib
  have hR3 := hQ3.setOther Kib3 (by decide) nib3 2 (.int .u8 (a : Int))
  have sr3 := sq3.setOther (g := w.heap.size) (Nat.le_refl _) 2 (.int .u8 (a : Int))
  have Lib3 := setCell_row Kib3 2 (.int .u8 (a : Int)) (cs' := #[.int .i64 (op : Int), .int .u8 (d : Int), .int .u8 (a : Int), .int .u8 0, .int .i32 0]) rfl
  have Lvb3 := setCell_far Kvb3 (g := w.heap.size) (by omega) 2 (.int .u8 (a : Int))
  have Lsl3 := setCell_far Ksl3 (g := w.heap.size) (by omega) 2 (.int .u8 (a : Int))
  go_wp2_with fail
  clear pq gq zq hQ3 sq3 Kib3 Kvb3 Ksl3
  generalize y3.setCell _ _ = Z3 at hR3 sr3 Lib3 Lvb3 Lsl3 ⊢
  rw [rounds_succ]
  obtain ⟨dsl, fsl⟩ := blk_facts Lsl3
  have pq : Z3.cell? ⟨(w.heap.size + 2 + 1), 2, none⟩ = some (.pointer (some ⟨w.heap.size, 3, none⟩)) := dsl 2
  have zq := blk_size Lsl3
  clear dsl fsl
  go_wp2_with fail
  clear pq zq
  have hq := comma_calls C3 { S with toks := [c2, t2] } c2 [t2] 44 rfl hc2 _ hR3
  rw [eb3] at hq
  refine hq.mono ?_
  rintro e y4 ⟨rfl, C4, hQ4, sp4⟩
  clear hq
  have sq4 := sr3.trans sp4
  have eb4 : C4.b = B.b := sq4.b
  obtain ⟨Kib4, nib4⟩ := sp4.keep Lib3 nib3
  obtain ⟨Kvb4, nvb4⟩ := sp4.keep Lvb3 nvb3
  obtain ⟨Ksl4, nsl4⟩ := sp4.keep Lsl3 nsl3
  clear hR3 sr3 Lib3 Lvb3 sp4 Lsl3
  go_wp2_with fail
  have hq := register_calls C4 { S with toks := [t2] } t2 [] rfl ht2.sort b ht2.reg _ hQ4
  rw [eb4] at hq
  refine hq.mono ?_
  rintro e y5 ⟨rfl, C5, hQ5, sp5⟩
  clear hq
  have sq5 := sq4.trans sp5
  have eb5 : C5.b = B.b := sq5.b
  obtain ⟨Kib5, nib5⟩ := sp5.keep Kib4 nib4
  obtain ⟨Kvb5, nvb5⟩ := sp5.keep Kvb4 nvb4
  obtain ⟨Ksl5, nsl5⟩ := sp5.keep Ksl4 nsl4
  clear hQ4 sq4 Kib4 Kvb4 sp5 Ksl4
  obtain ⟨dib, fib⟩ := blk_facts Kib5
  have pq : y5.cell? ⟨w.heap.size, 3, none⟩ = some (.int .u8 0) := dib 3
  have gq : y5.frozen? ⟨w.heap.size, 3, none⟩ = false := fib 3
  have zq := blk_size Kib5
  clear dib fib
  have hR5 := hQ5.setOther Kib5 (by decide) nib5 3 (.int .u8 (b : Int))
  have sr5 := sq5.setOther (g := w.heap.size) (Nat.le_refl _) 3 (.int .u8 (b : Int))
  have Lib5 := setCell_row Kib5 3 (.int .u8 (b : Int)) (cs' := #[.int .i64 (op : Int), .int .u8 (d : Int), .int .u8 (a : Int), .int .u8 (b : Int), .int .i32 0]) rfl
  have Lvb5 := setCell_far Kvb5 (g := w.heap.size) (by omega) 3 (.int .u8 (b : Int))
  have Lsl5 := setCell_far Ksl5 (g := w.heap.size) (by omega) 3 (.int .u8 (b : Int))
  go_wp2_with fail
  clear pq gq zq hQ5 sq5 Kib5 Kvb5 Ksl5
  generalize y5.setCell _ _ = Z5 at hR5 sr5 Lib5 Lvb5 Lsl5 ⊢
  rw [rounds_succ]
  obtain ⟨dib, fib⟩ := blk_facts Lib5
  obtain ⟨dvb, fvb⟩ := blk_facts Lvb5
  have zib := blk_size Lib5
  have zvb := blk_size Lvb5
  go_wp2_with fail
  refine (encoded_calls ⟨(op : Int), (d : Int), (a : Int), (b : Int), 0⟩ ⟨[], 0⟩ Z5).mono ?_
  rintro e x1 ⟨rfl, rfl⟩
  have bE : Below Z5.heap.size Z5 ((Z5.alloc (.cells (Asm.insCells ⟨(op : Int), (d : Int), (a : Int), (b : Int), 0⟩) 96)).alloc (.cells (Asm.valCells ⟨[], 0⟩) 195)) := below_alloc' (below_alloc' (Below.refl _ _) _) _
  have kI := blk_alloc (.cells (Asm.valCells ⟨[], 0⟩) 195) (heap_alloc_new Z5 (.cells (Asm.insCells ⟨(op : Int), (d : Int), (a : Int), (b : Int), 0⟩) 96))
  have kV := heap_alloc_new (Z5.alloc (.cells (Asm.insCells ⟨(op : Int), (d : Int), (a : Int), (b : Int), 0⟩) 96)) (.cells (Asm.valCells ⟨[], 0⟩) 195)
  rw [alloc_size] at kV
  have hlt2 := hR5.ltAll
  have hn2 := hR5.b0
  have hbb := hlt2 C5.b (.inl rfl)
  have hput := put_calls C5 { S with toks := [] } ⟨hb.o0, hb.o1, hb.c, hb.puts, hb.labels, hb.pieces, hb.line0, hb.line1⟩ hm rfl hc hp ⟨(op : Int), (d : Int), (a : Int), (b : Int), 0⟩ ⟨[], 0⟩ _ (hR5.kept bE) (Z5.heap.size + 1) Z5.heap.size kV kI (fun h => by have := hlt2 _ h; omega) (fun h => by have := hlt2 _ h; omega) (by omega) (by omega) Z5 (Asm.Off.of_below bE) (by omega) (by omega)
  rw [eb5] at hput
  clear bE kI kV
  go_wp2_with fail
  refine hput.mono ?_
  rintro e x2 ⟨rfl, D, hD, sD⟩
  have sE := sr5.trans sD
  go_wp2_with fail
  go_end0
  exact ⟨rfl, D, hD, sE⟩)
end Go.Proofs.YtabmlbnnhhpaoaaGreatDoor
set_option maxHeartbeats 8000000
set_option maxRecDepth 100000
namespace Go.Proofs.YtabmlbnnhhpaoaaGreatDoor
open Go.RowKit Go.Shelf
theorem instr_form4 (op : Nat) (h1 : 1 ≤ op) (h2 : op < 49) (hfo : Isa.formOf op = 4) (hnm : op < 24 ∨ 31 < op) (B : Asm.PB) (S : Asm.PS) (t0 cv tv : Asm.Tok) (d : Nat) (v : Asm.Val) (hS : S.toks = [t0, cv, tv]) (ht0 : Asm.IsReg t0 d) (hcv : Asm.IsSign cv 44) (htv : Asm.TokVal tv v)
 (hb : Asm.Bnd S) (hm : Asm.markOk S = true) (hc : S.count < 4096) (hp : S.pos + 4 ≤ 4294967296) (w : World) (hP : Asm.Par B S w) :
 Calls Tryz.prog 57 #[.pointer (some ⟨B.b, 0, none⟩), .int .i64 (op : Int)] w fun e w' => e = .returned (.tuple #[]) ∧
  ∃ B', Asm.Par B' (Asm.pushed { S with toks := [] } ⟨(op : Int), (d : Int), 0, 0, 0⟩ v) w' ∧ Asm.Step B w B' w' := by
 have hmm := @run_makeMap Tryz.prog
 have hix : Isa.ix (op : Int) = op := by unfold Isa.ix; rw [if_pos (by omega)]; rfl
 have hfc := Form_calls (op : Int)
 rw [hix, hfo] at hfc
 have hlt := hP.ltAll
 have zb := hlt B.b (.inl rfl)
 have hn0b := hP.b0
 -- the boxes of the instruction and of the value, the map
 obtain ⟨W, W1, W2, W3, W4, W5, W6, hW, hWs, ⟨e1, e2, e3, e4, e5, e6, o6, off6, a1, a2, a3, a4, a5, a6, s1, s2, s3, s4, s5⟩, hb6, Kib6, Kvb6⟩ := instr_boxes op w
 rw [hWs] at e1
 rcases hnm with hnm | hnm
 all_goals go_enter Tryz.func57, Tryz.ntmps57
 all_goals (
  go_wp2_with fail
  refine (hfc _).mono ?_
  rintro e w7 ⟨rfl, hb7⟩
  have hlk := fields_look o6 hb7 4 (by decide) (.slice (some ⟨(W3.heap.size), 0, none⟩) 1 1) rfl
  go_wp2_with fail
  have K4 := heap_alloc_new w7 (.cells #[.int .i64 2, .int .i64 3, .int .i64 4, .int .i64 7] 147)
  have hb74 := below_next hb7 (below_alloc' (Below.refl w7.heap.size w7) (.cells #[.int .i64 2, .int .i64 3, .int .i64 4, .int .i64 7] 147))
  refine (hfc _).mono ?_
  rintro e w8 ⟨rfl, hb8⟩
  have K48 := blk_keep hb8 K4
  have hb68 := below_next hb74 hb8
  have hbw8 : Below w.heap.size w w8 := hb6.trans (hb68.mono hb6.size)
  have Kib := blk_keep hb68 Kib6
  have Kvb := blk_keep hb68 Kvb6
  have Ksl := blk_keep hb68 a4
  have hP8 := hP.kept hbw8
  have st := Asm.Step.belowAfter (Asm.Step.refl B w) hbw8
  have nib : ¬ B.owns w.heap.size := fun h => by have := hlt _ h; omega
  have nvb : ¬ B.owns (w.heap.size + 1) := fun h => by have := hlt _ h; omega
  have hslw : w.heap.size + 2 < (W3.heap.size) := by omega
  have nsl : ¬ B.owns (W3.heap.size) := fun h => by have := hlt _ h; omega
  go_wp2_with fail
  refine (contains_calls w7.heap.size 4 (by decide) _ K48).mono ?_
  rintro e w9 ⟨rfl, h9⟩
  rw [h9]
  clear h9 K48 K4 hb74 hb8 hb7 hlk
  go_wp2_with fail
  have hPs : Asm.Par B { S with toks := [t0, cv, tv] } w8 := by
   have h := hP8
   rw [← hS]
   exact h
  refine wp_loop_rounds 2 ?_
  rw [rounds_succ]
  obtain ⟨dsl, fsl⟩ := blk_facts Ksl
  have pq : w8.cell? ⟨(W3.heap.size), 0, none⟩ = some (.pointer (some ⟨w.heap.size, 1, none⟩)) := dsl 0
  have zq := blk_size Ksl
  clear dsl fsl
  go_wp2_with fail
  clear pq zq
  have hq := register_calls B { S with toks := [t0, cv, tv] } t0 [cv, tv] rfl ht0.sort d ht0.reg _ hPs
  refine hq.mono ?_
  rintro e y1 ⟨rfl, C1, hQ1, sp1⟩
  clear hq
  have sq1 := st.trans sp1
  have eb1 : C1.b = B.b := sq1.b
  obtain ⟨Kib1, nib1⟩ := sp1.keep Kib nib
  obtain ⟨Kvb1, nvb1⟩ := sp1.keep Kvb nvb
  obtain ⟨Ksl1, nsl1⟩ := sp1.keep Ksl nsl
  clear hPs st Kib Kvb sp1 Ksl
  obtain ⟨dib, fib⟩ := blk_facts Kib1
  have pq : y1.cell? ⟨w.heap.size, 1, none⟩ = some (.int .u8 0) := dib 1
  have gq : y1.frozen? ⟨w.heap.size, 1, none⟩ = false := fib 1
  have zq := blk_size Kib1
  clear dib fib
  have hR1 := hQ1.setOther Kib1 (by decide) nib1 1 (.int .u8 (d : Int))
  have sr1 := sq1.setOther (g := w.heap.size) (Nat.le_refl _) 1 (.int .u8 (d : Int))
  have Lib1 := setCell_row Kib1 1 (.int .u8 (d : Int)) (cs' := #[.int .i64 (op : Int), .int .u8 (d : Int), .int .u8 0, .int .u8 0, .int .i32 0]) rfl
  have Lvb1 := setCell_far Kvb1 (g := w.heap.size) (by omega) 1 (.int .u8 (d : Int))
  have Lsl1 := setCell_far Ksl1 (g := w.heap.size) (by omega) 1 (.int .u8 (d : Int))
  go_wp2_with fail
  clear pq gq zq hQ1 sq1 Kib1 Kvb1 Ksl1
  generalize y1.setCell _ _ = Z1 at hR1 sr1 Lib1 Lvb1 Lsl1 ⊢
  rw [rounds_succ]
  go_wp2_with fail
  have hq := comma_calls C1 { S with toks := [cv, tv] } cv [tv] 44 rfl hcv _ hR1
  rw [eb1] at hq
  refine hq.mono ?_
  rintro e y2 ⟨rfl, C2, hQ2, sp2⟩
  clear hq
  have sq2 := sr1.trans sp2
  have eb2 : C2.b = B.b := sq2.b
  obtain ⟨Kib2, nib2⟩ := sp2.keep Lib1 nib1
  obtain ⟨Kvb2, nvb2⟩ := sp2.keep Lvb1 nvb1
  obtain ⟨Ksl2, nsl2⟩ := sp2.keep Lsl1 nsl1
  clear hR1 sr1 Lib1 Lvb1 sp2 Lsl1
  go_wp2_with fail
  have hq := value_calls C2 { S with toks := [tv] } tv [] v rfl htv _ hQ2
  rw [eb2] at hq
  refine hq.mono ?_
  rintro e y3 ⟨rfl, C3, hQ3, sp3⟩
  clear hq
  have sq3 := sq2.trans sp3
  have eb3 : C3.b = B.b := sq3.b
  obtain ⟨Kib3, nib3⟩ := sp3.keep Kib2 nib2
  obtain ⟨Kvb3, nvb3⟩ := sp3.keep Kvb2 nvb2
  obtain ⟨Ksl3, nsl3⟩ := sp3.keep Ksl2 nsl2
  clear hQ2 sq2 Kib2 Kvb2 sp3 Ksl2
  obtain ⟨dvb, fvb⟩ := blk_facts Kvb3
  have p0 : y3.cell? ⟨w.heap.size + 1, 0, none⟩ = some (.string ⟨#[]⟩) := dvb 0
  have p1 : y3.cell? ⟨w.heap.size + 1, 1, none⟩ = some (.int .i64 0) := dvb 1
  have g0 : y3.frozen? ⟨w.heap.size + 1, 0, none⟩ = false := fvb 0
  have g1 : y3.frozen? ⟨w.heap.size + 1, 1, none⟩ = false := fvb 1
  have zvb := blk_size Kvb3
  clear dvb fvb
  have r1 := setCell_row Kvb3 0 (.string ⟨v.name.toArray⟩) (cs' := #[.string ⟨v.name.toArray⟩, .int .i64 0]) rfl
  have Lvb3 := setCell_row r1 1 (.int .i64 v.n) (cs' := #[.string ⟨v.name.toArray⟩, .int .i64 v.n]) rfl
  have hR3 := (hQ3.setOther Kvb3 (by decide) nvb3 0 (.string ⟨v.name.toArray⟩)).setOther r1 (by decide) nvb3 1 (.int .i64 v.n)
  have sr3 := (sq3.setOther (g := w.heap.size + 1) (by omega) 0 (.string ⟨v.name.toArray⟩)).setOther (g := w.heap.size + 1) (by omega) 1 (.int .i64 v.n)
  have Lib3 := setCell_far (setCell_far Kib3 (g := w.heap.size + 1) (by omega) 0 (.string ⟨v.name.toArray⟩)) (g := w.heap.size + 1) (by omega) 1 (.int .i64 v.n)
  have d0 : ∀ i, ((y3.setCell ⟨w.heap.size + 1, 0, none⟩ (.string ⟨v.name.toArray⟩)).setCell ⟨w.heap.size + 1, 1, none⟩ (.int .i64 v.n)).cell? ⟨w.heap.size, i, none⟩ = (#[.int .i64 (op : Int), .int .u8 (d : Int), .int .u8 0, .int .u8 0, .int .i32 0] : Array Value)[i]? := (blk_facts Lib3).1
  have d0' := (blk_facts Kib3).1
  have q0 : ((y3.setCell ⟨w.heap.size + 1, 0, none⟩ (.string ⟨v.name.toArray⟩)).setCell ⟨w.heap.size + 1, 1, none⟩ (.int .i64 v.n)).cell? ⟨w.heap.size + 1, 0, none⟩ = some (.string ⟨v.name.toArray⟩) := (blk_facts Lvb3).1 0
  have q1 : ((y3.setCell ⟨w.heap.size + 1, 0, none⟩ (.string ⟨v.name.toArray⟩)).setCell ⟨w.heap.size + 1, 1, none⟩ (.int .i64 v.n)).cell? ⟨w.heap.size + 1, 1, none⟩ = some (.int .i64 v.n) := (blk_facts Lvb3).1 1
  have q2 : (y3.setCell ⟨w.heap.size + 1, 0, none⟩ (.string ⟨v.name.toArray⟩)).cell? ⟨w.heap.size + 1, 0, none⟩ = some (.string ⟨v.name.toArray⟩) := (blk_facts r1).1 0
  go_wp2_with fail
  clear p0 p1 g0 g1 zvb r1 d0 d0' q0 q1 q2
  generalize (y3.setCell _ _).setCell _ _ = Z at hR3 sr3 Lib3 Lvb3 ⊢
  refine (encoded_calls ⟨(op : Int), (d : Int), 0, 0, 0⟩ v Z).mono ?_
  rintro e x1 ⟨rfl, rfl⟩
  have bE : Below Z.heap.size Z ((Z.alloc (.cells (Asm.insCells ⟨(op : Int), (d : Int), 0, 0, 0⟩) 96)).alloc (.cells (Asm.valCells v) 195)) := below_alloc' (below_alloc' (Below.refl _ _) _) _
  have kI := blk_alloc (.cells (Asm.valCells v) 195) (heap_alloc_new Z (.cells (Asm.insCells ⟨(op : Int), (d : Int), 0, 0, 0⟩) 96))
  have kV := heap_alloc_new (Z.alloc (.cells (Asm.insCells ⟨(op : Int), (d : Int), 0, 0, 0⟩) 96)) (.cells (Asm.valCells v) 195)
  rw [alloc_size] at kV
  have hlt2 := hR3.ltAll
  have hn2 := hR3.b0
  have hbb := hlt2 C3.b (.inl rfl)
  have hput := put_calls C3 { S with toks := [] } ⟨hb.o0, hb.o1, hb.c, hb.puts, hb.labels, hb.pieces, hb.line0, hb.line1⟩ hm rfl hc hp ⟨(op : Int), (d : Int), 0, 0, 0⟩ v _ (hR3.kept bE) (Z.heap.size + 1) Z.heap.size kV kI (fun h => by have := hlt2 _ h; omega) (fun h => by have := hlt2 _ h; omega) (by omega) (by omega) Z (Asm.Off.of_below bE) (by omega) (by omega)
  rw [eb3] at hput
  clear bE kI kV
  go_wp2_with fail
  refine hput.mono ?_
  rintro e x2 ⟨rfl, D, hD, sD⟩
  have sE := sr3.trans sD
  go_wp2_with fail
  go_end0
  exact ⟨rfl, D, hD, sE⟩)
end Go.Proofs.YtabmlbnnhhpaoaaGreatDoor
set_option maxHeartbeats 8000000
set_option maxRecDepth 100000
namespace Go.Proofs.YtabmlbnnhhpaoaaGreatDoor
open Go.RowKit Go.Shelf
theorem instr_form5 (op : Nat) (h1 : 1 ≤ op) (h2 : op < 49) (hfo : Isa.formOf op = 5) (hnm : op < 24 ∨ 31 < op) (B : Asm.PB) (S : Asm.PS) (t0 : Asm.Tok) (d : Nat)  (hS : S.toks = [t0]) (ht0 : Asm.IsReg t0 d)
 (hb : Asm.Bnd S) (hm : Asm.markOk S = true) (hc : S.count < 4096) (hp : S.pos + 4 ≤ 4294967296) (w : World) (hP : Asm.Par B S w) :
 Calls Tryz.prog 57 #[.pointer (some ⟨B.b, 0, none⟩), .int .i64 (op : Int)] w fun e w' => e = .returned (.tuple #[]) ∧
  ∃ B', Asm.Par B' (Asm.pushed { S with toks := [] } ⟨(op : Int), (d : Int), 0, 0, 0⟩ ⟨[], 0⟩) w' ∧ Asm.Step B w B' w' := by
 have hmm := @run_makeMap Tryz.prog
 have hix : Isa.ix (op : Int) = op := by unfold Isa.ix; rw [if_pos (by omega)]; rfl
 have hfc := Form_calls (op : Int)
 rw [hix, hfo] at hfc
 have hlt := hP.ltAll
 have zb := hlt B.b (.inl rfl)
 have hn0b := hP.b0
 -- the boxes of the instruction and of the value, the map
 obtain ⟨W, W1, W2, W3, W4, W5, W6, hW, hWs, ⟨e1, e2, e3, e4, e5, e6, o6, off6, a1, a2, a3, a4, a5, a6, s1, s2, s3, s4, s5⟩, hb6, Kib6, Kvb6⟩ := instr_boxes op w
 rw [hWs] at e1
 rcases hnm with hnm | hnm
 all_goals go_enter Tryz.func57, Tryz.ntmps57
 all_goals (
  go_wp2_with fail
  refine (hfc _).mono ?_
  rintro e w7 ⟨rfl, hb7⟩
  have hlk := fields_look o6 hb7 5 (by decide) (.slice (some ⟨(W4.heap.size), 0, none⟩) 1 1) rfl
  go_wp2_with fail
  have K4 := heap_alloc_new w7 (.cells #[.int .i64 2, .int .i64 3, .int .i64 4, .int .i64 7] 147)
  have hb74 := below_next hb7 (below_alloc' (Below.refl w7.heap.size w7) (.cells #[.int .i64 2, .int .i64 3, .int .i64 4, .int .i64 7] 147))
  refine (hfc _).mono ?_
  rintro e w8 ⟨rfl, hb8⟩
  have K48 := blk_keep hb8 K4
  have hb68 := below_next hb74 hb8
  have hbw8 : Below w.heap.size w w8 := hb6.trans (hb68.mono hb6.size)
  have Kib := blk_keep hb68 Kib6
  have Kvb := blk_keep hb68 Kvb6
  have Ksl := blk_keep hb68 a5
  have hP8 := hP.kept hbw8
  have st := Asm.Step.belowAfter (Asm.Step.refl B w) hbw8
  have nib : ¬ B.owns w.heap.size := fun h => by have := hlt _ h; omega
  have nvb : ¬ B.owns (w.heap.size + 1) := fun h => by have := hlt _ h; omega
  have hslw : w.heap.size + 2 < (W4.heap.size) := by omega
  have nsl : ¬ B.owns (W4.heap.size) := fun h => by have := hlt _ h; omega
  go_wp2_with fail
  refine (contains_calls w7.heap.size 5 (by decide) _ K48).mono ?_
  rintro e w9 ⟨rfl, h9⟩
  rw [h9]
  clear h9 K48 K4 hb74 hb8 hb7 hlk
  go_wp2_with fail
  have hPs : Asm.Par B { S with toks := [t0] } w8 := by
   have h := hP8
   rw [← hS]
   exact h
  refine wp_loop_rounds 2 ?_
  rw [rounds_succ]
  obtain ⟨dsl, fsl⟩ := blk_facts Ksl
  have pq : w8.cell? ⟨(W4.heap.size), 0, none⟩ = some (.pointer (some ⟨w.heap.size, 1, none⟩)) := dsl 0
  have zq := blk_size Ksl
  clear dsl fsl
  go_wp2_with fail
  clear pq zq
  have hq := register_calls B { S with toks := [t0] } t0 [] rfl ht0.sort d ht0.reg _ hPs
  refine hq.mono ?_
  rintro e y1 ⟨rfl, C1, hQ1, sp1⟩
  clear hq
  have sq1 := st.trans sp1
  have eb1 : C1.b = B.b := sq1.b
  obtain ⟨Kib1, nib1⟩ := sp1.keep Kib nib
  obtain ⟨Kvb1, nvb1⟩ := sp1.keep Kvb nvb
  obtain ⟨Ksl1, nsl1⟩ := sp1.keep Ksl nsl
  clear hPs st Kib Kvb sp1 Ksl
  obtain ⟨dib, fib⟩ := blk_facts Kib1
  have pq : y1.cell? ⟨w.heap.size, 1, none⟩ = some (.int .u8 0) := dib 1
  have gq : y1.frozen? ⟨w.heap.size, 1, none⟩ = false := fib 1
  have zq := blk_size Kib1
  clear dib fib
  have hR1 := hQ1.setOther Kib1 (by decide) nib1 1 (.int .u8 (d : Int))
  have sr1 := sq1.setOther (g := w.heap.size) (Nat.le_refl _) 1 (.int .u8 (d : Int))
  have Lib1 := setCell_row Kib1 1 (.int .u8 (d : Int)) (cs' := #[.int .i64 (op : Int), .int .u8 (d : Int), .int .u8 0, .int .u8 0, .int .i32 0]) rfl
  have Lvb1 := setCell_far Kvb1 (g := w.heap.size) (by omega) 1 (.int .u8 (d : Int))
  have Lsl1 := setCell_far Ksl1 (g := w.heap.size) (by omega) 1 (.int .u8 (d : Int))
  go_wp2_with fail
  clear pq gq zq hQ1 sq1 Kib1 Kvb1 Ksl1
  generalize y1.setCell _ _ = Z1 at hR1 sr1 Lib1 Lvb1 Lsl1 ⊢
  rw [rounds_succ]
  obtain ⟨dib, fib⟩ := blk_facts Lib1
  obtain ⟨dvb, fvb⟩ := blk_facts Lvb1
  have zib := blk_size Lib1
  have zvb := blk_size Lvb1
  go_wp2_with fail
  refine (encoded_calls ⟨(op : Int), (d : Int), 0, 0, 0⟩ ⟨[], 0⟩ Z1).mono ?_
  rintro e x1 ⟨rfl, rfl⟩
  have bE : Below Z1.heap.size Z1 ((Z1.alloc (.cells (Asm.insCells ⟨(op : Int), (d : Int), 0, 0, 0⟩) 96)).alloc (.cells (Asm.valCells ⟨[], 0⟩) 195)) := below_alloc' (below_alloc' (Below.refl _ _) _) _
  have kI := blk_alloc (.cells (Asm.valCells ⟨[], 0⟩) 195) (heap_alloc_new Z1 (.cells (Asm.insCells ⟨(op : Int), (d : Int), 0, 0, 0⟩) 96))
  have kV := heap_alloc_new (Z1.alloc (.cells (Asm.insCells ⟨(op : Int), (d : Int), 0, 0, 0⟩) 96)) (.cells (Asm.valCells ⟨[], 0⟩) 195)
  rw [alloc_size] at kV
  have hlt2 := hR1.ltAll
  have hn2 := hR1.b0
  have hbb := hlt2 C1.b (.inl rfl)
  have hput := put_calls C1 { S with toks := [] } ⟨hb.o0, hb.o1, hb.c, hb.puts, hb.labels, hb.pieces, hb.line0, hb.line1⟩ hm rfl hc hp ⟨(op : Int), (d : Int), 0, 0, 0⟩ ⟨[], 0⟩ _ (hR1.kept bE) (Z1.heap.size + 1) Z1.heap.size kV kI (fun h => by have := hlt2 _ h; omega) (fun h => by have := hlt2 _ h; omega) (by omega) (by omega) Z1 (Asm.Off.of_below bE) (by omega) (by omega)
  rw [eb1] at hput
  clear bE kI kV
  go_wp2_with fail
  refine hput.mono ?_
  rintro e x2 ⟨rfl, D, hD, sD⟩
  have sE := sr1.trans sD
  go_wp2_with fail
  go_end0
  exact ⟨rfl, D, hD, sE⟩)
end Go.Proofs.YtabmlbnnhhpaoaaGreatDoor
set_option maxHeartbeats 8000000
set_option maxRecDepth 100000
namespace Go.Proofs.YtabmlbnnhhpaoaaGreatDoor
open Go.RowKit Go.Shelf
theorem instr_form6 (op : Nat) (h1 : 1 ≤ op) (h2 : op < 49) (hfo : Isa.formOf op = 6) (hnm : op < 24 ∨ 31 < op) (B : Asm.PB) (S : Asm.PS) (t0 : Asm.Tok) (a : Nat)  (hS : S.toks = [t0]) (ht0 : Asm.IsReg t0 a)
 (hb : Asm.Bnd S) (hm : Asm.markOk S = true) (hc : S.count < 4096) (hp : S.pos + 4 ≤ 4294967296) (w : World) (hP : Asm.Par B S w) :
 Calls Tryz.prog 57 #[.pointer (some ⟨B.b, 0, none⟩), .int .i64 (op : Int)] w fun e w' => e = .returned (.tuple #[]) ∧
  ∃ B', Asm.Par B' (Asm.pushed { S with toks := [] } ⟨(op : Int), 0, (a : Int), 0, 0⟩ ⟨[], 0⟩) w' ∧ Asm.Step B w B' w' := by
 have hmm := @run_makeMap Tryz.prog
 have hix : Isa.ix (op : Int) = op := by unfold Isa.ix; rw [if_pos (by omega)]; rfl
 have hfc := Form_calls (op : Int)
 rw [hix, hfo] at hfc
 have hlt := hP.ltAll
 have zb := hlt B.b (.inl rfl)
 have hn0b := hP.b0
 -- the boxes of the instruction and of the value, the map
 obtain ⟨W, W1, W2, W3, W4, W5, W6, hW, hWs, ⟨e1, e2, e3, e4, e5, e6, o6, off6, a1, a2, a3, a4, a5, a6, s1, s2, s3, s4, s5⟩, hb6, Kib6, Kvb6⟩ := instr_boxes op w
 rw [hWs] at e1
 rcases hnm with hnm | hnm
 all_goals go_enter Tryz.func57, Tryz.ntmps57
 all_goals (
  go_wp2_with fail
  refine (hfc _).mono ?_
  rintro e w7 ⟨rfl, hb7⟩
  have hlk := fields_look o6 hb7 6 (by decide) (.slice (some ⟨(W5.heap.size), 0, none⟩) 1 1) rfl
  go_wp2_with fail
  have K4 := heap_alloc_new w7 (.cells #[.int .i64 2, .int .i64 3, .int .i64 4, .int .i64 7] 147)
  have hb74 := below_next hb7 (below_alloc' (Below.refl w7.heap.size w7) (.cells #[.int .i64 2, .int .i64 3, .int .i64 4, .int .i64 7] 147))
  refine (hfc _).mono ?_
  rintro e w8 ⟨rfl, hb8⟩
  have K48 := blk_keep hb8 K4
  have hb68 := below_next hb74 hb8
  have hbw8 : Below w.heap.size w w8 := hb6.trans (hb68.mono hb6.size)
  have Kib := blk_keep hb68 Kib6
  have Kvb := blk_keep hb68 Kvb6
  have Ksl := blk_keep hb68 a6
  have hP8 := hP.kept hbw8
  have st := Asm.Step.belowAfter (Asm.Step.refl B w) hbw8
  have nib : ¬ B.owns w.heap.size := fun h => by have := hlt _ h; omega
  have nvb : ¬ B.owns (w.heap.size + 1) := fun h => by have := hlt _ h; omega
  have hslw : w.heap.size + 2 < (W5.heap.size) := by omega
  have nsl : ¬ B.owns (W5.heap.size) := fun h => by have := hlt _ h; omega
  go_wp2_with fail
  refine (contains_calls w7.heap.size 6 (by decide) _ K48).mono ?_
  rintro e w9 ⟨rfl, h9⟩
  rw [h9]
  clear h9 K48 K4 hb74 hb8 hb7 hlk
  go_wp2_with fail
  have hPs : Asm.Par B { S with toks := [t0] } w8 := by
   have h := hP8
   rw [← hS]
   exact h
  refine wp_loop_rounds 2 ?_
  rw [rounds_succ]
  obtain ⟨dsl, fsl⟩ := blk_facts Ksl
  have pq : w8.cell? ⟨(W5.heap.size), 0, none⟩ = some (.pointer (some ⟨w.heap.size, 2, none⟩)) := dsl 0
  have zq := blk_size Ksl
  clear dsl fsl
  go_wp2_with fail
  clear pq zq
  have hq := register_calls B { S with toks := [t0] } t0 [] rfl ht0.sort a ht0.reg _ hPs
  refine hq.mono ?_
  rintro e y1 ⟨rfl, C1, hQ1, sp1⟩
  clear hq
  have sq1 := st.trans sp1
  have eb1 : C1.b = B.b := sq1.b
  obtain ⟨Kib1, nib1⟩ := sp1.keep Kib nib
  obtain ⟨Kvb1, nvb1⟩ := sp1.keep Kvb nvb
  obtain ⟨Ksl1, nsl1⟩ := sp1.keep Ksl nsl
  clear hPs st Kib Kvb sp1 Ksl
  obtain ⟨dib, fib⟩ := blk_facts Kib1
  have pq : y1.cell? ⟨w.heap.size, 2, none⟩ = some (.int .u8 0) := dib 2
  have gq : y1.frozen? ⟨w.heap.size, 2, none⟩ = false := fib 2
  have zq := blk_size Kib1
  clear dib fib
  have hR1 := hQ1.setOther Kib1 (by decide) nib1 2 (.int .u8 (a : Int))
  have sr1 := sq1.setOther (g := w.heap.size) (Nat.le_refl _) 2 (.int .u8 (a : Int))
  have Lib1 := setCell_row Kib1 2 (.int .u8 (a : Int)) (cs' := #[.int .i64 (op : Int), .int .u8 0, .int .u8 (a : Int), .int .u8 0, .int .i32 0]) rfl
  have Lvb1 := setCell_far Kvb1 (g := w.heap.size) (by omega) 2 (.int .u8 (a : Int))
  have Lsl1 := setCell_far Ksl1 (g := w.heap.size) (by omega) 2 (.int .u8 (a : Int))
  go_wp2_with fail
  clear pq gq zq hQ1 sq1 Kib1 Kvb1 Ksl1
  generalize y1.setCell _ _ = Z1 at hR1 sr1 Lib1 Lvb1 Lsl1 ⊢
  rw [rounds_succ]
  obtain ⟨dib, fib⟩ := blk_facts Lib1
  obtain ⟨dvb, fvb⟩ := blk_facts Lvb1
  have zib := blk_size Lib1
  have zvb := blk_size Lvb1
  go_wp2_with fail
  refine (encoded_calls ⟨(op : Int), 0, (a : Int), 0, 0⟩ ⟨[], 0⟩ Z1).mono ?_
  rintro e x1 ⟨rfl, rfl⟩
  have bE : Below Z1.heap.size Z1 ((Z1.alloc (.cells (Asm.insCells ⟨(op : Int), 0, (a : Int), 0, 0⟩) 96)).alloc (.cells (Asm.valCells ⟨[], 0⟩) 195)) := below_alloc' (below_alloc' (Below.refl _ _) _) _
  have kI := blk_alloc (.cells (Asm.valCells ⟨[], 0⟩) 195) (heap_alloc_new Z1 (.cells (Asm.insCells ⟨(op : Int), 0, (a : Int), 0, 0⟩) 96))
  have kV := heap_alloc_new (Z1.alloc (.cells (Asm.insCells ⟨(op : Int), 0, (a : Int), 0, 0⟩) 96)) (.cells (Asm.valCells ⟨[], 0⟩) 195)
  rw [alloc_size] at kV
  have hlt2 := hR1.ltAll
  have hn2 := hR1.b0
  have hbb := hlt2 C1.b (.inl rfl)
  have hput := put_calls C1 { S with toks := [] } ⟨hb.o0, hb.o1, hb.c, hb.puts, hb.labels, hb.pieces, hb.line0, hb.line1⟩ hm rfl hc hp ⟨(op : Int), 0, (a : Int), 0, 0⟩ ⟨[], 0⟩ _ (hR1.kept bE) (Z1.heap.size + 1) Z1.heap.size kV kI (fun h => by have := hlt2 _ h; omega) (fun h => by have := hlt2 _ h; omega) (by omega) (by omega) Z1 (Asm.Off.of_below bE) (by omega) (by omega)
  rw [eb1] at hput
  clear bE kI kV
  go_wp2_with fail
  refine hput.mono ?_
  rintro e x2 ⟨rfl, D, hD, sD⟩
  have sE := sr1.trans sD
  go_wp2_with fail
  go_end0
  exact ⟨rfl, D, hD, sE⟩)
end Go.Proofs.YtabmlbnnhhpaoaaGreatDoor
set_option maxHeartbeats 8000000
set_option maxRecDepth 100000
namespace Go.Proofs.YtabmlbnnhhpaoaaGreatDoor
open Go.RowKit Go.Shelf
theorem instr_form7 (op : Nat) (h1 : 1 ≤ op) (h2 : op < 49) (hfo : Isa.formOf op = 7) (hnm : op < 24 ∨ 31 < op) (B : Asm.PB) (S : Asm.PS) (tv : Asm.Tok)  (v : Asm.Val) (hS : S.toks = [tv]) (htv : Asm.TokVal tv v)
 (hb : Asm.Bnd S) (hm : Asm.markOk S = true) (hc : S.count < 4096) (hp : S.pos + 4 ≤ 4294967296) (w : World) (hP : Asm.Par B S w) :
 Calls Tryz.prog 57 #[.pointer (some ⟨B.b, 0, none⟩), .int .i64 (op : Int)] w fun e w' => e = .returned (.tuple #[]) ∧
  ∃ B', Asm.Par B' (Asm.pushed { S with toks := [] } ⟨(op : Int), 0, 0, 0, 0⟩ v) w' ∧ Asm.Step B w B' w' := by
 have hmm := @run_makeMap Tryz.prog
 have hix : Isa.ix (op : Int) = op := by unfold Isa.ix; rw [if_pos (by omega)]; rfl
 have hfc := Form_calls (op : Int)
 rw [hix, hfo] at hfc
 have hlt := hP.ltAll
 have zb := hlt B.b (.inl rfl)
 have hn0b := hP.b0
 -- the boxes of the instruction and of the value, the map
 obtain ⟨W, W1, W2, W3, W4, W5, W6, hW, hWs, ⟨e1, e2, e3, e4, e5, e6, o6, off6, a1, a2, a3, a4, a5, a6, s1, s2, s3, s4, s5⟩, hb6, Kib6, Kvb6⟩ := instr_boxes op w
 rw [hWs] at e1
 rcases hnm with hnm | hnm
 all_goals go_enter Tryz.func57, Tryz.ntmps57
 all_goals (
  go_wp2_with fail
  refine (hfc _).mono ?_
  rintro e w7 ⟨rfl, hb7⟩
  have hlk := fields_look o6 hb7 7 (by decide) (.slice none 0 0) rfl
  go_wp2_with fail
  have K4 := heap_alloc_new w7 (.cells #[.int .i64 2, .int .i64 3, .int .i64 4, .int .i64 7] 147)
  have hb74 := below_next hb7 (below_alloc' (Below.refl w7.heap.size w7) (.cells #[.int .i64 2, .int .i64 3, .int .i64 4, .int .i64 7] 147))
  refine (hfc _).mono ?_
  rintro e w8 ⟨rfl, hb8⟩
  have K48 := blk_keep hb8 K4
  have hb68 := below_next hb74 hb8
  have hbw8 : Below w.heap.size w w8 := hb6.trans (hb68.mono hb6.size)
  have Kib := blk_keep hb68 Kib6
  have Kvb := blk_keep hb68 Kvb6
  have hP8 := hP.kept hbw8
  have st := Asm.Step.belowAfter (Asm.Step.refl B w) hbw8
  have nib : ¬ B.owns w.heap.size := fun h => by have := hlt _ h; omega
  have nvb : ¬ B.owns (w.heap.size + 1) := fun h => by have := hlt _ h; omega
  go_wp2_with fail
  refine (contains_calls w7.heap.size 7 (by decide) _ K48).mono ?_
  rintro e w9 ⟨rfl, h9⟩
  rw [h9]
  clear h9 K48 K4 hb74 hb8 hb7 hlk
  go_wp2_with fail
  have hPs : Asm.Par B { S with toks := [tv] } w8 := by
   have h := hP8
   rw [← hS]
   exact h
  refine wp_loop_rounds 1 ?_
  rw [rounds_succ]
  go_wp2_with fail
  have hq := value_calls B { S with toks := [tv] } tv [] v rfl htv _ hPs
  refine hq.mono ?_
  rintro e y1 ⟨rfl, C1, hQ1, sp1⟩
  clear hq
  have sq1 := st.trans sp1
  have eb1 : C1.b = B.b := sq1.b
  obtain ⟨Kib1, nib1⟩ := sp1.keep Kib nib
  obtain ⟨Kvb1, nvb1⟩ := sp1.keep Kvb nvb
  clear hPs st Kib Kvb sp1
  obtain ⟨dvb, fvb⟩ := blk_facts Kvb1
  have p0 : y1.cell? ⟨w.heap.size + 1, 0, none⟩ = some (.string ⟨#[]⟩) := dvb 0
  have p1 : y1.cell? ⟨w.heap.size + 1, 1, none⟩ = some (.int .i64 0) := dvb 1
  have g0 : y1.frozen? ⟨w.heap.size + 1, 0, none⟩ = false := fvb 0
  have g1 : y1.frozen? ⟨w.heap.size + 1, 1, none⟩ = false := fvb 1
  have zvb := blk_size Kvb1
  clear dvb fvb
  have r1 := setCell_row Kvb1 0 (.string ⟨v.name.toArray⟩) (cs' := #[.string ⟨v.name.toArray⟩, .int .i64 0]) rfl
  have Lvb1 := setCell_row r1 1 (.int .i64 v.n) (cs' := #[.string ⟨v.name.toArray⟩, .int .i64 v.n]) rfl
  have hR1 := (hQ1.setOther Kvb1 (by decide) nvb1 0 (.string ⟨v.name.toArray⟩)).setOther r1 (by decide) nvb1 1 (.int .i64 v.n)
  have sr1 := (sq1.setOther (g := w.heap.size + 1) (by omega) 0 (.string ⟨v.name.toArray⟩)).setOther (g := w.heap.size + 1) (by omega) 1 (.int .i64 v.n)
  have Lib1 := setCell_far (setCell_far Kib1 (g := w.heap.size + 1) (by omega) 0 (.string ⟨v.name.toArray⟩)) (g := w.heap.size + 1) (by omega) 1 (.int .i64 v.n)
  have d0 : ∀ i, ((y1.setCell ⟨w.heap.size + 1, 0, none⟩ (.string ⟨v.name.toArray⟩)).setCell ⟨w.heap.size + 1, 1, none⟩ (.int .i64 v.n)).cell? ⟨w.heap.size, i, none⟩ = (#[.int .i64 (op : Int), .int .u8 0, .int .u8 0, .int .u8 0, .int .i32 0] : Array Value)[i]? := (blk_facts Lib1).1
  have d0' := (blk_facts Kib1).1
  have q0 : ((y1.setCell ⟨w.heap.size + 1, 0, none⟩ (.string ⟨v.name.toArray⟩)).setCell ⟨w.heap.size + 1, 1, none⟩ (.int .i64 v.n)).cell? ⟨w.heap.size + 1, 0, none⟩ = some (.string ⟨v.name.toArray⟩) := (blk_facts Lvb1).1 0
  have q1 : ((y1.setCell ⟨w.heap.size + 1, 0, none⟩ (.string ⟨v.name.toArray⟩)).setCell ⟨w.heap.size + 1, 1, none⟩ (.int .i64 v.n)).cell? ⟨w.heap.size + 1, 1, none⟩ = some (.int .i64 v.n) := (blk_facts Lvb1).1 1
  have q2 : (y1.setCell ⟨w.heap.size + 1, 0, none⟩ (.string ⟨v.name.toArray⟩)).cell? ⟨w.heap.size + 1, 0, none⟩ = some (.string ⟨v.name.toArray⟩) := (blk_facts r1).1 0
  go_wp2_with fail
  clear p0 p1 g0 g1 zvb r1 d0 d0' q0 q1 q2
  generalize (y1.setCell _ _).setCell _ _ = Z at hR1 sr1 Lib1 Lvb1 ⊢
  refine (encoded_calls ⟨(op : Int), 0, 0, 0, 0⟩ v Z).mono ?_
  rintro e x1 ⟨rfl, rfl⟩
  have bE : Below Z.heap.size Z ((Z.alloc (.cells (Asm.insCells ⟨(op : Int), 0, 0, 0, 0⟩) 96)).alloc (.cells (Asm.valCells v) 195)) := below_alloc' (below_alloc' (Below.refl _ _) _) _
  have kI := blk_alloc (.cells (Asm.valCells v) 195) (heap_alloc_new Z (.cells (Asm.insCells ⟨(op : Int), 0, 0, 0, 0⟩) 96))
  have kV := heap_alloc_new (Z.alloc (.cells (Asm.insCells ⟨(op : Int), 0, 0, 0, 0⟩) 96)) (.cells (Asm.valCells v) 195)
  rw [alloc_size] at kV
  have hlt2 := hR1.ltAll
  have hn2 := hR1.b0
  have hbb := hlt2 C1.b (.inl rfl)
  have hput := put_calls C1 { S with toks := [] } ⟨hb.o0, hb.o1, hb.c, hb.puts, hb.labels, hb.pieces, hb.line0, hb.line1⟩ hm rfl hc hp ⟨(op : Int), 0, 0, 0, 0⟩ v _ (hR1.kept bE) (Z.heap.size + 1) Z.heap.size kV kI (fun h => by have := hlt2 _ h; omega) (fun h => by have := hlt2 _ h; omega) (by omega) (by omega) Z (Asm.Off.of_below bE) (by omega) (by omega)
  rw [eb1] at hput
  clear bE kI kV
  go_wp2_with fail
  refine hput.mono ?_
  rintro e x2 ⟨rfl, D, hD, sD⟩
  have sE := sr1.trans sD
  go_wp2_with fail
  go_end0
  exact ⟨rfl, D, hD, sE⟩)
end Go.Proofs.YtabmlbnnhhpaoaaGreatDoor
set_option maxHeartbeats 8000000
set_option maxRecDepth 100000
namespace Go.Proofs.YtabmlbnnhhpaoaaGreatDoor
open Go.RowKit Go.Shelf
theorem instr_form9 (op : Nat) (h1 : 24 ≤ op) (h2 : op ≤ 31) (hfo : Isa.formOf op = 2) (B : Asm.PB) (S : Asm.PS) (tr c1 tv c2 ta c3 : Asm.Tok) (d a : Nat) (v : Asm.Val) (hS : S.toks = [tr, c1, tv, c2, ta, c3]) (htr : Asm.IsReg tr d) (hc1 : Asm.IsSign c1 44) (htv : Asm.TokVal tv v) (hc2 : Asm.IsSign c2 40) (hta : Asm.IsReg ta a) (hc3 : Asm.IsSign c3 41)
 (hb : Asm.Bnd S) (hm : Asm.markOk S = true) (hc : S.count < 4096) (hp : S.pos + 4 ≤ 4294967296) (w : World) (hP : Asm.Par B S w) :
 Calls Tryz.prog 57 #[.pointer (some ⟨B.b, 0, none⟩), .int .i64 (op : Int)] w fun e w' => e = .returned (.tuple #[]) ∧
  ∃ B', Asm.Par B' (Asm.pushed { S with toks := [] } ⟨(op : Int), (d : Int), (a : Int), 0, 0⟩ v) w' ∧ Asm.Step B w B' w' := by
 have hmm := @run_makeMap Tryz.prog
 have hix : Isa.ix (op : Int) = op := by unfold Isa.ix; rw [if_pos (by omega)]; rfl
 have hfc := Form_calls (op : Int)
 rw [hix, hfo] at hfc
 have hlt := hP.ltAll
 have zb := hlt B.b (.inl rfl)
 have hn0b := hP.b0
 -- the boxes of the instruction and of the value, the map
 obtain ⟨W, W1, W2, W3, W4, W5, W6, hW, hWs, ⟨e1, e2, e3, e4, e5, e6, o6, off6, a1, a2, a3, a4, a5, a6, s1, s2, s3, s4, s5⟩, hb6, Kib6, Kvb6⟩ := instr_boxes op w
 rw [hWs] at e1
 go_enter Tryz.func57, Tryz.ntmps57
 all_goals (
  go_wp2_with fail
  refine (hfc _).mono ?_
  rintro e w7 ⟨rfl, hb7⟩
  have hlk := fields_look o6 hb7 2 (by decide) (.slice (some ⟨(W1.heap.size), 0, none⟩) 2 2) rfl
  go_wp2_with fail
  have K4 := heap_alloc_new w7 (.cells #[.int .i64 2, .int .i64 3, .int .i64 4, .int .i64 7] 147)
  have hb74 := below_next hb7 (below_alloc' (Below.refl w7.heap.size w7) (.cells #[.int .i64 2, .int .i64 3, .int .i64 4, .int .i64 7] 147))
  refine (hfc _).mono ?_
  rintro e w8 ⟨rfl, hb8⟩
  have K48 := blk_keep hb8 K4
  have hb68 := below_next hb74 hb8
  go_wp2_with fail
  refine (contains_calls w7.heap.size 2 (by decide) _ K48).mono ?_
  rintro e w9 ⟨rfl, h9⟩
  rw [h9]
  clear h9 K48 K4 hb74 hb8 hb7 hlk
  go_wp2_with fail
  refine (hfc _).mono ?_
  rintro e w10 ⟨rfl, hb10⟩
  have hb610 := below_next hb68 hb10
  have hbw := hb6.trans (hb610.mono hb6.size)
  have Kib := blk_keep hb610 Kib6
  have Kvb := blk_keep hb610 Kvb6
  have st := Asm.Step.belowAfter (Asm.Step.refl B w) hbw
  have nib : ¬ B.owns w.heap.size := fun h => by have := hlt _ h; omega
  have nvb : ¬ B.owns (w.heap.size + 1) := fun h => by have := hlt _ h; omega
  have hPs : Asm.Par B { S with toks := [tr, c1, tv, c2, ta, c3] } w10 := by
   have h := hP.kept hbw
   rw [← hS]
   exact h
  clear hb68 hb10 hb610 hbw
  go_wp2_with fail
  have hq := register_calls B { S with toks := [tr, c1, tv, c2, ta, c3] } tr [c1, tv, c2, ta, c3] rfl htr.sort d htr.reg _ hPs
  refine hq.mono ?_
  rintro e y1 ⟨rfl, C1, hQ1, sp1⟩
  clear hq
  have sq1 := st.trans sp1
  have eb1 : C1.b = B.b := sq1.b
  obtain ⟨Kib1, nib1⟩ := sp1.keep Kib nib
  obtain ⟨Kvb1, nvb1⟩ := sp1.keep Kvb nvb
  clear hPs st Kib Kvb sp1
  obtain ⟨dib, fib⟩ := blk_facts Kib1
  have pq : y1.cell? ⟨w.heap.size, 1, none⟩ = some (.int .u8 0) := dib 1
  have gq : y1.frozen? ⟨w.heap.size, 1, none⟩ = false := fib 1
  have zq := blk_size Kib1
  clear dib fib
  have hR1 := hQ1.setOther Kib1 (by decide) nib1 1 (.int .u8 (d : Int))
  have sr1 := sq1.setOther (g := w.heap.size) (Nat.le_refl _) 1 (.int .u8 (d : Int))
  have Lib1 := setCell_row Kib1 1 (.int .u8 (d : Int)) (cs' := #[.int .i64 (op : Int), .int .u8 (d : Int), .int .u8 0, .int .u8 0, .int .i32 0]) rfl
  have Lvb1 := setCell_far Kvb1 (g := w.heap.size) (by omega) 1 (.int .u8 (d : Int))
  go_wp2_with fail
  clear pq gq zq hQ1 sq1 Kib1 Kvb1
  generalize y1.setCell _ _ = Z1 at hR1 sr1 Lib1 Lvb1 ⊢
  have hq := comma_calls C1 { S with toks := [c1, tv, c2, ta, c3] } c1 [tv, c2, ta, c3] 44 rfl hc1 _ hR1
  rw [eb1] at hq
  refine hq.mono ?_
  rintro e y2 ⟨rfl, C2, hQ2, sp2⟩
  clear hq
  have sq2 := sr1.trans sp2
  have eb2 : C2.b = B.b := sq2.b
  obtain ⟨Kib2, nib2⟩ := sp2.keep Lib1 nib1
  obtain ⟨Kvb2, nvb2⟩ := sp2.keep Lvb1 nvb1
  clear hR1 sr1 Lib1 Lvb1 sp2
  go_wp2_with fail
  have hq := value_calls C2 { S with toks := [tv, c2, ta, c3] } tv [c2, ta, c3] v rfl htv _ hQ2
  rw [eb2] at hq
  refine hq.mono ?_
  rintro e y3 ⟨rfl, C3, hQ3, sp3⟩
  clear hq
  have sq3 := sq2.trans sp3
  have eb3 : C3.b = B.b := sq3.b
  obtain ⟨Kib3, nib3⟩ := sp3.keep Kib2 nib2
  obtain ⟨Kvb3, nvb3⟩ := sp3.keep Kvb2 nvb2
  clear hQ2 sq2 Kib2 Kvb2 sp3
  obtain ⟨dvb, fvb⟩ := blk_facts Kvb3
  have p0 : y3.cell? ⟨w.heap.size + 1, 0, none⟩ = some (.string ⟨#[]⟩) := dvb 0
  have p1 : y3.cell? ⟨w.heap.size + 1, 1, none⟩ = some (.int .i64 0) := dvb 1
  have g0 : y3.frozen? ⟨w.heap.size + 1, 0, none⟩ = false := fvb 0
  have g1 : y3.frozen? ⟨w.heap.size + 1, 1, none⟩ = false := fvb 1
  have zvb := blk_size Kvb3
  clear dvb fvb
  have r1 := setCell_row Kvb3 0 (.string ⟨v.name.toArray⟩) (cs' := #[.string ⟨v.name.toArray⟩, .int .i64 0]) rfl
  have Lvb3 := setCell_row r1 1 (.int .i64 v.n) (cs' := #[.string ⟨v.name.toArray⟩, .int .i64 v.n]) rfl
  have hR3 := (hQ3.setOther Kvb3 (by decide) nvb3 0 (.string ⟨v.name.toArray⟩)).setOther r1 (by decide) nvb3 1 (.int .i64 v.n)
  have sr3 := (sq3.setOther (g := w.heap.size + 1) (by omega) 0 (.string ⟨v.name.toArray⟩)).setOther (g := w.heap.size + 1) (by omega) 1 (.int .i64 v.n)
  have Lib3 := setCell_far (setCell_far Kib3 (g := w.heap.size + 1) (by omega) 0 (.string ⟨v.name.toArray⟩)) (g := w.heap.size + 1) (by omega) 1 (.int .i64 v.n)
  go_wp2_with fail
  clear p0 p1 g0 g1 zvb r1 hQ3 sq3 Kib3 Kvb3
  generalize (y3.setCell _ _).setCell _ _ = Z3 at hR3 sr3 Lib3 Lvb3 ⊢
  have hq := comma_calls C3 { S with toks := [c2, ta, c3] } c2 [ta, c3] 40 rfl hc2 _ hR3
  rw [eb3] at hq
  refine hq.mono ?_
  rintro e y4 ⟨rfl, C4, hQ4, sp4⟩
  clear hq
  have sq4 := sr3.trans sp4
  have eb4 : C4.b = B.b := sq4.b
  obtain ⟨Kib4, nib4⟩ := sp4.keep Lib3 nib3
  obtain ⟨Kvb4, nvb4⟩ := sp4.keep Lvb3 nvb3
  clear hR3 sr3 Lib3 Lvb3 sp4
  go_wp2_with fail
  have hq := register_calls C4 { S with toks := [ta, c3] } ta [c3] rfl hta.sort a hta.reg _ hQ4
  rw [eb4] at hq
  refine hq.mono ?_
  rintro e y5 ⟨rfl, C5, hQ5, sp5⟩
  clear hq
  have sq5 := sq4.trans sp5
  have eb5 : C5.b = B.b := sq5.b
  obtain ⟨Kib5, nib5⟩ := sp5.keep Kib4 nib4
  obtain ⟨Kvb5, nvb5⟩ := sp5.keep Kvb4 nvb4
  clear hQ4 sq4 Kib4 Kvb4 sp5
  obtain ⟨dib, fib⟩ := blk_facts Kib5
  have pq : y5.cell? ⟨w.heap.size, 2, none⟩ = some (.int .u8 0) := dib 2
  have gq : y5.frozen? ⟨w.heap.size, 2, none⟩ = false := fib 2
  have zq := blk_size Kib5
  clear dib fib
  have hR5 := hQ5.setOther Kib5 (by decide) nib5 2 (.int .u8 (a : Int))
  have sr5 := sq5.setOther (g := w.heap.size) (Nat.le_refl _) 2 (.int .u8 (a : Int))
  have Lib5 := setCell_row Kib5 2 (.int .u8 (a : Int)) (cs' := #[.int .i64 (op : Int), .int .u8 (d : Int), .int .u8 (a : Int), .int .u8 0, .int .i32 0]) rfl
  have Lvb5 := setCell_far Kvb5 (g := w.heap.size) (by omega) 2 (.int .u8 (a : Int))
  go_wp2_with fail
  clear pq gq zq hQ5 sq5 Kib5 Kvb5
  generalize y5.setCell _ _ = Z5 at hR5 sr5 Lib5 Lvb5 ⊢
  have hq := comma_calls C5 { S with toks := [c3] } c3 [] 41 rfl hc3 _ hR5
  rw [eb5] at hq
  refine hq.mono ?_
  rintro e y6 ⟨rfl, C6, hQ6, sp6⟩
  clear hq
  have sq6 := sr5.trans sp6
  have eb6 : C6.b = B.b := sq6.b
  obtain ⟨Kib6', nib6⟩ := sp6.keep Lib5 nib5
  obtain ⟨Kvb6', nvb6⟩ := sp6.keep Lvb5 nvb5
  clear hR5 sr5 Lib5 Lvb5 sp6
  have d0 := (blk_facts Kib6').1
  have q0 : y6.cell? ⟨w.heap.size + 1, 0, none⟩ = some (.string ⟨v.name.toArray⟩) := (blk_facts Kvb6').1 0
  have q1 : y6.cell? ⟨w.heap.size + 1, 1, none⟩ = some (.int .i64 v.n) := (blk_facts Kvb6').1 1
  go_wp2_with fail
  clear d0 q0 q1
  refine (encoded_calls ⟨(op : Int), (d : Int), (a : Int), 0, 0⟩ v y6).mono ?_
  rintro e x1 ⟨rfl, rfl⟩
  have bE : Below y6.heap.size y6 ((y6.alloc (.cells (Asm.insCells ⟨(op : Int), (d : Int), (a : Int), 0, 0⟩) 96)).alloc (.cells (Asm.valCells v) 195)) := below_alloc' (below_alloc' (Below.refl _ _) _) _
  have kI := blk_alloc (.cells (Asm.valCells v) 195) (heap_alloc_new y6 (.cells (Asm.insCells ⟨(op : Int), (d : Int), (a : Int), 0, 0⟩) 96))
  have kV := heap_alloc_new (y6.alloc (.cells (Asm.insCells ⟨(op : Int), (d : Int), (a : Int), 0, 0⟩) 96)) (.cells (Asm.valCells v) 195)
  rw [alloc_size] at kV
  have hlt2 := hQ6.ltAll
  have hn2 := hQ6.b0
  have hbb := hlt2 C6.b (.inl rfl)
  have hput := put_calls C6 { S with toks := [] } ⟨hb.o0, hb.o1, hb.c, hb.puts, hb.labels, hb.pieces, hb.line0, hb.line1⟩ hm rfl hc hp ⟨(op : Int), (d : Int), (a : Int), 0, 0⟩ v _ (hQ6.kept bE) (y6.heap.size + 1) y6.heap.size kV kI (fun h => by have := hlt2 _ h; omega) (fun h => by have := hlt2 _ h; omega) (by omega) (by omega) y6 (Asm.Off.of_below bE) (by omega) (by omega)
  rw [eb6] at hput
  clear bE kI kV
  go_wp2_with fail
  refine hput.mono ?_
  rintro e x2 ⟨rfl, D, hD, sD⟩
  have sE := sq6.trans sD
  go_wp2_with fail
  go_end0
  exact ⟨rfl, D, hD, sE⟩)
end Go.Proofs.YtabmlbnnhhpaoaaGreatDoor
set_option maxHeartbeats 8000000
set_option maxRecDepth 100000
namespace Go.Proofs.YtabmlbnnhhpaoaaGreatDoor
open Go.RowKit Go.Shelf
theorem instr_form10 (op : Nat) (h1 : 24 ≤ op) (h2 : op ≤ 31) (hfo : Isa.formOf op = 3) (B : Asm.PB) (S : Asm.PS) (tr c1 tv c2 ta c3 : Asm.Tok) (b a : Nat) (v : Asm.Val) (hS : S.toks = [tr, c1, tv, c2, ta, c3]) (htr : Asm.IsReg tr b) (hc1 : Asm.IsSign c1 44) (htv : Asm.TokVal tv v) (hc2 : Asm.IsSign c2 40) (hta : Asm.IsReg ta a) (hc3 : Asm.IsSign c3 41)
 (hb : Asm.Bnd S) (hm : Asm.markOk S = true) (hc : S.count < 4096) (hp : S.pos + 4 ≤ 4294967296) (w : World) (hP : Asm.Par B S w) :
 Calls Tryz.prog 57 #[.pointer (some ⟨B.b, 0, none⟩), .int .i64 (op : Int)] w fun e w' => e = .returned (.tuple #[]) ∧
  ∃ B', Asm.Par B' (Asm.pushed { S with toks := [] } ⟨(op : Int), 0, (a : Int), (b : Int), 0⟩ v) w' ∧ Asm.Step B w B' w' := by
 have hmm := @run_makeMap Tryz.prog
 have hix : Isa.ix (op : Int) = op := by unfold Isa.ix; rw [if_pos (by omega)]; rfl
 have hfc := Form_calls (op : Int)
 rw [hix, hfo] at hfc
 have hlt := hP.ltAll
 have zb := hlt B.b (.inl rfl)
 have hn0b := hP.b0
 -- the boxes of the instruction and of the value, the map
 obtain ⟨W, W1, W2, W3, W4, W5, W6, hW, hWs, ⟨e1, e2, e3, e4, e5, e6, o6, off6, a1, a2, a3, a4, a5, a6, s1, s2, s3, s4, s5⟩, hb6, Kib6, Kvb6⟩ := instr_boxes op w
 rw [hWs] at e1
 go_enter Tryz.func57, Tryz.ntmps57
 all_goals (
  go_wp2_with fail
  refine (hfc _).mono ?_
  rintro e w7 ⟨rfl, hb7⟩
  have hlk := fields_look o6 hb7 3 (by decide) (.slice (some ⟨(W2.heap.size), 0, none⟩) 2 2) rfl
  go_wp2_with fail
  have K4 := heap_alloc_new w7 (.cells #[.int .i64 2, .int .i64 3, .int .i64 4, .int .i64 7] 147)
  have hb74 := below_next hb7 (below_alloc' (Below.refl w7.heap.size w7) (.cells #[.int .i64 2, .int .i64 3, .int .i64 4, .int .i64 7] 147))
  refine (hfc _).mono ?_
  rintro e w8 ⟨rfl, hb8⟩
  have K48 := blk_keep hb8 K4
  have hb68 := below_next hb74 hb8
  go_wp2_with fail
  refine (contains_calls w7.heap.size 3 (by decide) _ K48).mono ?_
  rintro e w9 ⟨rfl, h9⟩
  rw [h9]
  clear h9 K48 K4 hb74 hb8 hb7 hlk
  go_wp2_with fail
  refine (hfc _).mono ?_
  rintro e w10 ⟨rfl, hb10⟩
  have hb610 := below_next hb68 hb10
  have hbw := hb6.trans (hb610.mono hb6.size)
  have Kib := blk_keep hb610 Kib6
  have Kvb := blk_keep hb610 Kvb6
  have st := Asm.Step.belowAfter (Asm.Step.refl B w) hbw
  have nib : ¬ B.owns w.heap.size := fun h => by have := hlt _ h; omega
  have nvb : ¬ B.owns (w.heap.size + 1) := fun h => by have := hlt _ h; omega
  have hPs : Asm.Par B { S with toks := [tr, c1, tv, c2, ta, c3] } w10 := by
   have h := hP.kept hbw
   rw [← hS]
   exact h
  clear hb68 hb10 hb610 hbw
  go_wp2_with fail
  have hq := register_calls B { S with toks := [tr, c1, tv, c2, ta, c3] } tr [c1, tv, c2, ta, c3] rfl htr.sort b htr.reg _ hPs
  refine hq.mono ?_
  rintro e y1 ⟨rfl, C1, hQ1, sp1⟩
  clear hq
  have sq1 := st.trans sp1
  have eb1 : C1.b = B.b := sq1.b
  obtain ⟨Kib1, nib1⟩ := sp1.keep Kib nib
  obtain ⟨Kvb1, nvb1⟩ := sp1.keep Kvb nvb
  clear hPs st Kib Kvb sp1
  obtain ⟨dib, fib⟩ := blk_facts Kib1
  have pq : y1.cell? ⟨w.heap.size, 3, none⟩ = some (.int .u8 0) := dib 3
  have gq : y1.frozen? ⟨w.heap.size, 3, none⟩ = false := fib 3
  have zq := blk_size Kib1
  clear dib fib
  have hR1 := hQ1.setOther Kib1 (by decide) nib1 3 (.int .u8 (b : Int))
  have sr1 := sq1.setOther (g := w.heap.size) (Nat.le_refl _) 3 (.int .u8 (b : Int))
  have Lib1 := setCell_row Kib1 3 (.int .u8 (b : Int)) (cs' := #[.int .i64 (op : Int), .int .u8 0, .int .u8 0, .int .u8 (b : Int), .int .i32 0]) rfl
  have Lvb1 := setCell_far Kvb1 (g := w.heap.size) (by omega) 3 (.int .u8 (b : Int))
  go_wp2_with fail
  clear pq gq zq hQ1 sq1 Kib1 Kvb1
  generalize y1.setCell _ _ = Z1 at hR1 sr1 Lib1 Lvb1 ⊢
  have hq := comma_calls C1 { S with toks := [c1, tv, c2, ta, c3] } c1 [tv, c2, ta, c3] 44 rfl hc1 _ hR1
  rw [eb1] at hq
  refine hq.mono ?_
  rintro e y2 ⟨rfl, C2, hQ2, sp2⟩
  clear hq
  have sq2 := sr1.trans sp2
  have eb2 : C2.b = B.b := sq2.b
  obtain ⟨Kib2, nib2⟩ := sp2.keep Lib1 nib1
  obtain ⟨Kvb2, nvb2⟩ := sp2.keep Lvb1 nvb1
  clear hR1 sr1 Lib1 Lvb1 sp2
  go_wp2_with fail
  have hq := value_calls C2 { S with toks := [tv, c2, ta, c3] } tv [c2, ta, c3] v rfl htv _ hQ2
  rw [eb2] at hq
  refine hq.mono ?_
  rintro e y3 ⟨rfl, C3, hQ3, sp3⟩
  clear hq
  have sq3 := sq2.trans sp3
  have eb3 : C3.b = B.b := sq3.b
  obtain ⟨Kib3, nib3⟩ := sp3.keep Kib2 nib2
  obtain ⟨Kvb3, nvb3⟩ := sp3.keep Kvb2 nvb2
  clear hQ2 sq2 Kib2 Kvb2 sp3
  obtain ⟨dvb, fvb⟩ := blk_facts Kvb3
  have p0 : y3.cell? ⟨w.heap.size + 1, 0, none⟩ = some (.string ⟨#[]⟩) := dvb 0
  have p1 : y3.cell? ⟨w.heap.size + 1, 1, none⟩ = some (.int .i64 0) := dvb 1
  have g0 : y3.frozen? ⟨w.heap.size + 1, 0, none⟩ = false := fvb 0
  have g1 : y3.frozen? ⟨w.heap.size + 1, 1, none⟩ = false := fvb 1
  have zvb := blk_size Kvb3
  clear dvb fvb
  have r1 := setCell_row Kvb3 0 (.string ⟨v.name.toArray⟩) (cs' := #[.string ⟨v.name.toArray⟩, .int .i64 0]) rfl
  have Lvb3 := setCell_row r1 1 (.int .i64 v.n) (cs' := #[.string ⟨v.name.toArray⟩, .int .i64 v.n]) rfl
  have hR3 := (hQ3.setOther Kvb3 (by decide) nvb3 0 (.string ⟨v.name.toArray⟩)).setOther r1 (by decide) nvb3 1 (.int .i64 v.n)
  have sr3 := (sq3.setOther (g := w.heap.size + 1) (by omega) 0 (.string ⟨v.name.toArray⟩)).setOther (g := w.heap.size + 1) (by omega) 1 (.int .i64 v.n)
  have Lib3 := setCell_far (setCell_far Kib3 (g := w.heap.size + 1) (by omega) 0 (.string ⟨v.name.toArray⟩)) (g := w.heap.size + 1) (by omega) 1 (.int .i64 v.n)
  go_wp2_with fail
  clear p0 p1 g0 g1 zvb r1 hQ3 sq3 Kib3 Kvb3
  generalize (y3.setCell _ _).setCell _ _ = Z3 at hR3 sr3 Lib3 Lvb3 ⊢
  have hq := comma_calls C3 { S with toks := [c2, ta, c3] } c2 [ta, c3] 40 rfl hc2 _ hR3
  rw [eb3] at hq
  refine hq.mono ?_
  rintro e y4 ⟨rfl, C4, hQ4, sp4⟩
  clear hq
  have sq4 := sr3.trans sp4
  have eb4 : C4.b = B.b := sq4.b
  obtain ⟨Kib4, nib4⟩ := sp4.keep Lib3 nib3
  obtain ⟨Kvb4, nvb4⟩ := sp4.keep Lvb3 nvb3
  clear hR3 sr3 Lib3 Lvb3 sp4
  go_wp2_with fail
  have hq := register_calls C4 { S with toks := [ta, c3] } ta [c3] rfl hta.sort a hta.reg _ hQ4
  rw [eb4] at hq
  refine hq.mono ?_
  rintro e y5 ⟨rfl, C5, hQ5, sp5⟩
  clear hq
  have sq5 := sq4.trans sp5
  have eb5 : C5.b = B.b := sq5.b
  obtain ⟨Kib5, nib5⟩ := sp5.keep Kib4 nib4
  obtain ⟨Kvb5, nvb5⟩ := sp5.keep Kvb4 nvb4
  clear hQ4 sq4 Kib4 Kvb4 sp5
  obtain ⟨dib, fib⟩ := blk_facts Kib5
  have pq : y5.cell? ⟨w.heap.size, 2, none⟩ = some (.int .u8 0) := dib 2
  have gq : y5.frozen? ⟨w.heap.size, 2, none⟩ = false := fib 2
  have zq := blk_size Kib5
  clear dib fib
  have hR5 := hQ5.setOther Kib5 (by decide) nib5 2 (.int .u8 (a : Int))
  have sr5 := sq5.setOther (g := w.heap.size) (Nat.le_refl _) 2 (.int .u8 (a : Int))
  have Lib5 := setCell_row Kib5 2 (.int .u8 (a : Int)) (cs' := #[.int .i64 (op : Int), .int .u8 0, .int .u8 (a : Int), .int .u8 (b : Int), .int .i32 0]) rfl
  have Lvb5 := setCell_far Kvb5 (g := w.heap.size) (by omega) 2 (.int .u8 (a : Int))
  go_wp2_with fail
  clear pq gq zq hQ5 sq5 Kib5 Kvb5
  generalize y5.setCell _ _ = Z5 at hR5 sr5 Lib5 Lvb5 ⊢
  have hq := comma_calls C5 { S with toks := [c3] } c3 [] 41 rfl hc3 _ hR5
  rw [eb5] at hq
  refine hq.mono ?_
  rintro e y6 ⟨rfl, C6, hQ6, sp6⟩
  clear hq
  have sq6 := sr5.trans sp6
  have eb6 : C6.b = B.b := sq6.b
  obtain ⟨Kib6', nib6⟩ := sp6.keep Lib5 nib5
  obtain ⟨Kvb6', nvb6⟩ := sp6.keep Lvb5 nvb5
  clear hR5 sr5 Lib5 Lvb5 sp6
  have d0 := (blk_facts Kib6').1
  have q0 : y6.cell? ⟨w.heap.size + 1, 0, none⟩ = some (.string ⟨v.name.toArray⟩) := (blk_facts Kvb6').1 0
  have q1 : y6.cell? ⟨w.heap.size + 1, 1, none⟩ = some (.int .i64 v.n) := (blk_facts Kvb6').1 1
  go_wp2_with fail
  clear d0 q0 q1
  refine (encoded_calls ⟨(op : Int), 0, (a : Int), (b : Int), 0⟩ v y6).mono ?_
  rintro e x1 ⟨rfl, rfl⟩
  have bE : Below y6.heap.size y6 ((y6.alloc (.cells (Asm.insCells ⟨(op : Int), 0, (a : Int), (b : Int), 0⟩) 96)).alloc (.cells (Asm.valCells v) 195)) := below_alloc' (below_alloc' (Below.refl _ _) _) _
  have kI := blk_alloc (.cells (Asm.valCells v) 195) (heap_alloc_new y6 (.cells (Asm.insCells ⟨(op : Int), 0, (a : Int), (b : Int), 0⟩) 96))
  have kV := heap_alloc_new (y6.alloc (.cells (Asm.insCells ⟨(op : Int), 0, (a : Int), (b : Int), 0⟩) 96)) (.cells (Asm.valCells v) 195)
  rw [alloc_size] at kV
  have hlt2 := hQ6.ltAll
  have hn2 := hQ6.b0
  have hbb := hlt2 C6.b (.inl rfl)
  have hput := put_calls C6 { S with toks := [] } ⟨hb.o0, hb.o1, hb.c, hb.puts, hb.labels, hb.pieces, hb.line0, hb.line1⟩ hm rfl hc hp ⟨(op : Int), 0, (a : Int), (b : Int), 0⟩ v _ (hQ6.kept bE) (y6.heap.size + 1) y6.heap.size kV kI (fun h => by have := hlt2 _ h; omega) (fun h => by have := hlt2 _ h; omega) (by omega) (by omega) y6 (Asm.Off.of_below bE) (by omega) (by omega)
  rw [eb6] at hput
  clear bE kI kV
  go_wp2_with fail
  refine hput.mono ?_
  rintro e x2 ⟨rfl, D, hD, sD⟩
  have sE := sq6.trans sD
  go_wp2_with fail
  go_end0
  exact ⟨rfl, D, hD, sE⟩)
end Go.Proofs.YtabmlbnnhhpaoaaGreatDoor
