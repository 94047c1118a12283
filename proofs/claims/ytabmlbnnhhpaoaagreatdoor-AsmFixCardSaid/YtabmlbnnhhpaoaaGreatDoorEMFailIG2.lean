/- What this claim needs of FailI6, FailI7, FailI8, FailI9, FailI10, FailN, FailP, FailO. -/
import Derived.Test.YtabmlbnnhhpaoaaGreatDoorEMFailEG
import Derived.Test.YtabmlbnnhhpaoaaGreatDoorEAsmBoxes
import Derived.Test.YtabmlbnnhhpaoaaGreatDoorEMFailIG
set_option linter.unusedSimpArgs false
set_option linter.unusedVariables false
set_option maxHeartbeats 8000000
set_option maxRecDepth 100000
namespace Go.Proofs.YtabmlbnnhhpaoaaGreatDoor
open Go.RowKit Go.Shelf
theorem instrA_form6 (op : Nat) (h1 : 1 ≤ op) (h2 : op < 49) (hnm : op < 24 ∨ 31 < op) (hfo : Isa.formOf op = 6) (B : Asm.PB) (S : Asm.PS) (htb : Asm.TokB S.toks) (hb : Asm.Bnd2 S) (w : World) (hP : Asm.Par B S w) :
 Calls Tryz.prog 57 #[.pointer (some ⟨B.b, 0, none⟩), .int .i64 (op : Int)] w (Asm.Outc B w S.line (Asm.insR (Asm.ins6 op S.toks) S)) := by
 have hmm := @run_makeMap Tryz.prog
 have hix : Isa.ix (op : Int) = op := by unfold Isa.ix; rw [if_pos (by omega)]; rfl
 have hfc := Form_calls (op : Int)
 rw [hix, hfo] at hfc
 have hlt := hP.ltAll
 have zb := hlt B.b (.inl rfl)
 have hn0b := hP.b0
 obtain ⟨R, hR⟩ : ∃ R, Asm.insR (Asm.ins6 op S.toks) S = R := ⟨_, rfl⟩
 obtain ⟨l0, hl0⟩ : ∃ l0, S.toks = l0 := ⟨_, rfl⟩
 have hP0 : Asm.Par B { S with toks := l0 } w := by rw [← hl0]; exact hP
 rw [hR]
 rw [hl0] at hR htb
 obtain ⟨I, hI⟩ : ∃ I, Asm.ins6 op l0 = I := ⟨_, rfl⟩
 rw [hI] at hR
 have hRn : I = none → R = .error 112 := fun h => by rw [← hR, h]; rfl
 have hRs : ∀ x l, I = some (x, l) → R = Asm.putR { S with toks := l } ⟨S.line, S.pos, x.1, x.2, .enc⟩ 1 := fun x l h => by rw [← hR, h]; rfl
 unfold Asm.ins6 at hI
 have HI := Lib.hid hI
 have HRN := Lib.hid hRn
 have HRS := Lib.hid hRs
 clear hR hI hRn hRs hP hl0
 -- the boxes of the instruction and of the value, the map
 obtain ⟨W, W1, W2, W3, W4, W5, W6, hW, hWs, ⟨e1, e2, e3, e4, e5, e6, o6, off6, a1, a2, a3, a4, a5, a6, s1, s2, s3, s4, s5⟩, hb6, Kib6, Kvb6⟩ := instr_boxes op w
 rw [hWs] at e1
 rcases hnm with hnm | hnm
 all_goals go_enter Tryz.func57, Tryz.ntmps57
 all_goals (
  go_wp2_with fail
  refine (hfc _).mono ?_
  rintro e w7 ⟨rfl, hb7⟩
  have hlk := fields_look o6 hb7 6 (by decide) (.slice (some ⟨(W5.heap.size), 0, none⟩) 1 1) rfl
  go_wp2_with fail
  have K4 := heap_alloc_new w7 (.cells #[.int .i64 2, .int .i64 3, .int .i64 4, .int .i64 7] 147)
  have hb74 := below_next hb7 (below_alloc' (Below.refl w7.heap.size w7) (.cells #[.int .i64 2, .int .i64 3, .int .i64 4, .int .i64 7] 147))
  refine (hfc _).mono ?_
  rintro e w8 ⟨rfl, hb8⟩
  have K48 := blk_keep hb8 K4
  have hb68 := below_next hb74 hb8
  have hbw8 : Below w.heap.size w w8 := hb6.trans (hb68.mono hb6.size)
  have Kib := blk_keep hb68 Kib6
  have Kvb := blk_keep hb68 Kvb6
  have Ksl := blk_keep hb68 a6
  have hPs := hP0.kept hbw8
  have st := Asm.Step.belowAfter (Asm.Step.refl B w) hbw8
  have nib : ¬ B.owns w.heap.size := fun h => by have := hlt _ h; omega
  have nvb : ¬ B.owns (w.heap.size + 1) := fun h => by have := hlt _ h; omega
  have hslw : w.heap.size + 2 < (W5.heap.size) := by omega
  have nsl : ¬ B.owns (W5.heap.size) := fun h => by have := hlt _ h; omega
  go_wp2_with fail
  refine (contains_calls w7.heap.size 6 (by decide) _ K48).mono ?_
  rintro e w9 ⟨rfl, h9⟩
  rw [h9]
  clear h9 K48 K4 hb74 hb8 hb7 hlk hP0
  go_wp2_with fail
  refine wp_loop_rounds 2 ?_
  rw [rounds_succ]
  obtain ⟨dsl, fsl⟩ := blk_facts Ksl
  have pq : w8.cell? ⟨(W5.heap.size), 0, none⟩ = some (.pointer (some ⟨w.heap.size, 2, none⟩)) := dsl 0
  have zq := blk_size Ksl
  clear dsl fsl
  go_wp2_with fail
  clear pq zq
  have hq := reg_step B S l0 _ hPs
  refine hq.mono ?_
  rintro e y1 (⟨hk, rfl, ho⟩ | ⟨a, l1, hk, rfl, C1, hQ1, sp1⟩)
  · exact ⟨rfl, .bad (HRN.out (by have h := HI.out; rw [hk] at h; exact h.symm)) (Asm.Bad.after st ⟨rfl, ho⟩)⟩
  have h := HI.out
  rw [hk] at h
  dsimp only at h
  clear HI hq
  have HI := Lib.hid h
  clear h
  have tb1 := htb.sub (Asm.rdReg_sub hk)
  clear hk htb
  have sq1 := st.trans sp1
  have eb1 : C1.b = B.b := sq1.b
  obtain ⟨Kib1, nib1⟩ := sp1.keep Kib nib
  obtain ⟨Kvb1, nvb1⟩ := sp1.keep Kvb nvb
  obtain ⟨Ksl1, nsl1⟩ := sp1.keep Ksl nsl
  clear hPs st Kib Kvb sp1 Ksl
  obtain ⟨dib, fib⟩ := blk_facts Kib1
  have pq : y1.cell? ⟨w.heap.size, 2, none⟩ = some (.int .u8 0) := dib 2
  have gq : y1.frozen? ⟨w.heap.size, 2, none⟩ = false := fib 2
  have zq := blk_size Kib1
  clear dib fib
  have hR1 := hQ1.setOther Kib1 (by decide) nib1 2 (.int .u8 (a : Int))
  have sr1 := sq1.setOther (g := w.heap.size) (Nat.le_refl _) 2 (.int .u8 (a : Int))
  have Lib1 := setCell_row Kib1 2 (.int .u8 (a : Int)) (cs' := #[.int .i64 (op : Int), .int .u8 0, .int .u8 (a : Int), .int .u8 0, .int .i32 0]) rfl
  have Lvb1 := setCell_far Kvb1 (g := w.heap.size) (by omega) 2 (.int .u8 (a : Int))
  have Lsl1 := setCell_far Ksl1 (g := w.heap.size) (by omega) 2 (.int .u8 (a : Int))
  go_wp2_with fail
  clear pq gq zq hQ1 sq1 Kib1 Kvb1 Ksl1
  generalize y1.setCell _ _ = Z1 at hR1 sr1 Lib1 Lvb1 Lsl1 ⊢
  rw [rounds_succ]
  obtain ⟨dib, fib⟩ := blk_facts Lib1
  obtain ⟨dvb, fvb⟩ := blk_facts Lvb1
  have zib := blk_size Lib1
  have zvb := blk_size Lvb1
  go_wp2_with fail
  refine (encoded_calls ⟨(op : Int), 0, (a : Int), 0, 0⟩ ⟨[], 0⟩ Z1).mono ?_
  rintro e x1 ⟨rfl, rfl⟩
  have hput := put_ins C1 S l1 hb ⟨(op : Int), 0, (a : Int), 0, 0⟩ ⟨[], 0⟩ Z1 hR1
  rw [eb1] at hput
  go_wp2_with fail
  refine hput.mono ?_
  intro e x2 hO
  have hO2 := hO.after sr1
  have hRe := HRS.out _ _ HI.out.symm
  rw [← hRe] at hO2
  clear hO hRe HRS HRN HI hput
  rcases R with er | T
  · obtain ⟨rfl, ho⟩ := hO2
    exact ⟨rfl, rfl, ho⟩
  obtain ⟨rfl, D, hD, sD⟩ := hO2
  go_wp2_with fail
  go_end0
  exact ⟨rfl, D, hD, sD⟩)
end Go.Proofs.YtabmlbnnhhpaoaaGreatDoor
set_option maxHeartbeats 8000000
set_option maxRecDepth 100000
namespace Go.Proofs.YtabmlbnnhhpaoaaGreatDoor
open Go.RowKit Go.Shelf
theorem instrA_form7 (op : Nat) (h1 : 1 ≤ op) (h2 : op < 49) (hnm : op < 24 ∨ 31 < op) (hfo : Isa.formOf op = 7) (B : Asm.PB) (S : Asm.PS) (htb : Asm.TokB S.toks) (hb : Asm.Bnd2 S) (w : World) (hP : Asm.Par B S w) :
 Calls Tryz.prog 57 #[.pointer (some ⟨B.b, 0, none⟩), .int .i64 (op : Int)] w (Asm.Outc B w S.line (Asm.insR (Asm.ins7 op S.toks) S)) := by
 have hmm := @run_makeMap Tryz.prog
 have hix : Isa.ix (op : Int) = op := by unfold Isa.ix; rw [if_pos (by omega)]; rfl
 have hfc := Form_calls (op : Int)
 rw [hix, hfo] at hfc
 have hlt := hP.ltAll
 have zb := hlt B.b (.inl rfl)
 have hn0b := hP.b0
 obtain ⟨R, hR⟩ : ∃ R, Asm.insR (Asm.ins7 op S.toks) S = R := ⟨_, rfl⟩
 obtain ⟨l0, hl0⟩ : ∃ l0, S.toks = l0 := ⟨_, rfl⟩
 have hP0 : Asm.Par B { S with toks := l0 } w := by rw [← hl0]; exact hP
 rw [hR]
 rw [hl0] at hR htb
 obtain ⟨I, hI⟩ : ∃ I, Asm.ins7 op l0 = I := ⟨_, rfl⟩
 rw [hI] at hR
 have hRn : I = none → R = .error 112 := fun h => by rw [← hR, h]; rfl
 have hRs : ∀ x l, I = some (x, l) → R = Asm.putR { S with toks := l } ⟨S.line, S.pos, x.1, x.2, .enc⟩ 1 := fun x l h => by rw [← hR, h]; rfl
 unfold Asm.ins7 at hI
 have HI := Lib.hid hI
 have HRN := Lib.hid hRn
 have HRS := Lib.hid hRs
 clear hR hI hRn hRs hP hl0
 -- the boxes of the instruction and of the value, the map
 obtain ⟨W, W1, W2, W3, W4, W5, W6, hW, hWs, ⟨e1, e2, e3, e4, e5, e6, o6, off6, a1, a2, a3, a4, a5, a6, s1, s2, s3, s4, s5⟩, hb6, Kib6, Kvb6⟩ := instr_boxes op w
 rw [hWs] at e1
 rcases hnm with hnm | hnm
 all_goals go_enter Tryz.func57, Tryz.ntmps57
 all_goals (
  go_wp2_with fail
  refine (hfc _).mono ?_
  rintro e w7 ⟨rfl, hb7⟩
  have hlk := fields_look o6 hb7 7 (by decide) (.slice none 0 0) rfl
  go_wp2_with fail
  have K4 := heap_alloc_new w7 (.cells #[.int .i64 2, .int .i64 3, .int .i64 4, .int .i64 7] 147)
  have hb74 := below_next hb7 (below_alloc' (Below.refl w7.heap.size w7) (.cells #[.int .i64 2, .int .i64 3, .int .i64 4, .int .i64 7] 147))
  refine (hfc _).mono ?_
  rintro e w8 ⟨rfl, hb8⟩
  have K48 := blk_keep hb8 K4
  have hb68 := below_next hb74 hb8
  have hbw8 : Below w.heap.size w w8 := hb6.trans (hb68.mono hb6.size)
  have Kib := blk_keep hb68 Kib6
  have Kvb := blk_keep hb68 Kvb6
  have hPs := hP0.kept hbw8
  have st := Asm.Step.belowAfter (Asm.Step.refl B w) hbw8
  have nib : ¬ B.owns w.heap.size := fun h => by have := hlt _ h; omega
  have nvb : ¬ B.owns (w.heap.size + 1) := fun h => by have := hlt _ h; omega
  go_wp2_with fail
  refine (contains_calls w7.heap.size 7 (by decide) _ K48).mono ?_
  rintro e w9 ⟨rfl, h9⟩
  rw [h9]
  clear h9 K48 K4 hb74 hb8 hb7 hlk hP0
  go_wp2_with fail
  refine wp_loop_rounds 1 ?_
  rw [rounds_succ]
  go_wp2_with fail
  have hq := val_step B S l0 htb _ hPs
  refine hq.mono ?_
  rintro e y1 (⟨hk, rfl, ho⟩ | ⟨v, l1, hk, rfl, C1, hQ1, sp1⟩)
  · exact ⟨rfl, .bad (HRN.out (by have h := HI.out; rw [hk] at h; exact h.symm)) (Asm.Bad.after st ⟨rfl, ho⟩)⟩
  have h := HI.out
  rw [hk] at h
  dsimp only at h
  clear HI hq
  have HI := Lib.hid h
  clear h
  have tb1 := htb.sub (Asm.rdVal_sub hk)
  clear hk htb
  have sq1 := st.trans sp1
  have eb1 : C1.b = B.b := sq1.b
  obtain ⟨Kib1, nib1⟩ := sp1.keep Kib nib
  obtain ⟨Kvb1, nvb1⟩ := sp1.keep Kvb nvb
  clear hPs st Kib Kvb sp1
  obtain ⟨dvb, fvb⟩ := blk_facts Kvb1
  have p0 : y1.cell? ⟨w.heap.size + 1, 0, none⟩ = some (.string ⟨#[]⟩) := dvb 0
  have p1 : y1.cell? ⟨w.heap.size + 1, 1, none⟩ = some (.int .i64 0) := dvb 1
  have g0 : y1.frozen? ⟨w.heap.size + 1, 0, none⟩ = false := fvb 0
  have g1 : y1.frozen? ⟨w.heap.size + 1, 1, none⟩ = false := fvb 1
  have zvb := blk_size Kvb1
  clear dvb fvb
  have r1 := setCell_row Kvb1 0 (.string ⟨v.name.toArray⟩) (cs' := #[.string ⟨v.name.toArray⟩, .int .i64 0]) rfl
  have Lvb1 := setCell_row r1 1 (.int .i64 v.n) (cs' := #[.string ⟨v.name.toArray⟩, .int .i64 v.n]) rfl
  have hR1 := (hQ1.setOther Kvb1 (by decide) nvb1 0 (.string ⟨v.name.toArray⟩)).setOther r1 (by decide) nvb1 1 (.int .i64 v.n)
  have sr1 := (sq1.setOther (g := w.heap.size + 1) (by omega) 0 (.string ⟨v.name.toArray⟩)).setOther (g := w.heap.size + 1) (by omega) 1 (.int .i64 v.n)
  have Lib1 := setCell_far (setCell_far Kib1 (g := w.heap.size + 1) (by omega) 0 (.string ⟨v.name.toArray⟩)) (g := w.heap.size + 1) (by omega) 1 (.int .i64 v.n)
  have d0 : ∀ i, ((y1.setCell ⟨w.heap.size + 1, 0, none⟩ (.string ⟨v.name.toArray⟩)).setCell ⟨w.heap.size + 1, 1, none⟩ (.int .i64 v.n)).cell? ⟨w.heap.size, i, none⟩ = (#[.int .i64 (op : Int), .int .u8 0, .int .u8 0, .int .u8 0, .int .i32 0] : Array Value)[i]? := (blk_facts Lib1).1
  have d0' := (blk_facts Kib1).1
  have q0 : ((y1.setCell ⟨w.heap.size + 1, 0, none⟩ (.string ⟨v.name.toArray⟩)).setCell ⟨w.heap.size + 1, 1, none⟩ (.int .i64 v.n)).cell? ⟨w.heap.size + 1, 0, none⟩ = some (.string ⟨v.name.toArray⟩) := (blk_facts Lvb1).1 0
  have q1 : ((y1.setCell ⟨w.heap.size + 1, 0, none⟩ (.string ⟨v.name.toArray⟩)).setCell ⟨w.heap.size + 1, 1, none⟩ (.int .i64 v.n)).cell? ⟨w.heap.size + 1, 1, none⟩ = some (.int .i64 v.n) := (blk_facts Lvb1).1 1
  have q2 : (y1.setCell ⟨w.heap.size + 1, 0, none⟩ (.string ⟨v.name.toArray⟩)).cell? ⟨w.heap.size + 1, 0, none⟩ = some (.string ⟨v.name.toArray⟩) := (blk_facts r1).1 0
  go_wp2_with fail
  clear p0 p1 g0 g1 zvb r1 d0 d0' q0 q1 q2
  generalize (y1.setCell _ _).setCell _ _ = Z at hR1 sr1 Lib1 Lvb1 ⊢
  refine (encoded_calls ⟨(op : Int), 0, 0, 0, 0⟩ v Z).mono ?_
  rintro e x1 ⟨rfl, rfl⟩
  have hput := put_ins C1 S l1 hb ⟨(op : Int), 0, 0, 0, 0⟩ v Z hR1
  rw [eb1] at hput
  go_wp2_with fail
  refine hput.mono ?_
  intro e x2 hO
  have hO2 := hO.after sr1
  have hRe := HRS.out _ _ HI.out.symm
  rw [← hRe] at hO2
  clear hO hRe HRS HRN HI hput
  rcases R with er | T
  · obtain ⟨rfl, ho⟩ := hO2
    exact ⟨rfl, rfl, ho⟩
  obtain ⟨rfl, D, hD, sD⟩ := hO2
  go_wp2_with fail
  go_end0
  exact ⟨rfl, D, hD, sD⟩)
end Go.Proofs.YtabmlbnnhhpaoaaGreatDoor
set_option maxHeartbeats 8000000
set_option maxRecDepth 100000
namespace Go.Proofs.YtabmlbnnhhpaoaaGreatDoor
open Go.RowKit Go.Shelf
theorem instrA_form8 (op : Nat) (h1 : 1 ≤ op) (h2 : op < 49) (hnm : op < 24 ∨ 31 < op) (hfo : Isa.formOf op = 8) (B : Asm.PB) (S : Asm.PS) (htb : Asm.TokB S.toks) (hb : Asm.Bnd2 S) (w : World) (hP : Asm.Par B S w) :
 Calls Tryz.prog 57 #[.pointer (some ⟨B.b, 0, none⟩), .int .i64 (op : Int)] w (Asm.Outc B w S.line (Asm.insR (Asm.ins8 op S.toks) S)) := by
 have hmm := @run_makeMap Tryz.prog
 have hix : Isa.ix (op : Int) = op := by unfold Isa.ix; rw [if_pos (by omega)]; rfl
 have hfc := Form_calls (op : Int)
 rw [hix, hfo] at hfc
 have hlt := hP.ltAll
 have zb := hlt B.b (.inl rfl)
 have hn0b := hP.b0
 obtain ⟨R, hR⟩ : ∃ R, Asm.insR (Asm.ins8 op S.toks) S = R := ⟨_, rfl⟩
 obtain ⟨l0, hl0⟩ : ∃ l0, S.toks = l0 := ⟨_, rfl⟩
 have hP0 : Asm.Par B { S with toks := l0 } w := by rw [← hl0]; exact hP
 rw [hR]
 rw [hl0] at hR htb
 obtain ⟨I, hI⟩ : ∃ I, Asm.ins8 op l0 = I := ⟨_, rfl⟩
 rw [hI] at hR
 have hRn : I = none → R = .error 112 := fun h => by rw [← hR, h]; rfl
 have hRs : ∀ x l, I = some (x, l) → R = Asm.putR { S with toks := l } ⟨S.line, S.pos, x.1, x.2, .enc⟩ 1 := fun x l h => by rw [← hR, h]; rfl
 unfold Asm.ins8 at hI
 have HI := Lib.hid hI
 have HRN := Lib.hid hRn
 have HRS := Lib.hid hRs
 clear hR hI hRn hRs hP hl0
 -- the boxes of the instruction and of the value, the map
 obtain ⟨W, W1, W2, W3, W4, W5, W6, hW, hWs, ⟨e1, e2, e3, e4, e5, e6, o6, off6, a1, a2, a3, a4, a5, a6, s1, s2, s3, s4, s5⟩, hb6, Kib6, Kvb6⟩ := instr_boxes op w
 rw [hWs] at e1
 rcases hnm with hnm | hnm
 all_goals go_enter Tryz.func57, Tryz.ntmps57
 all_goals (
  go_wp2_with fail
  refine (hfc _).mono ?_
  rintro e w7 ⟨rfl, hb7⟩
  have hlk := fields_look o6 hb7 8 (by decide) (.slice none 0 0) rfl
  go_wp2_with fail
  have K4 := heap_alloc_new w7 (.cells #[.int .i64 2, .int .i64 3, .int .i64 4, .int .i64 7] 147)
  have hb74 := below_next hb7 (below_alloc' (Below.refl w7.heap.size w7) (.cells #[.int .i64 2, .int .i64 3, .int .i64 4, .int .i64 7] 147))
  refine (hfc _).mono ?_
  rintro e w8 ⟨rfl, hb8⟩
  have K48 := blk_keep hb8 K4
  have hb68 := below_next hb74 hb8
  have hbw8 : Below w.heap.size w w8 := hb6.trans (hb68.mono hb6.size)
  have Kib := blk_keep hb68 Kib6
  have Kvb := blk_keep hb68 Kvb6
  have hPs := hP0.kept hbw8
  have st := Asm.Step.belowAfter (Asm.Step.refl B w) hbw8
  have nib : ¬ B.owns w.heap.size := fun h => by have := hlt _ h; omega
  have nvb : ¬ B.owns (w.heap.size + 1) := fun h => by have := hlt _ h; omega
  go_wp2_with fail
  refine (contains_calls w7.heap.size 8 (by decide) _ K48).mono ?_
  rintro e w9 ⟨rfl, h9⟩
  rw [h9]
  clear h9 K48 K4 hb74 hb8 hb7 hlk hP0
  go_wp2_with fail
  refine wp_loop_rounds 1 ?_
  rw [rounds_succ]
  obtain ⟨dib, fib⟩ := blk_facts Kib
  obtain ⟨dvb, fvb⟩ := blk_facts Kvb
  have zib := blk_size Kib
  have zvb := blk_size Kvb
  go_wp2_with fail
  refine (encoded_calls ⟨(op : Int), 0, 0, 0, 0⟩ ⟨[], 0⟩ w8).mono ?_
  rintro e x1 ⟨rfl, rfl⟩
  have hput := put_ins B S l0 hb ⟨(op : Int), 0, 0, 0, 0⟩ ⟨[], 0⟩ w8 hPs
  go_wp2_with fail
  refine hput.mono ?_
  intro e x2 hO
  have hO2 := hO.after st
  have hRe := HRS.out _ _ HI.out.symm
  rw [← hRe] at hO2
  clear hO hRe HRS HRN HI hput
  rcases R with er | T
  · obtain ⟨rfl, ho⟩ := hO2
    exact ⟨rfl, rfl, ho⟩
  obtain ⟨rfl, D, hD, sD⟩ := hO2
  go_wp2_with fail
  go_end0
  exact ⟨rfl, D, hD, sD⟩)
end Go.Proofs.YtabmlbnnhhpaoaaGreatDoor
set_option maxHeartbeats 8000000
set_option maxRecDepth 100000
namespace Go.Proofs.YtabmlbnnhhpaoaaGreatDoor
open Go.RowKit Go.Shelf
theorem instrA_form9 (op : Nat) (h1 : 24 ≤ op) (h2 : op ≤ 31) (hfo : Isa.formOf op = 2) (B : Asm.PB) (S : Asm.PS) (htb : Asm.TokB S.toks) (hb : Asm.Bnd2 S) (w : World) (hP : Asm.Par B S w) :
 Calls Tryz.prog 57 #[.pointer (some ⟨B.b, 0, none⟩), .int .i64 (op : Int)] w (Asm.Outc B w S.line (Asm.insR (Asm.ins9 op S.toks) S)) := by
 have hmm := @run_makeMap Tryz.prog
 have hix : Isa.ix (op : Int) = op := by unfold Isa.ix; rw [if_pos (by omega)]; rfl
 have hfc := Form_calls (op : Int)
 rw [hix, hfo] at hfc
 have hlt := hP.ltAll
 have zb := hlt B.b (.inl rfl)
 have hn0b := hP.b0
 obtain ⟨R, hR⟩ : ∃ R, Asm.insR (Asm.ins9 op S.toks) S = R := ⟨_, rfl⟩
 obtain ⟨l0, hl0⟩ : ∃ l0, S.toks = l0 := ⟨_, rfl⟩
 have hP0 : Asm.Par B { S with toks := l0 } w := by rw [← hl0]; exact hP
 rw [hR]
 rw [hl0] at hR htb
 obtain ⟨I, hI⟩ : ∃ I, Asm.ins9 op l0 = I := ⟨_, rfl⟩
 rw [hI] at hR
 have hRn : I = none → R = .error 112 := fun h => by rw [← hR, h]; rfl
 have hRs : ∀ x l, I = some (x, l) → R = Asm.putR { S with toks := l } ⟨S.line, S.pos, x.1, x.2, .enc⟩ 1 := fun x l h => by rw [← hR, h]; rfl
 unfold Asm.ins9 at hI
 have HI := Lib.hid hI
 have HRN := Lib.hid hRn
 have HRS := Lib.hid hRs
 clear hR hI hRn hRs hP hl0
 -- the boxes of the instruction and of the value, the map
 obtain ⟨W, W1, W2, W3, W4, W5, W6, hW, hWs, ⟨e1, e2, e3, e4, e5, e6, o6, off6, a1, a2, a3, a4, a5, a6, s1, s2, s3, s4, s5⟩, hb6, Kib6, Kvb6⟩ := instr_boxes op w
 rw [hWs] at e1
 go_enter Tryz.func57, Tryz.ntmps57
 all_goals (
  go_wp2_with fail
  refine (hfc _).mono ?_
  rintro e w7 ⟨rfl, hb7⟩
  have hlk := fields_look o6 hb7 2 (by decide) (.slice (some ⟨(W1.heap.size), 0, none⟩) 2 2) rfl
  go_wp2_with fail
  have K4 := heap_alloc_new w7 (.cells #[.int .i64 2, .int .i64 3, .int .i64 4, .int .i64 7] 147)
  have hb74 := below_next hb7 (below_alloc' (Below.refl w7.heap.size w7) (.cells #[.int .i64 2, .int .i64 3, .int .i64 4, .int .i64 7] 147))
  refine (hfc _).mono ?_
  rintro e w8 ⟨rfl, hb8⟩
  have K48 := blk_keep hb8 K4
  have hb68 := below_next hb74 hb8
  go_wp2_with fail
  refine (contains_calls w7.heap.size 2 (by decide) _ K48).mono ?_
  rintro e w9 ⟨rfl, h9⟩
  rw [h9]
  clear h9 K48 K4 hb74 hb8 hb7 hlk
  go_wp2_with fail
  refine (hfc _).mono ?_
  rintro e w10 ⟨rfl, hb10⟩
  have hb610 := below_next hb68 hb10
  have hbw := hb6.trans (hb610.mono hb6.size)
  have Kib := blk_keep hb610 Kib6
  have Kvb := blk_keep hb610 Kvb6
  have st := Asm.Step.belowAfter (Asm.Step.refl B w) hbw
  have nib : ¬ B.owns w.heap.size := fun h => by have := hlt _ h; omega
  have nvb : ¬ B.owns (w.heap.size + 1) := fun h => by have := hlt _ h; omega
  have hPs := hP0.kept hbw
  clear hb68 hb10 hb610 hbw hP0
  go_wp2_with fail
  have hq := reg_step B S l0 _ hPs
  refine hq.mono ?_
  rintro e y1 (⟨hk, rfl, ho⟩ | ⟨d, l1, hk, rfl, C1, hQ1, sp1⟩)
  · exact ⟨rfl, .bad (HRN.out (by have h := HI.out; rw [hk] at h; exact h.symm)) (Asm.Bad.after st ⟨rfl, ho⟩)⟩
  have h := HI.out
  rw [hk] at h
  dsimp only at h
  clear HI hq
  have HI := Lib.hid h
  clear h
  have tb1 := htb.sub (Asm.rdReg_sub hk)
  clear hk htb
  have sq1 := st.trans sp1
  have eb1 : C1.b = B.b := sq1.b
  obtain ⟨Kib1, nib1⟩ := sp1.keep Kib nib
  obtain ⟨Kvb1, nvb1⟩ := sp1.keep Kvb nvb
  clear hPs st Kib Kvb sp1
  obtain ⟨dib, fib⟩ := blk_facts Kib1
  have pq : y1.cell? ⟨w.heap.size, 1, none⟩ = some (.int .u8 0) := dib 1
  have gq : y1.frozen? ⟨w.heap.size, 1, none⟩ = false := fib 1
  have zq := blk_size Kib1
  clear dib fib
  have hR1 := hQ1.setOther Kib1 (by decide) nib1 1 (.int .u8 (d : Int))
  have sr1 := sq1.setOther (g := w.heap.size) (Nat.le_refl _) 1 (.int .u8 (d : Int))
  have Lib1 := setCell_row Kib1 1 (.int .u8 (d : Int)) (cs' := #[.int .i64 (op : Int), .int .u8 (d : Int), .int .u8 0, .int .u8 0, .int .i32 0]) rfl
  have Lvb1 := setCell_far Kvb1 (g := w.heap.size) (by omega) 1 (.int .u8 (d : Int))
  go_wp2_with fail
  clear pq gq zq hQ1 sq1 Kib1 Kvb1 
  generalize y1.setCell _ _ = Z1 at hR1 sr1 Lib1 Lvb1 ⊢
  have hq := sign_step C1 S l1 44 _ hR1
  rw [eb1] at hq
  refine hq.mono ?_
  rintro e y2 (⟨hk, rfl, ho⟩ | ⟨l2, hk, rfl, C2, hQ2, sp2⟩)
  · exact ⟨rfl, .bad (HRN.out (by have h := HI.out; rw [hk] at h; exact h.symm)) (Asm.Bad.after sr1 ⟨rfl, ho⟩)⟩
  have h := HI.out
  rw [hk] at h
  dsimp only at h
  clear HI hq
  have HI := Lib.hid h
  clear h
  have tb2 := tb1.sub (Asm.rdSign_sub hk)
  clear hk tb1
  have sq2 := sr1.trans sp2
  have eb2 : C2.b = B.b := sq2.b
  obtain ⟨Kib2, nib2⟩ := sp2.keep Lib1 nib1
  obtain ⟨Kvb2, nvb2⟩ := sp2.keep Lvb1 nvb1
  clear hR1 sr1 Lib1 Lvb1 sp2
  go_wp2_with fail
  have hq := val_step C2 S l2 tb2 _ hQ2
  rw [eb2] at hq
  refine hq.mono ?_
  rintro e y3 (⟨hk, rfl, ho⟩ | ⟨v, l3, hk, rfl, C3, hQ3, sp3⟩)
  · exact ⟨rfl, .bad (HRN.out (by have h := HI.out; rw [hk] at h; exact h.symm)) (Asm.Bad.after sq2 ⟨rfl, ho⟩)⟩
  have h := HI.out
  rw [hk] at h
  dsimp only at h
  clear HI hq
  have HI := Lib.hid h
  clear h
  have tb3 := tb2.sub (Asm.rdVal_sub hk)
  clear hk tb2
  have sq3 := sq2.trans sp3
  have eb3 : C3.b = B.b := sq3.b
  obtain ⟨Kib3, nib3⟩ := sp3.keep Kib2 nib2
  obtain ⟨Kvb3, nvb3⟩ := sp3.keep Kvb2 nvb2
  clear hQ2 sq2 Kib2 Kvb2 sp3
  obtain ⟨dvb, fvb⟩ := blk_facts Kvb3
  have p0 : y3.cell? ⟨w.heap.size + 1, 0, none⟩ = some (.string ⟨#[]⟩) := dvb 0
  have p1 : y3.cell? ⟨w.heap.size + 1, 1, none⟩ = some (.int .i64 0) := dvb 1
  have g0 : y3.frozen? ⟨w.heap.size + 1, 0, none⟩ = false := fvb 0
  have g1 : y3.frozen? ⟨w.heap.size + 1, 1, none⟩ = false := fvb 1
  have zvb := blk_size Kvb3
  clear dvb fvb
  have r1 := setCell_row Kvb3 0 (.string ⟨v.name.toArray⟩) (cs' := #[.string ⟨v.name.toArray⟩, .int .i64 0]) rfl
  have Lvb3 := setCell_row r1 1 (.int .i64 v.n) (cs' := #[.string ⟨v.name.toArray⟩, .int .i64 v.n]) rfl
  have hR3 := (hQ3.setOther Kvb3 (by decide) nvb3 0 (.string ⟨v.name.toArray⟩)).setOther r1 (by decide) nvb3 1 (.int .i64 v.n)
  have sr3 := (sq3.setOther (g := w.heap.size + 1) (by omega) 0 (.string ⟨v.name.toArray⟩)).setOther (g := w.heap.size + 1) (by omega) 1 (.int .i64 v.n)
  have Lib3 := setCell_far (setCell_far Kib3 (g := w.heap.size + 1) (by omega) 0 (.string ⟨v.name.toArray⟩)) (g := w.heap.size + 1) (by omega) 1 (.int .i64 v.n)
  go_wp2_with fail
  clear p0 p1 g0 g1 zvb r1 hQ3 sq3 Kib3 Kvb3
  generalize (y3.setCell _ _).setCell _ _ = Z at hR3 sr3 Lib3 Lvb3 ⊢
  have hq := sign_step C3 S l3 40 _ hR3
  rw [eb3] at hq
  refine hq.mono ?_
  rintro e y4 (⟨hk, rfl, ho⟩ | ⟨l4, hk, rfl, C4, hQ4, sp4⟩)
  · exact ⟨rfl, .bad (HRN.out (by have h := HI.out; rw [hk] at h; exact h.symm)) (Asm.Bad.after sr3 ⟨rfl, ho⟩)⟩
  have h := HI.out
  rw [hk] at h
  dsimp only at h
  clear HI hq
  have HI := Lib.hid h
  clear h
  have tb4 := tb3.sub (Asm.rdSign_sub hk)
  clear hk tb3
  have sq4 := sr3.trans sp4
  have eb4 : C4.b = B.b := sq4.b
  obtain ⟨Kib4, nib4⟩ := sp4.keep Lib3 nib3
  obtain ⟨Kvb4, nvb4⟩ := sp4.keep Lvb3 nvb3
  clear hR3 sr3 Lib3 Lvb3 sp4
  go_wp2_with fail
  have hq := reg_step C4 S l4 _ hQ4
  rw [eb4] at hq
  refine hq.mono ?_
  rintro e y5 (⟨hk, rfl, ho⟩ | ⟨a, l5, hk, rfl, C5, hQ5, sp5⟩)
  · exact ⟨rfl, .bad (HRN.out (by have h := HI.out; rw [hk] at h; exact h.symm)) (Asm.Bad.after sq4 ⟨rfl, ho⟩)⟩
  have h := HI.out
  rw [hk] at h
  dsimp only at h
  clear HI hq
  have HI := Lib.hid h
  clear h
  have tb5 := tb4.sub (Asm.rdReg_sub hk)
  clear hk tb4
  have sq5 := sq4.trans sp5
  have eb5 : C5.b = B.b := sq5.b
  obtain ⟨Kib5, nib5⟩ := sp5.keep Kib4 nib4
  obtain ⟨Kvb5, nvb5⟩ := sp5.keep Kvb4 nvb4
  clear hQ4 sq4 Kib4 Kvb4 sp5
  obtain ⟨dib, fib⟩ := blk_facts Kib5
  have pq : y5.cell? ⟨w.heap.size, 2, none⟩ = some (.int .u8 0) := dib 2
  have gq : y5.frozen? ⟨w.heap.size, 2, none⟩ = false := fib 2
  have zq := blk_size Kib5
  clear dib fib
  have hR5 := hQ5.setOther Kib5 (by decide) nib5 2 (.int .u8 (a : Int))
  have sr5 := sq5.setOther (g := w.heap.size) (Nat.le_refl _) 2 (.int .u8 (a : Int))
  have Lib5 := setCell_row Kib5 2 (.int .u8 (a : Int)) (cs' := #[.int .i64 (op : Int), .int .u8 (d : Int), .int .u8 (a : Int), .int .u8 0, .int .i32 0]) rfl
  have Lvb5 := setCell_far Kvb5 (g := w.heap.size) (by omega) 2 (.int .u8 (a : Int))
  go_wp2_with fail
  clear pq gq zq hQ5 sq5 Kib5 Kvb5 
  generalize y5.setCell _ _ = Z5 at hR5 sr5 Lib5 Lvb5 ⊢
  have hq := sign_step C5 S l5 41 _ hR5
  rw [eb5] at hq
  refine hq.mono ?_
  rintro e y6 (⟨hk, rfl, ho⟩ | ⟨l6, hk, rfl, C6, hQ6, sp6⟩)
  · exact ⟨rfl, .bad (HRN.out (by have h := HI.out; rw [hk] at h; exact h.symm)) (Asm.Bad.after sr5 ⟨rfl, ho⟩)⟩
  have h := HI.out
  rw [hk] at h
  dsimp only at h
  clear HI hq
  have HI := Lib.hid h
  clear h
  have tb6 := tb5.sub (Asm.rdSign_sub hk)
  clear hk tb5
  have sq6 := sr5.trans sp6
  have eb6 : C6.b = B.b := sq6.b
  obtain ⟨Kib6, nib6⟩ := sp6.keep Lib5 nib5
  obtain ⟨Kvb6, nvb6⟩ := sp6.keep Lvb5 nvb5
  clear hR5 sr5 Lib5 Lvb5 sp6
  have d0 := (blk_facts Kib6).1
  have q0 : y6.cell? ⟨w.heap.size + 1, 0, none⟩ = some (.string ⟨v.name.toArray⟩) := (blk_facts Kvb6).1 0
  have q1 : y6.cell? ⟨w.heap.size + 1, 1, none⟩ = some (.int .i64 v.n) := (blk_facts Kvb6).1 1
  go_wp2_with fail
  clear d0 q0 q1
  refine (encoded_calls ⟨(op : Int), (d : Int), (a : Int), 0, 0⟩ v y6).mono ?_
  rintro e x1 ⟨rfl, rfl⟩
  have hput := put_ins C6 S l6 hb ⟨(op : Int), (d : Int), (a : Int), 0, 0⟩ v y6 hQ6
  rw [eb6] at hput
  go_wp2_with fail
  refine hput.mono ?_
  intro e x2 hO
  have hO2 := hO.after sq6
  have hRe := HRS.out _ _ HI.out.symm
  rw [← hRe] at hO2
  clear hO hRe HRS HRN HI hput
  rcases R with er | T
  · obtain ⟨rfl, ho⟩ := hO2
    exact ⟨rfl, rfl, ho⟩
  obtain ⟨rfl, D, hD, sD⟩ := hO2
  go_wp2_with fail
  go_end0
  exact ⟨rfl, D, hD, sD⟩)
end Go.Proofs.YtabmlbnnhhpaoaaGreatDoor
set_option maxHeartbeats 8000000
set_option maxRecDepth 100000
namespace Go.Proofs.YtabmlbnnhhpaoaaGreatDoor
open Go.RowKit Go.Shelf
theorem instrA_form10 (op : Nat) (h1 : 24 ≤ op) (h2 : op ≤ 31) (hfo : Isa.formOf op = 3) (B : Asm.PB) (S : Asm.PS) (htb : Asm.TokB S.toks) (hb : Asm.Bnd2 S) (w : World) (hP : Asm.Par B S w) :
 Calls Tryz.prog 57 #[.pointer (some ⟨B.b, 0, none⟩), .int .i64 (op : Int)] w (Asm.Outc B w S.line (Asm.insR (Asm.ins10 op S.toks) S)) := by
 have hmm := @run_makeMap Tryz.prog
 have hix : Isa.ix (op : Int) = op := by unfold Isa.ix; rw [if_pos (by omega)]; rfl
 have hfc := Form_calls (op : Int)
 rw [hix, hfo] at hfc
 have hlt := hP.ltAll
 have zb := hlt B.b (.inl rfl)
 have hn0b := hP.b0
 obtain ⟨R, hR⟩ : ∃ R, Asm.insR (Asm.ins10 op S.toks) S = R := ⟨_, rfl⟩
 obtain ⟨l0, hl0⟩ : ∃ l0, S.toks = l0 := ⟨_, rfl⟩
 have hP0 : Asm.Par B { S with toks := l0 } w := by rw [← hl0]; exact hP
 rw [hR]
 rw [hl0] at hR htb
 obtain ⟨I, hI⟩ : ∃ I, Asm.ins10 op l0 = I := ⟨_, rfl⟩
 rw [hI] at hR
 have hRn : I = none → R = .error 112 := fun h => by rw [← hR, h]; rfl
 have hRs : ∀ x l, I = some (x, l) → R = Asm.putR { S with toks := l } ⟨S.line, S.pos, x.1, x.2, .enc⟩ 1 := fun x l h => by rw [← hR, h]; rfl
 unfold Asm.ins10 at hI
 have HI := Lib.hid hI
 have HRN := Lib.hid hRn
 have HRS := Lib.hid hRs
 clear hR hI hRn hRs hP hl0
 -- the boxes of the instruction and of the value, the map
 obtain ⟨W, W1, W2, W3, W4, W5, W6, hW, hWs, ⟨e1, e2, e3, e4, e5, e6, o6, off6, a1, a2, a3, a4, a5, a6, s1, s2, s3, s4, s5⟩, hb6, Kib6, Kvb6⟩ := instr_boxes op w
 rw [hWs] at e1
 go_enter Tryz.func57, Tryz.ntmps57
 all_goals (
  go_wp2_with fail
  refine (hfc _).mono ?_
  rintro e w7 ⟨rfl, hb7⟩
  have hlk := fields_look o6 hb7 3 (by decide) (.slice (some ⟨(W2.heap.size), 0, none⟩) 2 2) rfl
  go_wp2_with fail
  have K4 := heap_alloc_new w7 (.cells #[.int .i64 2, .int .i64 3, .int .i64 4, .int .i64 7] 147)
  have hb74 := below_next hb7 (below_alloc' (Below.refl w7.heap.size w7) (.cells #[.int .i64 2, .int .i64 3, .int .i64 4, .int .i64 7] 147))
  refine (hfc _).mono ?_
  rintro e w8 ⟨rfl, hb8⟩
  have K48 := blk_keep hb8 K4
  have hb68 := below_next hb74 hb8
  go_wp2_with fail
  refine (contains_calls w7.heap.size 3 (by decide) _ K48).mono ?_
  rintro e w9 ⟨rfl, h9⟩
  rw [h9]
  clear h9 K48 K4 hb74 hb8 hb7 hlk
  go_wp2_with fail
  refine (hfc _).mono ?_
  rintro e w10 ⟨rfl, hb10⟩
  have hb610 := below_next hb68 hb10
  have hbw := hb6.trans (hb610.mono hb6.size)
  have Kib := blk_keep hb610 Kib6
  have Kvb := blk_keep hb610 Kvb6
  have st := Asm.Step.belowAfter (Asm.Step.refl B w) hbw
  have nib : ¬ B.owns w.heap.size := fun h => by have := hlt _ h; omega
  have nvb : ¬ B.owns (w.heap.size + 1) := fun h => by have := hlt _ h; omega
  have hPs := hP0.kept hbw
  clear hb68 hb10 hb610 hbw hP0
  go_wp2_with fail
  have hq := reg_step B S l0 _ hPs
  refine hq.mono ?_
  rintro e y1 (⟨hk, rfl, ho⟩ | ⟨b, l1, hk, rfl, C1, hQ1, sp1⟩)
  · exact ⟨rfl, .bad (HRN.out (by have h := HI.out; rw [hk] at h; exact h.symm)) (Asm.Bad.after st ⟨rfl, ho⟩)⟩
  have h := HI.out
  rw [hk] at h
  dsimp only at h
  clear HI hq
  have HI := Lib.hid h
  clear h
  have tb1 := htb.sub (Asm.rdReg_sub hk)
  clear hk htb
  have sq1 := st.trans sp1
  have eb1 : C1.b = B.b := sq1.b
  obtain ⟨Kib1, nib1⟩ := sp1.keep Kib nib
  obtain ⟨Kvb1, nvb1⟩ := sp1.keep Kvb nvb
  clear hPs st Kib Kvb sp1
  obtain ⟨dib, fib⟩ := blk_facts Kib1
  have pq : y1.cell? ⟨w.heap.size, 3, none⟩ = some (.int .u8 0) := dib 3
  have gq : y1.frozen? ⟨w.heap.size, 3, none⟩ = false := fib 3
  have zq := blk_size Kib1
  clear dib fib
  have hR1 := hQ1.setOther Kib1 (by decide) nib1 3 (.int .u8 (b : Int))
  have sr1 := sq1.setOther (g := w.heap.size) (Nat.le_refl _) 3 (.int .u8 (b : Int))
  have Lib1 := setCell_row Kib1 3 (.int .u8 (b : Int)) (cs' := #[.int .i64 (op : Int), .int .u8 0, .int .u8 0, .int .u8 (b : Int), .int .i32 0]) rfl
  have Lvb1 := setCell_far Kvb1 (g := w.heap.size) (by omega) 3 (.int .u8 (b : Int))
  go_wp2_with fail
  clear pq gq zq hQ1 sq1 Kib1 Kvb1 
  generalize y1.setCell _ _ = Z1 at hR1 sr1 Lib1 Lvb1 ⊢
  have hq := sign_step C1 S l1 44 _ hR1
  rw [eb1] at hq
  refine hq.mono ?_
  rintro e y2 (⟨hk, rfl, ho⟩ | ⟨l2, hk, rfl, C2, hQ2, sp2⟩)
  · exact ⟨rfl, .bad (HRN.out (by have h := HI.out; rw [hk] at h; exact h.symm)) (Asm.Bad.after sr1 ⟨rfl, ho⟩)⟩
  have h := HI.out
  rw [hk] at h
  dsimp only at h
  clear HI hq
  have HI := Lib.hid h
  clear h
  have tb2 := tb1.sub (Asm.rdSign_sub hk)
  clear hk tb1
  have sq2 := sr1.trans sp2
  have eb2 : C2.b = B.b := sq2.b
  obtain ⟨Kib2, nib2⟩ := sp2.keep Lib1 nib1
  obtain ⟨Kvb2, nvb2⟩ := sp2.keep Lvb1 nvb1
  clear hR1 sr1 Lib1 Lvb1 sp2
  go_wp2_with fail
  have hq := val_step C2 S l2 tb2 _ hQ2
  rw [eb2] at hq
  refine hq.mono ?_
  rintro e y3 (⟨hk, rfl, ho⟩ | ⟨v, l3, hk, rfl, C3, hQ3, sp3⟩)
  · exact ⟨rfl, .bad (HRN.out (by have h := HI.out; rw [hk] at h; exact h.symm)) (Asm.Bad.after sq2 ⟨rfl, ho⟩)⟩
  have h := HI.out
  rw [hk] at h
  dsimp only at h
  clear HI hq
  have HI := Lib.hid h
  clear h
  have tb3 := tb2.sub (Asm.rdVal_sub hk)
  clear hk tb2
  have sq3 := sq2.trans sp3
  have eb3 : C3.b = B.b := sq3.b
  obtain ⟨Kib3, nib3⟩ := sp3.keep Kib2 nib2
  obtain ⟨Kvb3, nvb3⟩ := sp3.keep Kvb2 nvb2
  clear hQ2 sq2 Kib2 Kvb2 sp3
  obtain ⟨dvb, fvb⟩ := blk_facts Kvb3
  have p0 : y3.cell? ⟨w.heap.size + 1, 0, none⟩ = some (.string ⟨#[]⟩) := dvb 0
  have p1 : y3.cell? ⟨w.heap.size + 1, 1, none⟩ = some (.int .i64 0) := dvb 1
  have g0 : y3.frozen? ⟨w.heap.size + 1, 0, none⟩ = false := fvb 0
  have g1 : y3.frozen? ⟨w.heap.size + 1, 1, none⟩ = false := fvb 1
  have zvb := blk_size Kvb3
  clear dvb fvb
  have r1 := setCell_row Kvb3 0 (.string ⟨v.name.toArray⟩) (cs' := #[.string ⟨v.name.toArray⟩, .int .i64 0]) rfl
  have Lvb3 := setCell_row r1 1 (.int .i64 v.n) (cs' := #[.string ⟨v.name.toArray⟩, .int .i64 v.n]) rfl
  have hR3 := (hQ3.setOther Kvb3 (by decide) nvb3 0 (.string ⟨v.name.toArray⟩)).setOther r1 (by decide) nvb3 1 (.int .i64 v.n)
  have sr3 := (sq3.setOther (g := w.heap.size + 1) (by omega) 0 (.string ⟨v.name.toArray⟩)).setOther (g := w.heap.size + 1) (by omega) 1 (.int .i64 v.n)
  have Lib3 := setCell_far (setCell_far Kib3 (g := w.heap.size + 1) (by omega) 0 (.string ⟨v.name.toArray⟩)) (g := w.heap.size + 1) (by omega) 1 (.int .i64 v.n)
  go_wp2_with fail
  clear p0 p1 g0 g1 zvb r1 hQ3 sq3 Kib3 Kvb3
  generalize (y3.setCell _ _).setCell _ _ = Z at hR3 sr3 Lib3 Lvb3 ⊢
  have hq := sign_step C3 S l3 40 _ hR3
  rw [eb3] at hq
  refine hq.mono ?_
  rintro e y4 (⟨hk, rfl, ho⟩ | ⟨l4, hk, rfl, C4, hQ4, sp4⟩)
  · exact ⟨rfl, .bad (HRN.out (by have h := HI.out; rw [hk] at h; exact h.symm)) (Asm.Bad.after sr3 ⟨rfl, ho⟩)⟩
  have h := HI.out
  rw [hk] at h
  dsimp only at h
  clear HI hq
  have HI := Lib.hid h
  clear h
  have tb4 := tb3.sub (Asm.rdSign_sub hk)
  clear hk tb3
  have sq4 := sr3.trans sp4
  have eb4 : C4.b = B.b := sq4.b
  obtain ⟨Kib4, nib4⟩ := sp4.keep Lib3 nib3
  obtain ⟨Kvb4, nvb4⟩ := sp4.keep Lvb3 nvb3
  clear hR3 sr3 Lib3 Lvb3 sp4
  go_wp2_with fail
  have hq := reg_step C4 S l4 _ hQ4
  rw [eb4] at hq
  refine hq.mono ?_
  rintro e y5 (⟨hk, rfl, ho⟩ | ⟨a, l5, hk, rfl, C5, hQ5, sp5⟩)
  · exact ⟨rfl, .bad (HRN.out (by have h := HI.out; rw [hk] at h; exact h.symm)) (Asm.Bad.after sq4 ⟨rfl, ho⟩)⟩
  have h := HI.out
  rw [hk] at h
  dsimp only at h
  clear HI hq
  have HI := Lib.hid h
  clear h
  have tb5 := tb4.sub (Asm.rdReg_sub hk)
  clear hk tb4
  have sq5 := sq4.trans sp5
  have eb5 : C5.b = B.b := sq5.b
  obtain ⟨Kib5, nib5⟩ := sp5.keep Kib4 nib4
  obtain ⟨Kvb5, nvb5⟩ := sp5.keep Kvb4 nvb4
  clear hQ4 sq4 Kib4 Kvb4 sp5
  obtain ⟨dib, fib⟩ := blk_facts Kib5
  have pq : y5.cell? ⟨w.heap.size, 2, none⟩ = some (.int .u8 0) := dib 2
  have gq : y5.frozen? ⟨w.heap.size, 2, none⟩ = false := fib 2
  have zq := blk_size Kib5
  clear dib fib
  have hR5 := hQ5.setOther Kib5 (by decide) nib5 2 (.int .u8 (a : Int))
  have sr5 := sq5.setOther (g := w.heap.size) (Nat.le_refl _) 2 (.int .u8 (a : Int))
  have Lib5 := setCell_row Kib5 2 (.int .u8 (a : Int)) (cs' := #[.int .i64 (op : Int), .int .u8 0, .int .u8 (a : Int), .int .u8 (b : Int), .int .i32 0]) rfl
  have Lvb5 := setCell_far Kvb5 (g := w.heap.size) (by omega) 2 (.int .u8 (a : Int))
  go_wp2_with fail
  clear pq gq zq hQ5 sq5 Kib5 Kvb5 
  generalize y5.setCell _ _ = Z5 at hR5 sr5 Lib5 Lvb5 ⊢
  have hq := sign_step C5 S l5 41 _ hR5
  rw [eb5] at hq
  refine hq.mono ?_
  rintro e y6 (⟨hk, rfl, ho⟩ | ⟨l6, hk, rfl, C6, hQ6, sp6⟩)
  · exact ⟨rfl, .bad (HRN.out (by have h := HI.out; rw [hk] at h; exact h.symm)) (Asm.Bad.after sr5 ⟨rfl, ho⟩)⟩
  have h := HI.out
  rw [hk] at h
  dsimp only at h
  clear HI hq
  have HI := Lib.hid h
  clear h
  have tb6 := tb5.sub (Asm.rdSign_sub hk)
  clear hk tb5
  have sq6 := sr5.trans sp6
  have eb6 : C6.b = B.b := sq6.b
  obtain ⟨Kib6, nib6⟩ := sp6.keep Lib5 nib5
  obtain ⟨Kvb6, nvb6⟩ := sp6.keep Lvb5 nvb5
  clear hR5 sr5 Lib5 Lvb5 sp6
  have d0 := (blk_facts Kib6).1
  have q0 : y6.cell? ⟨w.heap.size + 1, 0, none⟩ = some (.string ⟨v.name.toArray⟩) := (blk_facts Kvb6).1 0
  have q1 : y6.cell? ⟨w.heap.size + 1, 1, none⟩ = some (.int .i64 v.n) := (blk_facts Kvb6).1 1
  go_wp2_with fail
  clear d0 q0 q1
  refine (encoded_calls ⟨(op : Int), 0, (a : Int), (b : Int), 0⟩ v y6).mono ?_
  rintro e x1 ⟨rfl, rfl⟩
  have hput := put_ins C6 S l6 hb ⟨(op : Int), 0, (a : Int), (b : Int), 0⟩ v y6 hQ6
  rw [eb6] at hput
  go_wp2_with fail
  refine hput.mono ?_
  intro e x2 hO
  have hO2 := hO.after sq6
  have hRe := HRS.out _ _ HI.out.symm
  rw [← hRe] at hO2
  clear hO hRe HRS HRN HI hput
  rcases R with er | T
  · obtain ⟨rfl, ho⟩ := hO2
    exact ⟨rfl, rfl, ho⟩
  obtain ⟨rfl, D, hD, sD⟩ := hO2
  go_wp2_with fail
  go_end0
  exact ⟨rfl, D, hD, sD⟩)
end Go.Proofs.YtabmlbnnhhpaoaaGreatDoor
namespace Go.Proofs.YtabmlbnnhhpaoaaGreatDoor
open Go.RowKit Go.Shelf
theorem form_mem : ∀ op, op < 49 → 24 ≤ op → op ≤ 31 → Isa.formOf op = 2 ∨ Isa.formOf op = 3 := by decide
theorem form_all : ∀ op, op < 49 → 1 ≤ op → 1 ≤ Isa.formOf op ∧ Isa.formOf op ≤ 8 := by decide
theorem instr_any (op : Nat) (h1 : 1 ≤ op) (h2 : op < 49) (B : Asm.PB) (S : Asm.PS) (htb : Asm.TokB S.toks) (hb : Asm.Bnd2 S) (w : World) (hP : Asm.Par B S w) :
 Calls Tryz.prog 57 #[.pointer (some ⟨B.b, 0, none⟩), .int .i64 (op : Int)] w (Asm.Outc B w S.line (Asm.insR (Asm.insParse op S.toks) S)) := by
 unfold Asm.insParse
 by_cases hm : 24 ≤ op ∧ op ≤ 31
 · rw [if_pos hm]
   rcases form_mem op h2 hm.1 hm.2 with hf | hf
   · rw [hf, if_neg (by decide)]
     exact instrA_form9 op hm.1 hm.2 hf B S htb hb w hP
   · rw [hf, if_pos rfl]
     exact instrA_form10 op hm.1 hm.2 hf B S htb hb w hP
 · rw [if_neg hm]
   have hnm : op < 24 ∨ 31 < op := by omega
   have hfa := form_all op h2 h1
   obtain ⟨f, hf⟩ : ∃ f, Isa.formOf op = f := ⟨_, rfl⟩
   rw [hf] at hfa ⊢
   match f, hf, hfa with
   | 1, hf, _ => exact instrA_form1 op h1 h2 hnm hf B S htb hb w hP
   | 2, hf, _ => exact instrA_form2 op h1 h2 hnm hf B S htb hb w hP
   | 3, hf, _ => exact instrA_form3 op h1 h2 hnm hf B S htb hb w hP
   | 4, hf, _ => exact instrA_form4 op h1 h2 hnm hf B S htb hb w hP
   | 5, hf, _ => exact instrA_form5 op h1 h2 hnm hf B S htb hb w hP
   | 6, hf, _ => exact instrA_form6 op h1 h2 hnm hf B S htb hb w hP
   | 7, hf, _ => exact instrA_form7 op h1 h2 hnm hf B S htb hb w hP
   | 8, hf, _ => exact instrA_form8 op h1 h2 hnm hf B S htb hb w hP
   | 0, _, h => omega
   | n + 9, _, h => omega
theorem Isa.findFrom_range (s : ByteArray) : ∀ r i, i + r ≤ 49 → (Isa.findFrom s r i).2 = true → ∃ op : Nat, (Isa.findFrom s r i).1 = (op : Int) ∧ op < 49 ∧ (Isa.nameOf op = s ∧ s ≠ ⟨#[]⟩)
 | 0, i, _, h => by cases h
 | r + 1, i, hi, h => by
   unfold Isa.findFrom at h ⊢
   split
   · rename_i hc; exact ⟨i, rfl, by omega, hc⟩
   · rename_i hc
     rw [if_neg hc] at h
     exact Isa.findFrom_range s r (i + 1) (by omega) h
theorem nameOf_0 : Isa.nameOf 0 = ⟨#[]⟩ := by decide
theorem Isa.named_range (s : ByteArray) (h : (Isa.named s).2 = true) : ∃ op : Nat, (Isa.named s).1 = (op : Int) ∧ 1 ≤ op ∧ op < 49 := by
 obtain ⟨op, h1, h2, h3, h4⟩ := Isa.findFrom_range s 49 0 (by omega) h
 refine ⟨op, h1, ?_, h2⟩
 cases op with
 | zero => exact absurd (h3.symm.trans nameOf_0) h4
 | succ n => omega
namespace Asm
def lab : Nat → List (List UInt8) → List Tok → Option (List (List UInt8) × List Tok)
 | n + 1, fr, t :: u :: ts => if t.sort = 0 ∧ u.sort = 2 ∧ u.bytes = [58] then (if nameOk t.bytes = true then lab n (fr ++ [t.bytes]) ts else none) else some (fr, t :: u :: ts)
 | _, fr, l => some (fr, l)
def otherR (what : List UInt8) (S : PS) : Except Int PS :=
 if what = [108, 105] then liR S
 else if what = [109, 118] then insR (mvP S.toks) S
 else if what = [106] then jR 0 S
 else if what = [99, 97, 108, 108] then jR 15 S
 else if what = [114, 101, 116] then retR S
 else if what = [46, 111, 114, 103] then orgR S
 else if what = [46, 119, 111, 114, 100] then wordR S
 else if what = [46, 122, 101, 114, 111] then zeroR S
 else .error 112
def stmtR (what : List UInt8) (S : PS) : Except Int PS :=
 if (Isa.named ⟨what.toArray⟩).2 = true then insR (insParse (Isa.named ⟨what.toArray⟩).1.toNat S.toks) S else otherR what S
def restR (S : PS) : Except Int PS :=
 if S.toks = [] then markR S
 else match rdNext 0 S.toks with
  | none => .error 112
  | some (t, l) => stmtR t.bytes { S with toks := l }
def oneR (S : PS) (s : List UInt8) : Except Int PS :=
 match tokens s with
 | none => .error 111
 | some l =>
   match lab (l.length + 1) [] l with
   | none => .error 112
   | some (fr, l1) => restR { S with line := S.line + 1, toks := l1, fresh := fr }
structure Bnd3 (S : PS) (n : Nat) : Prop where
 o0 : 0 ≤ S.origin
 pos : S.pos ≤ 4294967296
 c : S.count ≤ 4096
 puts : S.puts + n < 1000000
 labels : S.labels.length + n < 1000000
 pieces : S.pieces.length + n < 1000000
 line0 : 0 ≤ S.line
 line1 : S.line + n < 1000000
 fresh : S.fresh = []
theorem toks_len : ∀ (f : Nat) (s : List UInt8) (l : List Tok), toks f s = some l → l.length ≤ s.length ∧ ∀ t ∈ l, t.bytes.length ≤ s.length
 | 0, s, l, h => by cases h
 | f + 1, s, l, h => by
   rw [toks] at h
   have ht := trim_le s
   cases hq : trim s with
   | nil => rw [hq] at h; cases h; simp
   | cons c r =>
     rw [hq] at h ht
     dsimp only at h
     cases hk : tok c (c :: r) with
     | none => rw [hk] at h; cases h
     | some t =>
       rw [hk] at h
       dsimp only at h
       obtain ⟨h1, h2, _⟩ := tok_len c r t hk
       cases hr : toks f ((c :: r).drop t.bytes.length) with
       | none => rw [hr] at h; cases h
       | some l' =>
         rw [hr] at h
         cases h
         have ih := toks_len f _ l' hr
         rw [List.length_drop] at ih
         simp only [List.length_cons] at ih ht ⊢
         refine ⟨by omega, fun u hu => ?_⟩
         rcases List.mem_cons.1 hu with rfl | hu
         · omega
         · have := ih.2 u hu; omega
theorem tokens_len {s : List UInt8} {l : List Tok} (h : tokens s = some l) : l.length ≤ s.length ∧ ∀ t ∈ l, t.bytes.length ≤ s.length := by
 have h1 : (beforeHash s).length ≤ s.length := by unfold beforeHash; split <;> simp <;> omega
 obtain ⟨h2, h3⟩ := toks_len _ _ _ h
 exact ⟨by omega, fun t ht => by have := h3 t ht; omega⟩
theorem lab_len : ∀ (n : Nat) (fr : List (List UInt8)) (l : List Tok) (fr' : List (List UInt8)) (l' : List Tok), lab n fr l = some (fr', l') → TokB l → (∀ x ∈ fr, x.length ≤ 1000000) →
 fr'.length + l'.length ≤ fr.length + l.length ∧ TokB l' ∧ (∀ x ∈ fr', x.length ≤ 1000000)
 | 0, fr, l, fr', l', h, hb, hf => by rw [lab] at h; cases h; exact ⟨Nat.le_refl _, hb, hf⟩; intro; simp
 | n + 1, fr, [], fr', l', h, hb, hf => by rw [lab] at h; cases h; exact ⟨Nat.le_refl _, hb, hf⟩; intro; simp
 | n + 1, fr, [t], fr', l', h, hb, hf => by rw [lab] at h; cases h; exact ⟨Nat.le_refl _, hb, hf⟩; intro; simp
 | n + 1, fr, t :: u :: ts, fr', l', h, hb, hf => by
   rw [lab] at h
   split at h
   · split at h
     · have ih := lab_len n _ ts fr' l' h (fun x hx => hb x (by simp [hx])) (fun x hx => by
        rcases List.mem_append.1 hx with hx | hx
        · exact hf x hx
        · simp at hx; subst hx; exact hb t (by simp))
       refine ⟨?_, ih.2⟩
       have := ih.1
       rw [List.length_append] at this
       simp only [List.length_cons, List.length_nil] at this ⊢
       omega
     · cases h
   · cases h; exact ⟨Nat.le_refl _, hb, hf⟩
end Asm
end Go.Proofs.YtabmlbnnhhpaoaaGreatDoor
namespace Go.Proofs.YtabmlbnnhhpaoaaGreatDoor
open Go.RowKit Go.Shelf
namespace Asm
def OtherOk (fn : Nat) (f : PS → Except Int PS) : Prop :=
 ∀ (C : PB) (T : PS) (y : World), TokB T.toks → Bnd2 T → T.toks.length ≤ 100000 → Par C T y → Calls Tryz.prog fn #[.pointer (some ⟨C.b, 0, none⟩)] y (Outc C y T.line (f T))
end Asm
theorem other_none (what : List UInt8) (h : ∀ p ∈ Asm.otherKeys, p.1 ≠ what) : Maps.has (Asm.othersD Asm.otherKeys (.map [])) (.string what) = false := by
 have key : ∀ (l : List (List UInt8 × Nat)) (D : DataW Value), (∀ p ∈ l, p.1 ≠ what) → Maps.has (Asm.othersD l D) (.string what) = Maps.has D (.string what) := by
  intro l
  induction l with
  | nil => intro D _; rfl
  | cons p l ih =>
    intro D hl
    have h1 := ih (D.put (.string p.1) (.held (.func (.func p.2) #[] #[]))) (fun q hq => hl q (by simp [hq]))
    have h2 : Maps.has (D.put (.string p.1) (.held (.func (.func p.2) #[] #[]))) (.string what) = Maps.has D (.string what) :=
     Maps.has_put_other (fun e => hl p (by simp) (by injection e with e; exact e.symm)) _
    exact h1.trans h2
 exact key _ _ h
theorem other_cases (what : List UInt8) :
 (∃ fn, (∀ (xs : Array Value) (w : World), (callFunc fn xs).run Tryz.prog w = .ok (.enter fn xs) w) ∧ (Asm.othersD Asm.otherKeys (.map [])).atKey (.string what) (.held .nilFunc) = .held (.func (.func fn) #[] #[]) ∧ Maps.has (Asm.othersD Asm.otherKeys (.map [])) (.string what) = true ∧ Asm.OtherOk fn (Asm.otherR what)) ∨
 (Maps.has (Asm.othersD Asm.otherKeys (.map [])) (.string what) = false ∧ ∀ T, Asm.otherR what T = .error 112) := by
 by_cases h1 : what = [108, 105]
 · subst h1
   exact .inl ⟨106, fun _ _ => by kernel_rfl, rfl, rfl, fun C T y a b c d => li_any C T a b y d⟩
 by_cases h2 : what = [109, 118]
 · subst h2
   exact .inl ⟨107, fun _ _ => by kernel_rfl, rfl, rfl, fun C T y a b c d => mv_any C T a b y d⟩
 by_cases h3 : what = [106]
 · subst h3
   exact .inl ⟨108, fun _ _ => by kernel_rfl, rfl, rfl, fun C T y a b c d => j_any C T a b y d⟩
 by_cases h4 : what = [99, 97, 108, 108]
 · subst h4
   exact .inl ⟨109, fun _ _ => by kernel_rfl, rfl, rfl, fun C T y a b c d => call_any C T a b y d⟩
 by_cases h5 : what = [114, 101, 116]
 · subst h5
   exact .inl ⟨110, fun _ _ => by kernel_rfl, rfl, rfl, fun C T y a b c d => ret_any C T b y d⟩
 by_cases h6 : what = [46, 111, 114, 103]
 · subst h6
   exact .inl ⟨111, fun _ _ => by kernel_rfl, rfl, rfl, fun C T y a b c d => org_any C T b y d⟩
 by_cases h7 : what = [46, 119, 111, 114, 100]
 · subst h7
   exact .inl ⟨112, fun _ _ => by kernel_rfl, rfl, rfl, fun C T y a b c d => word_any C T a b c y d⟩
 by_cases h8 : what = [46, 122, 101, 114, 111]
 · subst h8
   exact .inl ⟨113, fun _ _ => by kernel_rfl, rfl, rfl, fun C T y a b c d => zero_any C T b y d⟩
 refine .inr ⟨other_none what ?_, fun T => ?_⟩
 · intro p hp
   simp only [Asm.otherKeys, List.mem_cons, List.not_mem_nil, or_false] at hp
   rcases hp with rfl | rfl | rfl | rfl | rfl | rfl | rfl | rfl <;> (dsimp only; exact fun e => by simp_all)
 · unfold Asm.otherR
   rw [if_neg h1, if_neg h2, if_neg h3, if_neg h4, if_neg h5, if_neg h6, if_neg h7, if_neg h8]
end Go.Proofs.YtabmlbnnhhpaoaaGreatDoor
set_option maxHeartbeats 8000000
set_option maxRecDepth 100000
namespace Go.Proofs.YtabmlbnnhhpaoaaGreatDoor
open Go.RowKit Go.Shelf
namespace Asm
theorem Bnd3.two {S : PS} {n : Nat} (h : Bnd3 S n) (l : List Tok) (fr : List (List UInt8)) (h1 : fr.length ≤ n) (h2 : ∀ x ∈ fr, x.length ≤ 1000000) (hn : 1 ≤ n) : Bnd2 { S with line := S.line + 1, toks := l, fresh := fr } :=
 ⟨h.o0, h.pos, h.c, by have := h.puts; show S.puts + fr.length < _; omega, by have := h.labels; show S.labels.length + fr.length < _; omega, by have := h.pieces; show S.pieces.length < _; omega, h2, by have := h.line0; show 0 ≤ S.line + 1; omega, by have := h.line1; show S.line + 1 ≤ _; omega⟩
end Asm
theorem one_any (s : List UInt8) (n : Nat) (hsn : s.length + 1 ≤ n) (hl : s.length ≤ 100000) (B : Asm.PB) (S : Asm.PS) (hb : Asm.Bnd3 S n) (w : World) (hP : Asm.Par B S w) :
 Calls Tryz.prog 27 #[.pointer (some ⟨B.b, 0, none⟩), .string ⟨s.toArray⟩] w (Asm.Outc B w (S.line + 1) (Asm.oneR S s)) := by
 obtain ⟨R, hR⟩ : ∃ R, Asm.oneR S s = R := ⟨_, rfl⟩
 rw [hR]
 unfold Asm.oneR at hR
 have HR := Lib.hid hR
 clear hR
 have hf1 := field1
 have hln0 := hb.line0
 have hln1 := hb.line1
 have c0 : w.cell? ⟨B.b, 0, none⟩ = some (.int .i64 S.line) := (blk_facts hP.own).1 0
 have g0 : w.frozen? ⟨B.b, 0, none⟩ = false := (blk_facts hP.own).2 0
 have z0 := blk_size hP.own
 obtain ⟨hP1, st1⟩ := hP.set 0 (.int .i64 (S.line + 1)) B.vt (S.line + 1) S.toks S.origin S.placed S.count rfl hP.toks
 have hT := tokens_calls s (by omega) (w.setCell ⟨B.b, 0, none⟩ (.int .i64 (S.line + 1)))
 cases hts : Asm.tokens s with
 | none =>
   rw [hts] at hT
   have hR : R = .error 111 := by rw [← HR.out, hts]
   have HR2 := Lib.hid hR
   clear hR HR hts
   go_enter Tryz.func27, Tryz.ntmps27
   go_wp2_with fail
   refine hT.mono ?_
   rintro e y1 ⟨rfl, hb1⟩
   have hF := fail_calls _ _ 111 _ (hP1.kept hb1)
   dsimp only at hF
   have st2 := st1.belowAfter hb1
   go_wp2_with fail
   refine hF.mono ?_
   rintro e y2 ⟨rfl, ho⟩
   exact ⟨rfl, .bad HR2.out (Asm.Bad.after st2 ⟨rfl, ho⟩)⟩
 | some l0 =>
   rw [hts] at hT
   have hR := HR.out
   clear HR
   rw [hts] at hR
   dsimp only at hR
   obtain ⟨hl1, hl2⟩ := Asm.tokens_len hts
   have tb0 : Asm.TokB l0 := fun t ht => by have := hl2 t ht; omega
   clear hts hl2
   obtain ⟨L, hL⟩ : ∃ L, Asm.lab (l0.length + 1) [] l0 = L := ⟨_, rfl⟩
   rw [hL] at hR
   have HL := Lib.hid hL
   have HRN := Lib.hid (fun h => by rw [← hR, h] : L = none → R = .error 112)
   have HRS := Lib.hid (fun fr l1 h => by rw [← hR, h] : ∀ fr l1, L = some (fr, l1) → R = Asm.restR { S with line := S.line + 1, toks := l1, fresh := fr })
   clear hL hR
   go_enter Tryz.func27, Tryz.ntmps27
   go_wp2_with fail
   refine hT.mono ?_
   rintro e y1 ⟨v1, rfl, hrow, hb1⟩
   clear hT
   have hP2 := hP1.kept hb1
   have st2 := st1.belowAfter hb1
   obtain ⟨p1, cap1, hv1⟩ := Asm.row_slice hrow
   subst hv1
   have view : Asm.TokView y1 (.slice p1 l0.length cap1) l0 := Asm.tokView_row hrow
   obtain ⟨hP3, st3⟩ := hP2.set 1 (.slice p1 l0.length cap1) (.slice p1 l0.length cap1) (S.line + 1) l0 S.origin S.placed S.count rfl view
   have st4 := st2.trans st3
   have c1 : y1.cell? ⟨B.b, 1, none⟩ = some B.vt := (blk_facts hP2.own).1 1
   have g1 : y1.frozen? ⟨B.b, 1, none⟩ = false := (blk_facts hP2.own).2 1
   have z1 : B.b < y1.heap.size := blk_size hP2.own
   obtain ⟨nl, hnl⟩ : ∃ nl, l0.length = nl := ⟨_, rfl⟩
   rw [hnl] at hP3 st4
   clear hP2 hP1 hrow view st1 st2 st3
   rw [hnl]
   go_wp2_with fail
   clear c0 g0 z0 c1 g1 z1
   generalize y1.setCell _ _ = Y at hP3 st4 ⊢
   have hPY : ∃ C, Asm.Par C { S with line := S.line + 1, toks := l0, fresh := [] } Y ∧ Asm.Step B w C Y := ⟨_, by have h := hb.fresh; rw [← h]; exact hP3, st4⟩
   clear hP3 st4 hb1
   obtain ⟨C0, hPY, st0⟩ := hPY
   have HNL := Lib.hid hnl
   have hb' := Lib.hid hb
   clear hb hnl
   go_loopw [32] (fun _ wr => ∃ (fr : List (List UInt8)) (l : List Asm.Tok) (C : Asm.PB) (m : Nat), l.length < m ∧ fr.length + l.length ≤ nl ∧ Hid (Asm.lab m fr l = L) ∧ Asm.TokB l ∧ (∀ x ∈ fr, x.length ≤ 1000000) ∧ Asm.Par C { S with line := S.line + 1, toks := l, fresh := fr } wr ∧ Asm.Step B w C wr) (fun _ wr => Asm.left B.b wr)
   case atStart =>
    refine ⟨[], l0, C0, nl + 1, by have := HNL.out; omega, by have := HNL.out; simp; omega, Lib.hid ?_, tb0, by simp, hPY, st0⟩
    rw [← HNL.out]
    exact HL.out
   case round =>
    clear hPY st0 tb0
    obtain ⟨fr, l, C, m, hlm, hfl, HI, tb, hfr, hPr, st⟩ := hrel
    have eb : C.b = B.b := st.b
    have hleft : Asm.left B.b wr = l.length := eb ▸ hPr.left
    obtain ⟨m', rfl⟩ : ∃ m', m = m' + 1 := ⟨m - 1, by omega⟩
    have hI := HI.out
    clear HI
    by_cases hlab : ∃ t u ts, l = t :: u :: ts ∧ t.sort = 0 ∧ u.sort = 2 ∧ u.bytes = [58]
    · obtain ⟨t, u, ts, rfl, hs0, hs2, hb58⟩ := hlab
      rw [Asm.lab, if_pos ⟨hs0, hs2, hb58⟩] at hI
      have HI := Lib.hid hI
      have HLF := Lib.hid hleft
      have HB58 := Lib.hid hb58
      have htl := tb t (by simp)
      clear hI hleft
      obtain ⟨vg, vo, vc, w5, w6, w1, w2, w3, w4, w7, w8⟩ := hPr.view rfl
      rw [eb] at w1 w7
      rw [show ((t.sort : Nat) : Int) = 0 from by omega] at w2
      obtain ⟨w9, w10⟩ := w4 _ _ rfl
      rw [show ((u.sort : Nat) : Int) = 2 from by omega] at w9
      rw [hb58] at w10
      clear w4 hb58
      simp only [List.length_cons] at w1 w5
      go_wp2_with fail
      clear w1 w2 w3 w5 w6 w7 w8 w9 w10
      have hq := next_calls C { S with line := S.line + 1, toks := t :: u :: ts, fresh := fr } t (u :: ts) rfl _ hPr |> fun h => (by rw [show ((t.sort : Nat) : Int) = 0 from by omega] at h; exact h)
      rw [eb] at hq
      refine hq.mono ?_
      rintro e x1 ⟨rfl, C1, hQ1, sp1⟩
      clear hq
      have sq1 := st.trans sp1
      have eb1 : C1.b = B.b := sq1.b
      clear hPr st sp1 eb
      go_wp2_with fail
      refine (asmName_calls t.bytes (by omega) _).mono ?_
      rintro e x9 ⟨rfl, h9⟩
      rw [h9]
      clear h9
      cases hok : Asm.nameOk t.bytes with
      | false =>
        have hF := fail_calls C1 { S with line := S.line + 1, toks := u :: ts, fresh := fr } 112 _ hQ1
        rw [eb1] at hF
        dsimp only at hF
        have hR2 := Lib.hid (HRN.out (by rw [← HI.out, if_neg (by rw [hok]; simp)]))
        clear hok HRN HRS HI
        go_wp2_with fail
        refine hF.mono ?_
        rintro e w1 ⟨rfl, ho⟩
        exact ⟨rfl, .bad hR2.out (Asm.Bad.after sq1 ⟨rfl, ho⟩)⟩
      | true =>
        have hI := HI.out
        rw [if_pos hok] at hI
        have HI2 := Lib.hid hI
        clear hI HI hok
        go_wp2_with fail
        have hq := comma_calls C1 { S with line := S.line + 1, toks := u :: ts, fresh := fr } u ts 58 rfl ⟨hs2, HB58.out⟩ _ hQ1
        rw [eb1] at hq
        refine hq.mono ?_
        rintro e x2 ⟨rfl, C2, hQ2, sp2⟩
        clear hq
        have sq2 := sq1.trans sp2
        have eb2 : C2.b = B.b := sq2.b
        clear hQ1 sq1 sp2 eb1
        obtain ⟨i0, hinf, hz0, hz1, hz2⟩ := info_parts asm_info9
        have hcn := cell_one_new x2 (.string ⟨t.bytes.toArray⟩) 9
        have hW := hQ2.kept (below_alloc' (Below.refl x2.heap.size x2) (.cells #[.string ⟨t.bytes.toArray⟩] 9))
        have c8 : x2.cell? ⟨B.b, 8, none⟩ = some C2.vf := by have h := (blk_facts hQ2.own).1 8; rw [eb2] at h; exact h
        have z8 : B.b < x2.heap.size := by have h := blk_size hQ2.own; rw [eb2] at h; exact h
        have hn8 : C2.n0 ≤ B.b := by have h := hQ2.b0; rw [eb2] at h; exact h
        simp only [List.length_cons] at hlm hfl
        have hnlb : nl ≤ 100000 := by have := HNL.out; omega
        go_wp2_with (at_builtin; refine wpList_append_own_at _ rfl _ _ 52 rfl C2.n0 9 i0 _ 1 16 Tryz.underlying52 hinf hz0 hz1 hz2 rfl (by decide) _ _ _ rfl hW.fresh ⟨x2.heap.size, 0, none⟩ 1 1 [.string ⟨t.bytes.toArray⟩] rfl rfl hcn (by simp [Value.oneCell']) (by show fr.length + 1 ≤ maxLen; unfold maxLen; omega) (by show (fr.length + 1) * 16 ≤ _; omega) (by rw [alloc_size]; omega) ?_; intro v6 w6 hrow6 hgr6 hnil6 hblk6; have k6 := (hgr6.block C2.b (blk_size hW.own) (Asm.rowNot hW.fresh hW.own (by decide))).trans hW.own; have c6z : w6.cell? ⟨B.b, 8, none⟩ = some C2.vf := eb2 ▸ (blk_facts k6).1 8; have f6z : w6.frozen? ⟨B.b, 8, none⟩ = false := eb2 ▸ (blk_facts k6).2 8; obtain ⟨p6, cap6, hv6⟩ := Asm.row_slice hrow6; subst hv6)
        obtain ⟨hP6, ho6⟩ := hW.vfPush t.bytes _ hrow6 hgr6 hblk6
        have st6 := (sq2.belowAfter (below_alloc' (Below.refl x2.heap.size x2) (.cells #[.string ⟨t.bytes.toArray⟩] 9))).trans (Asm.Par.vfStep ho6 hblk6)
        rw [eb2] at hP6 st6
        have hm7 : Asm.left B.b (w6.setCell ⟨B.b, 8, none⟩ (.slice p6 (fr.length + 1) cap6)) = ts.length := hP6.left
        have HM7 := Lib.hid hm7
        clear hQ2 sq2 hW hrow6 hgr6 hnil6 hblk6 k6 c6z f6z c8 z8 hn8 ho6 hm7
        generalize w6.setCell _ _ = Y6 at hP6 st6 HM7 ⊢
        go_roundw
        case rel =>
         exact ⟨fr ++ [t.bytes], ts, _, m', by omega, by rw [List.length_append]; simp only [List.length_cons, List.length_nil]; omega, HI2, tb.sub ⟨t, rfl⟩ |>.sub ⟨u, rfl⟩, fun x hx => by
          rcases List.mem_append.1 hx with hx | hx
          · exact hfr x hx
          · simp at hx; subst hx; exact htl, hP6, st6⟩
        case measure =>
         rw [HM7.out, HLF.out]
         simp only [List.length_cons]
         omega
    · have hex : L = some (fr, l) := by
       rw [← hI]
       rcases l with _ | ⟨t, _ | ⟨u, ts⟩⟩
       · simp [Asm.lab]
       · simp [Asm.lab]
       · rw [Asm.lab, if_neg (fun h => hlab ⟨t, u, ts, rfl, h⟩)]
      have hRe := HRS.out fr l hex
      have HRE := Lib.hid hRe
      have hlf := fr.length + l.length ≤ nl
      have HB2 : Hid (∀ l', Asm.Bnd2 { S with line := S.line + 1, toks := l', fresh := fr }) := Lib.hid fun l' => hb'.out.two l' fr (by have := HNL.out; omega) hfr (by omega)
      have HSUB : Hid (∀ t3 l3, Asm.rdNext 0 l = some (t3, l3) → ∃ q, l3.length + 1 = q ∧ q ≤ nl ∧ Asm.TokB l3 ∧ t3.bytes.length ≤ 1000000) := Lib.hid fun t3 l3 h => by
       cases l with
       | nil => cases h
       | cons t l =>
         rw [Asm.rdNext] at h
         split at h
         · cases h
           simp only [List.length_cons] at hfl
           exact ⟨_, rfl, by omega, tb.sub ⟨_, rfl⟩, tb _ (by simp)⟩
         · cases h
      clear hI hex hRe hlf hleft hlm hfl hfr
      rcases l with _ | ⟨t, _ | ⟨u, ts⟩⟩
      · obtain ⟨vp, vc, w1, w2⟩ := hPr.viewNil rfl
        rw [eb] at w1 w2
        have hmk := mark_any2 C { S with line := S.line + 1, toks := [], fresh := fr } (HB2.out []) wr hPr
        have hR3 : R = Asm.markR { S with line := S.line + 1, toks := [], fresh := fr } := by rw [HRE.out]; unfold Asm.restR; rw [if_pos rfl]
        rw [eb, ← hR3] at hmk
        dsimp only at hmk
        clear hR3 HRE HRN HRS
        go_wp2_with fail
        refine hmk.mono ?_
        intro e x10 hO
        have hO2 := hO.after st
        clear hO hmk
        rcases R with er | T
        · obtain ⟨rfl, ho⟩ := hO2
          exact ⟨rfl, rfl, ho⟩
        obtain ⟨rfl, D, hD, sD⟩ := hO2
        go_wp2_with fail
        exact bodyPost_ret (v := .tuple #[]) (by simp [results, Tryz.results27, go_sem]) rfl ⟨rfl, D, hD, sD⟩
      · obtain ⟨vg, vo, vc, w5, w6, w1, w2, w3, w4, w7, w8⟩ := hPr.view rfl
        rw [eb] at w1 w7
        simp only [List.length_nil, Nat.zero_add] at w1 w5
        have hnx := next_step C { S with line := S.line + 1, fresh := fr } [t] 0 wr hPr
        rw [eb] at hnx
        clear w4
        go_wp2_with fail
        clear w1 w2 w3 w5 w6 w7 w8
        refine hnx.mono ?_
        rintro e x3 (⟨hk, rfl, ho⟩ | ⟨t3, l3, hk, rfl, C3, hQ3, sp3⟩)
        · exact ⟨rfl, .bad (by rw [HRE.out]; unfold Asm.restR; rw [if_neg (by simp), hk]) (Asm.Bad.after st ⟨rfl, ho⟩)⟩
        have hR3 : R = Asm.stmtR t3.bytes { S with line := S.line + 1, toks := l3, fresh := fr } := by rw [HRE.out]; unfold Asm.restR; rw [if_neg (by simp), hk]
        have HR3 := Lib.hid hR3
        have sub3 : ∃ q, l3.length + 1 = q ∧ q ≤ nl ∧ Asm.TokB l3 ∧ t3.bytes.length ≤ 1000000 := HSUB.out t3 l3 hk
        obtain ⟨q3, hq3, hq3n, tb3, htb3⟩ := sub3
        have HQ3 := Lib.hid (And.intro hq3 hq3n)
        clear hR3 hk hnx hq3 hq3n
        have sq3 := st.trans sp3
        have eb3 : C3.b = B.b := sq3.b
        clear hPr st sp3 eb
        go_wp2_with fail
        refine (Named_calls ⟨t3.bytes.toArray⟩ _).mono ?_
        rintro e x8 ⟨rfl, h8⟩
        have hP8 := hQ3.kept h8
        have st8 := sq3.belowAfter h8
        clear hQ3 sq3
        have hb2 : Asm.Bnd2 { S with line := S.line + 1, toks := l3, fresh := fr } := HB2.out l3
        cases hnd : (Isa.named ⟨t3.bytes.toArray⟩).2 with
        | true =>
          obtain ⟨op, ho1, ho2, ho3⟩ := Isa.named_range _ hnd
          have hR4 : R = Asm.insR (Asm.insParse op l3) { S with line := S.line + 1, toks := l3, fresh := fr } := by
           rw [HR3.out]; unfold Asm.stmtR; rw [if_pos hnd, ho1, Int.toNat_natCast]
          rw [ho1]
          have hq := instr_any op ho2 ho3 C3 { S with line := S.line + 1, toks := l3, fresh := fr } tb3 hb2 _ hP8
          dsimp only at hq
          rw [eb3, ← hR4] at hq
          clear hR4 HR3 HRE HRN HRS hnd ho1
          go_wp2_with fail
          refine hq.mono ?_
          intro e x10 hO
          have hO2 := hO.after st8
          clear hO hq
          rcases R with er | T
          · obtain ⟨rfl, ho⟩ := hO2
            exact ⟨rfl, rfl, ho⟩
          obtain ⟨rfl, D, hD, sD⟩ := hO2
          go_wp2_with fail
          go_end0
          exact ⟨rfl, D, hD, sD⟩
        | false =>
          have hR4 : R = Asm.otherR t3.bytes { S with line := S.line + 1, toks := l3, fresh := fr } := by
           rw [HR3.out]; unfold Asm.stmtR; rw [if_neg (by rw [hnd]; simp)]
          have HR4 := Lib.hid hR4
          clear hR4 HR3 HRE HRN HRS
          go_wp2_with fail
          refine (others_calls _).mono ?_
          rintro e x9 ⟨g9, rfl, hg9, o9, h9⟩
          obtain ⟨f9, ps9, hlk, hf9⟩ := o9.look_ok (Maps.string_keyed Tryz.underlying9) Tryz.underlying134 (z := .nilFunc) (Tryz.zeroValue132 x9) (show Asm.RV .nilFunc = _ from rfl) (Go.WideMaps.keyOf_string_mk Tryz.underlying9 (s := ⟨t3.bytes.toArray⟩) (by simp [ByteArray.size, maxLen]; omega))
          rw [show (⟨t3.bytes.toArray⟩ : ByteArray).data.toList = t3.bytes from rfl] at hlk hf9
          have hP9 := hP8.kept h9
          have st9 := st8.belowAfter h9
          clear hP8 st8 hnd
          rcases other_cases t3.bytes with ⟨fn, hcf, hat, hhas, hok⟩ | ⟨hhas, hno⟩
          · rw [hhas] at hlk
            rw [hat] at hf9
            have hf9' : f9 = .func (.func fn) #[] #[] := by injection (congrArg Prod.fst (Option.some.inj hf9))
            subst hf9'
            clear hf9 hhas hat
            have hq := hok C3 { S with line := S.line + 1, toks := l3, fresh := fr } _ tb3 hb2 (by show l3.length ≤ 100000; have := HQ3.out; have := HNL.out; omega) hP9
            have hRe := HR4.out
            rw [eb3, ← hRe] at hq
            dsimp only at hq
            clear hRe HR4 hok
            go_wp2_with fail
            refine hq.mono ?_
            intro e x10 hO
            have hO2 := hO.after st9
            clear hO hq
            rcases R with er | T
            · obtain ⟨rfl, ho⟩ := hO2
              exact ⟨rfl, rfl, ho⟩
            obtain ⟨rfl, D, hD, sD⟩ := hO2
            go_wp2_with fail
            go_end0
            exact ⟨rfl, D, hD, sD⟩
          · rw [hhas] at hlk
            have hF := fail_calls C3 { S with line := S.line + 1, toks := l3, fresh := fr } 112 _ hP9
            rw [eb3] at hF
            dsimp only at hF
            have hR5 := Lib.hid (HR4.out.trans (hno _))
            clear hno HR4 hhas
            go_wp2_with fail
            refine hF.mono ?_
            rintro e w1 ⟨rfl, ho⟩
            exact ⟨rfl, .bad hR5.out (Asm.Bad.after st9 ⟨rfl, ho⟩)⟩
      · obtain ⟨vg, vo, vc, w5, w6, w1, w2, w3, w4, w7, w8⟩ := hPr.view rfl
        rw [eb] at w1 w7
        obtain ⟨w9, w10⟩ := w4 _ _ rfl
        clear w4
        simp only [List.length_cons] at w1 w5
        have hnx := next_step C { S with line := S.line + 1, fresh := fr } (t :: u :: ts) 0 wr hPr
        rw [eb] at hnx
        by_cases hs0 : t.sort = 0
        · have e0 : ((t.sort : Nat) : Int) = 0 := by omega
          rw [e0] at w2
          by_cases hs2 : u.sort = 2
          · have e2 : ((u.sort : Nat) : Int) = 2 := by omega
            rw [e2] at w9
            have hne : (u.bytes == [58]) = false := by
             have h : u.bytes ≠ [58] := fun h => hlab ⟨t, u, ts, rfl, hs0, hs2, h⟩
             simpa using h
            clear hlab e0 e2 hs0 hs2
            go_wp2_with fail
            clear w1 w2 w3 w5 w6 w7 w8 w9 w10
            refine hnx.mono ?_
            rintro e x3 (⟨hk, rfl, ho⟩ | ⟨t3, l3, hk, rfl, C3, hQ3, sp3⟩)
            · exact ⟨rfl, .bad (by rw [HRE.out]; unfold Asm.restR; rw [if_neg (by simp), hk]) (Asm.Bad.after st ⟨rfl, ho⟩)⟩
            have hR3 : R = Asm.stmtR t3.bytes { S with line := S.line + 1, toks := l3, fresh := fr } := by rw [HRE.out]; unfold Asm.restR; rw [if_neg (by simp), hk]
            have HR3 := Lib.hid hR3
            have sub3 : ∃ q, l3.length + 1 = q ∧ q ≤ nl ∧ Asm.TokB l3 ∧ t3.bytes.length ≤ 1000000 := HSUB.out t3 l3 hk
            obtain ⟨q3, hq3, hq3n, tb3, htb3⟩ := sub3
            have HQ3 := Lib.hid (And.intro hq3 hq3n)
            clear hR3 hk hnx hq3 hq3n
            have sq3 := st.trans sp3
            have eb3 : C3.b = B.b := sq3.b
            clear hPr st sp3 eb
            go_wp2_with fail
            refine (Named_calls ⟨t3.bytes.toArray⟩ _).mono ?_
            rintro e x8 ⟨rfl, h8⟩
            have hP8 := hQ3.kept h8
            have st8 := sq3.belowAfter h8
            clear hQ3 sq3
            have hb2 : Asm.Bnd2 { S with line := S.line + 1, toks := l3, fresh := fr } := HB2.out l3
            cases hnd : (Isa.named ⟨t3.bytes.toArray⟩).2 with
            | true =>
              obtain ⟨op, ho1, ho2, ho3⟩ := Isa.named_range _ hnd
              have hR4 : R = Asm.insR (Asm.insParse op l3) { S with line := S.line + 1, toks := l3, fresh := fr } := by
               rw [HR3.out]; unfold Asm.stmtR; rw [if_pos hnd, ho1, Int.toNat_natCast]
              rw [ho1]
              have hq := instr_any op ho2 ho3 C3 { S with line := S.line + 1, toks := l3, fresh := fr } tb3 hb2 _ hP8
              dsimp only at hq
              rw [eb3, ← hR4] at hq
              clear hR4 HR3 HRE HRN HRS hnd ho1
              go_wp2_with fail
              refine hq.mono ?_
              intro e x10 hO
              have hO2 := hO.after st8
              clear hO hq
              rcases R with er | T
              · obtain ⟨rfl, ho⟩ := hO2
                exact ⟨rfl, rfl, ho⟩
              obtain ⟨rfl, D, hD, sD⟩ := hO2
              go_wp2_with fail
              go_end0
              exact ⟨rfl, D, hD, sD⟩
            | false =>
              have hR4 : R = Asm.otherR t3.bytes { S with line := S.line + 1, toks := l3, fresh := fr } := by
               rw [HR3.out]; unfold Asm.stmtR; rw [if_neg (by rw [hnd]; simp)]
              have HR4 := Lib.hid hR4
              clear hR4 HR3 HRE HRN HRS
              go_wp2_with fail
              refine (others_calls _).mono ?_
              rintro e x9 ⟨g9, rfl, hg9, o9, h9⟩
              obtain ⟨f9, ps9, hlk, hf9⟩ := o9.look_ok (Maps.string_keyed Tryz.underlying9) Tryz.underlying134 (z := .nilFunc) (Tryz.zeroValue132 x9) (show Asm.RV .nilFunc = _ from rfl) (Go.WideMaps.keyOf_string_mk Tryz.underlying9 (s := ⟨t3.bytes.toArray⟩) (by simp [ByteArray.size, maxLen]; omega))
              rw [show (⟨t3.bytes.toArray⟩ : ByteArray).data.toList = t3.bytes from rfl] at hlk hf9
              have hP9 := hP8.kept h9
              have st9 := st8.belowAfter h9
              clear hP8 st8 hnd
              rcases other_cases t3.bytes with ⟨fn, hcf, hat, hhas, hok⟩ | ⟨hhas, hno⟩
              · rw [hhas] at hlk
                rw [hat] at hf9
                have hf9' : f9 = .func (.func fn) #[] #[] := by injection (congrArg Prod.fst (Option.some.inj hf9))
                subst hf9'
                clear hf9 hhas hat
                have hq := hok C3 { S with line := S.line + 1, toks := l3, fresh := fr } _ tb3 hb2 (by show l3.length ≤ 100000; have := HQ3.out; have := HNL.out; omega) hP9
                have hRe := HR4.out
                rw [eb3, ← hRe] at hq
                dsimp only at hq
                clear hRe HR4 hok
                go_wp2_with fail
                refine hq.mono ?_
                intro e x10 hO
                have hO2 := hO.after st9
                clear hO hq
                rcases R with er | T
                · obtain ⟨rfl, ho⟩ := hO2
                  exact ⟨rfl, rfl, ho⟩
                obtain ⟨rfl, D, hD, sD⟩ := hO2
                go_wp2_with fail
                go_end0
                exact ⟨rfl, D, hD, sD⟩
              · rw [hhas] at hlk
                have hF := fail_calls C3 { S with line := S.line + 1, toks := l3, fresh := fr } 112 _ hP9
                rw [eb3] at hF
                dsimp only at hF
                have hR5 := Lib.hid (HR4.out.trans (hno _))
                clear hno HR4 hhas
                go_wp2_with fail
                refine hF.mono ?_
                rintro e w1 ⟨rfl, ho⟩
                exact ⟨rfl, .bad hR5.out (Asm.Bad.after st9 ⟨rfl, ho⟩)⟩
          · have e2 : ¬ ((u.sort : Nat) : Int) = 2 := by omega
            clear hlab e0 hs0 hs2
            go_wp2_with fail
            clear w1 w2 w3 w5 w6 w7 w8 w9 w10
            refine hnx.mono ?_
            rintro e x3 (⟨hk, rfl, ho⟩ | ⟨t3, l3, hk, rfl, C3, hQ3, sp3⟩)
            · exact ⟨rfl, .bad (by rw [HRE.out]; unfold Asm.restR; rw [if_neg (by simp), hk]) (Asm.Bad.after st ⟨rfl, ho⟩)⟩
            have hR3 : R = Asm.stmtR t3.bytes { S with line := S.line + 1, toks := l3, fresh := fr } := by rw [HRE.out]; unfold Asm.restR; rw [if_neg (by simp), hk]
            have HR3 := Lib.hid hR3
            have sub3 : ∃ q, l3.length + 1 = q ∧ q ≤ nl ∧ Asm.TokB l3 ∧ t3.bytes.length ≤ 1000000 := HSUB.out t3 l3 hk
            obtain ⟨q3, hq3, hq3n, tb3, htb3⟩ := sub3
            have HQ3 := Lib.hid (And.intro hq3 hq3n)
            clear hR3 hk hnx hq3 hq3n
            have sq3 := st.trans sp3
            have eb3 : C3.b = B.b := sq3.b
            clear hPr st sp3 eb
            go_wp2_with fail
            refine (Named_calls ⟨t3.bytes.toArray⟩ _).mono ?_
            rintro e x8 ⟨rfl, h8⟩
            have hP8 := hQ3.kept h8
            have st8 := sq3.belowAfter h8
            clear hQ3 sq3
            have hb2 : Asm.Bnd2 { S with line := S.line + 1, toks := l3, fresh := fr } := HB2.out l3
            cases hnd : (Isa.named ⟨t3.bytes.toArray⟩).2 with
            | true =>
              obtain ⟨op, ho1, ho2, ho3⟩ := Isa.named_range _ hnd
              have hR4 : R = Asm.insR (Asm.insParse op l3) { S with line := S.line + 1, toks := l3, fresh := fr } := by
               rw [HR3.out]; unfold Asm.stmtR; rw [if_pos hnd, ho1, Int.toNat_natCast]
              rw [ho1]
              have hq := instr_any op ho2 ho3 C3 { S with line := S.line + 1, toks := l3, fresh := fr } tb3 hb2 _ hP8
              dsimp only at hq
              rw [eb3, ← hR4] at hq
              clear hR4 HR3 HRE HRN HRS hnd ho1
              go_wp2_with fail
              refine hq.mono ?_
              intro e x10 hO
              have hO2 := hO.after st8
              clear hO hq
              rcases R with er | T
              · obtain ⟨rfl, ho⟩ := hO2
                exact ⟨rfl, rfl, ho⟩
              obtain ⟨rfl, D, hD, sD⟩ := hO2
              go_wp2_with fail
              go_end0
              exact ⟨rfl, D, hD, sD⟩
            | false =>
              have hR4 : R = Asm.otherR t3.bytes { S with line := S.line + 1, toks := l3, fresh := fr } := by
               rw [HR3.out]; unfold Asm.stmtR; rw [if_neg (by rw [hnd]; simp)]
              have HR4 := Lib.hid hR4
              clear hR4 HR3 HRE HRN HRS
              go_wp2_with fail
              refine (others_calls _).mono ?_
              rintro e x9 ⟨g9, rfl, hg9, o9, h9⟩
              obtain ⟨f9, ps9, hlk, hf9⟩ := o9.look_ok (Maps.string_keyed Tryz.underlying9) Tryz.underlying134 (z := .nilFunc) (Tryz.zeroValue132 x9) (show Asm.RV .nilFunc = _ from rfl) (Go.WideMaps.keyOf_string_mk Tryz.underlying9 (s := ⟨t3.bytes.toArray⟩) (by simp [ByteArray.size, maxLen]; omega))
              rw [show (⟨t3.bytes.toArray⟩ : ByteArray).data.toList = t3.bytes from rfl] at hlk hf9
              have hP9 := hP8.kept h9
              have st9 := st8.belowAfter h9
              clear hP8 st8 hnd
              rcases other_cases t3.bytes with ⟨fn, hcf, hat, hhas, hok⟩ | ⟨hhas, hno⟩
              · rw [hhas] at hlk
                rw [hat] at hf9
                have hf9' : f9 = .func (.func fn) #[] #[] := by injection (congrArg Prod.fst (Option.some.inj hf9))
                subst hf9'
                clear hf9 hhas hat
                have hq := hok C3 { S with line := S.line + 1, toks := l3, fresh := fr } _ tb3 hb2 (by show l3.length ≤ 100000; have := HQ3.out; have := HNL.out; omega) hP9
                have hRe := HR4.out
                rw [eb3, ← hRe] at hq
                dsimp only at hq
                clear hRe HR4 hok
                go_wp2_with fail
                refine hq.mono ?_
                intro e x10 hO
                have hO2 := hO.after st9
                clear hO hq
                rcases R with er | T
                · obtain ⟨rfl, ho⟩ := hO2
                  exact ⟨rfl, rfl, ho⟩
                obtain ⟨rfl, D, hD, sD⟩ := hO2
                go_wp2_with fail
                go_end0
                exact ⟨rfl, D, hD, sD⟩
              · rw [hhas] at hlk
                have hF := fail_calls C3 { S with line := S.line + 1, toks := l3, fresh := fr } 112 _ hP9
                rw [eb3] at hF
                dsimp only at hF
                have hR5 := Lib.hid (HR4.out.trans (hno _))
                clear hno HR4 hhas
                go_wp2_with fail
                refine hF.mono ?_
                rintro e w1 ⟨rfl, ho⟩
                exact ⟨rfl, .bad hR5.out (Asm.Bad.after st9 ⟨rfl, ho⟩)⟩
        · have e0 : ¬ ((t.sort : Nat) : Int) = 0 := by omega
          clear hlab hs0
          go_wp2_with fail
          clear w1 w2 w3 w5 w6 w7 w8 w9 w10
          refine hnx.mono ?_
          rintro e x3 (⟨hk, rfl, ho⟩ | ⟨t3, l3, hk, rfl, C3, hQ3, sp3⟩)
          · exact ⟨rfl, .bad (by rw [HRE.out]; unfold Asm.restR; rw [if_neg (by simp), hk]) (Asm.Bad.after st ⟨rfl, ho⟩)⟩
          have hR3 : R = Asm.stmtR t3.bytes { S with line := S.line + 1, toks := l3, fresh := fr } := by rw [HRE.out]; unfold Asm.restR; rw [if_neg (by simp), hk]
          have HR3 := Lib.hid hR3
          have sub3 : ∃ q, l3.length + 1 = q ∧ q ≤ nl ∧ Asm.TokB l3 ∧ t3.bytes.length ≤ 1000000 := HSUB.out t3 l3 hk
          obtain ⟨q3, hq3, hq3n, tb3, htb3⟩ := sub3
          have HQ3 := Lib.hid (And.intro hq3 hq3n)
          clear hR3 hk hnx hq3 hq3n
          have sq3 := st.trans sp3
          have eb3 : C3.b = B.b := sq3.b
          clear hPr st sp3 eb
          go_wp2_with fail
          refine (Named_calls ⟨t3.bytes.toArray⟩ _).mono ?_
          rintro e x8 ⟨rfl, h8⟩
          have hP8 := hQ3.kept h8
          have st8 := sq3.belowAfter h8
          clear hQ3 sq3
          have hb2 : Asm.Bnd2 { S with line := S.line + 1, toks := l3, fresh := fr } := HB2.out l3
          cases hnd : (Isa.named ⟨t3.bytes.toArray⟩).2 with
          | true =>
            obtain ⟨op, ho1, ho2, ho3⟩ := Isa.named_range _ hnd
            have hR4 : R = Asm.insR (Asm.insParse op l3) { S with line := S.line + 1, toks := l3, fresh := fr } := by
             rw [HR3.out]; unfold Asm.stmtR; rw [if_pos hnd, ho1, Int.toNat_natCast]
            rw [ho1]
            have hq := instr_any op ho2 ho3 C3 { S with line := S.line + 1, toks := l3, fresh := fr } tb3 hb2 _ hP8
            dsimp only at hq
            rw [eb3, ← hR4] at hq
            clear hR4 HR3 HRE HRN HRS hnd ho1
            go_wp2_with fail
            refine hq.mono ?_
            intro e x10 hO
            have hO2 := hO.after st8
            clear hO hq
            rcases R with er | T
            · obtain ⟨rfl, ho⟩ := hO2
              exact ⟨rfl, rfl, ho⟩
            obtain ⟨rfl, D, hD, sD⟩ := hO2
            go_wp2_with fail
            go_end0
            exact ⟨rfl, D, hD, sD⟩
          | false =>
            have hR4 : R = Asm.otherR t3.bytes { S with line := S.line + 1, toks := l3, fresh := fr } := by
             rw [HR3.out]; unfold Asm.stmtR; rw [if_neg (by rw [hnd]; simp)]
            have HR4 := Lib.hid hR4
            clear hR4 HR3 HRE HRN HRS
            go_wp2_with fail
            refine (others_calls _).mono ?_
            rintro e x9 ⟨g9, rfl, hg9, o9, h9⟩
            obtain ⟨f9, ps9, hlk, hf9⟩ := o9.look_ok (Maps.string_keyed Tryz.underlying9) Tryz.underlying134 (z := .nilFunc) (Tryz.zeroValue132 x9) (show Asm.RV .nilFunc = _ from rfl) (Go.WideMaps.keyOf_string_mk Tryz.underlying9 (s := ⟨t3.bytes.toArray⟩) (by simp [ByteArray.size, maxLen]; omega))
            rw [show (⟨t3.bytes.toArray⟩ : ByteArray).data.toList = t3.bytes from rfl] at hlk hf9
            have hP9 := hP8.kept h9
            have st9 := st8.belowAfter h9
            clear hP8 st8 hnd
            rcases other_cases t3.bytes with ⟨fn, hcf, hat, hhas, hok⟩ | ⟨hhas, hno⟩
            · rw [hhas] at hlk
              rw [hat] at hf9
              have hf9' : f9 = .func (.func fn) #[] #[] := by injection (congrArg Prod.fst (Option.some.inj hf9))
              subst hf9'
              clear hf9 hhas hat
              have hq := hok C3 { S with line := S.line + 1, toks := l3, fresh := fr } _ tb3 hb2 (by show l3.length ≤ 100000; have := HQ3.out; have := HNL.out; omega) hP9
              have hRe := HR4.out
              rw [eb3, ← hRe] at hq
              dsimp only at hq
              clear hRe HR4 hok
              go_wp2_with fail
              refine hq.mono ?_
              intro e x10 hO
              have hO2 := hO.after st9
              clear hO hq
              rcases R with er | T
              · obtain ⟨rfl, ho⟩ := hO2
                exact ⟨rfl, rfl, ho⟩
              obtain ⟨rfl, D, hD, sD⟩ := hO2
              go_wp2_with fail
              go_end0
              exact ⟨rfl, D, hD, sD⟩
            · rw [hhas] at hlk
              have hF := fail_calls C3 { S with line := S.line + 1, toks := l3, fresh := fr } 112 _ hP9
              rw [eb3] at hF
              dsimp only at hF
              have hR5 := Lib.hid (HR4.out.trans (hno _))
              clear hno HR4 hhas
              go_wp2_with fail
              refine hF.mono ?_
              rintro e w1 ⟨rfl, ho⟩
              exact ⟨rfl, .bad hR5.out (Asm.Bad.after st9 ⟨rfl, ho⟩)⟩
end Go.Proofs.YtabmlbnnhhpaoaaGreatDoor
