/- What this claim needs of FailI1, FailI2, FailI3, FailI4, FailI5. -/
import Derived.Test.YtabmlbnnhhpaoaaGreatDoorEMFailEG
import Derived.Test.YtabmlbnnhhpaoaaGreatDoorEAsmBoxes
set_option linter.unusedSimpArgs false
set_option linter.unusedVariables false
set_option maxHeartbeats 8000000
set_option maxRecDepth 100000
namespace Go.Proofs.YtabmlbnnhhpaoaaGreatDoor
open Go.RowKit Go.Shelf
theorem instrA_form1 (op : Nat) (h1 : 1 ≤ op) (h2 : op < 49) (hnm : op < 24 ∨ 31 < op) (hfo : Isa.formOf op = 1) (B : Asm.PB) (S : Asm.PS) (htb : Asm.TokB S.toks) (hb : Asm.Bnd2 S) (w : World) (hP : Asm.Par B S w) :
 Calls Tryz.prog 57 #[.pointer (some ⟨B.b, 0, none⟩), .int .i64 (op : Int)] w (Asm.Outc B w S.line (Asm.insR (Asm.ins1 op S.toks) S)) := by
 have hmm := @run_makeMap Tryz.prog
 have hix : Isa.ix (op : Int) = op := by unfold Isa.ix; rw [if_pos (by omega)]; rfl
 have hfc := Form_calls (op : Int)
 rw [hix, hfo] at hfc
 have hlt := hP.ltAll
 have zb := hlt B.b (.inl rfl)
 have hn0b := hP.b0
 obtain ⟨R, hR⟩ : ∃ R, Asm.insR (Asm.ins1 op S.toks) S = R := ⟨_, rfl⟩
 obtain ⟨l0, hl0⟩ : ∃ l0, S.toks = l0 := ⟨_, rfl⟩
 have hP0 : Asm.Par B { S with toks := l0 } w := by rw [← hl0]; exact hP
 rw [hR]
 rw [hl0] at hR htb
 obtain ⟨I, hI⟩ : ∃ I, Asm.ins1 op l0 = I := ⟨_, rfl⟩
 rw [hI] at hR
 have hRn : I = none → R = .error 112 := fun h => by rw [← hR, h]; rfl
 have hRs : ∀ x l, I = some (x, l) → R = Asm.putR { S with toks := l } ⟨S.line, S.pos, x.1, x.2, .enc⟩ 1 := fun x l h => by rw [← hR, h]; rfl
 unfold Asm.ins1 at hI
 have HI := Lib.hid hI
 have HRN := Lib.hid hRn
 have HRS := Lib.hid hRs
 clear hR hI hRn hRs hP hl0
 -- the boxes of the instruction and of the value, the map
 obtain ⟨W, W1, W2, W3, W4, W5, W6, hW, hWs, ⟨e1, e2, e3, e4, e5, e6, o6, off6, a1, a2, a3, a4, a5, a6, s1, s2, s3, s4, s5⟩, hb6, Kib6, Kvb6⟩ := instr_boxes op w
 rw [hWs] at e1
 rcases hnm with hnm | hnm
 all_goals go_enter Tryz.func57, Tryz.ntmps57
 all_goals (
  go_wp2_with fail
  refine (hfc _).mono ?_
  rintro e w7 ⟨rfl, hb7⟩
  have hlk := fields_look o6 hb7 1 (by decide) (.slice (some ⟨(W.heap.size), 0, none⟩) 3 3) rfl
  rw [hWs] at hlk a1
  go_wp2_with fail
  have K4 := heap_alloc_new w7 (.cells #[.int .i64 2, .int .i64 3, .int .i64 4, .int .i64 7] 147)
  have hb74 := below_next hb7 (below_alloc' (Below.refl w7.heap.size w7) (.cells #[.int .i64 2, .int .i64 3, .int .i64 4, .int .i64 7] 147))
  refine (hfc _).mono ?_
  rintro e w8 ⟨rfl, hb8⟩
  have K48 := blk_keep hb8 K4
  have hb68 := below_next hb74 hb8
  have hbw8 : Below w.heap.size w w8 := hb6.trans (hb68.mono hb6.size)
  have Kib := blk_keep hb68 Kib6
  have Kvb := blk_keep hb68 Kvb6
  have Ksl := blk_keep hb68 a1
  have hPs := hP0.kept hbw8
  have st := Asm.Step.belowAfter (Asm.Step.refl B w) hbw8
  have nib : ¬ B.owns w.heap.size := fun h => by have := hlt _ h; omega
  have nvb : ¬ B.owns (w.heap.size + 1) := fun h => by have := hlt _ h; omega
  have hslw : w.heap.size + 2 < (w.heap.size + 2 + 1) := by omega
  have nsl : ¬ B.owns (w.heap.size + 2 + 1) := fun h => by have := hlt _ h; omega
  go_wp2_with fail
  refine (contains_calls w7.heap.size 1 (by decide) _ K48).mono ?_
  rintro e w9 ⟨rfl, h9⟩
  rw [h9]
  clear h9 K48 K4 hb74 hb8 hb7 hlk hP0
  go_wp2_with fail
  refine wp_loop_rounds 4 ?_
  rw [rounds_succ]
  obtain ⟨dsl, fsl⟩ := blk_facts Ksl
  have pq : w8.cell? ⟨(w.heap.size + 2 + 1), 0, none⟩ = some (.pointer (some ⟨w.heap.size, 1, none⟩)) := dsl 0
  have zq := blk_size Ksl
  clear dsl fsl
  go_wp2_with fail
  clear pq zq
  have hq := reg_step B S l0 _ hPs
  refine hq.mono ?_
  rintro e y1 (⟨hk, rfl, ho⟩ | ⟨d, l1, hk, rfl, C1, hQ1, sp1⟩)
  · exact ⟨rfl, .bad (HRN.out (by have h := HI.out; rw [hk] at h; exact h.symm)) (Asm.Bad.after st ⟨rfl, ho⟩)⟩
  have h := HI.out
  rw [hk] at h
  dsimp only at h
  clear HI hq
  have HI := Lib.hid h
  clear h
  have tb1 := htb.sub (Asm.rdReg_sub hk)
  clear hk htb
  have sq1 := st.trans sp1
  have eb1 : C1.b = B.b := sq1.b
  obtain ⟨Kib1, nib1⟩ := sp1.keep Kib nib
  obtain ⟨Kvb1, nvb1⟩ := sp1.keep Kvb nvb
  obtain ⟨Ksl1, nsl1⟩ := sp1.keep Ksl nsl
  clear hPs st Kib Kvb sp1 Ksl
  obtain ⟨dib, fib⟩ := blk_facts Kib1
  have pq : y1.cell? ⟨w.heap.size, 1, none⟩ = some (.int .u8 0) := dib 1
  have gq : y1.frozen? ⟨w.heap.size, 1, none⟩ = false := fib 1
  have zq := blk_size Kib1
  clear dib fib
  have hR1 := hQ1.setOther Kib1 (by decide) nib1 1 (.int .u8 (d : Int))
  have sr1 := sq1.setOther (g := w.heap.size) (Nat.le_refl _) 1 (.int .u8 (d : Int))
  have Lib1 := setCell_row Kib1 1 (.int .u8 (d : Int)) (cs' := #[.int .i64 (op : Int), .int .u8 (d : Int), .int .u8 0, .int .u8 0, .int .i32 0]) rfl
  have Lvb1 := setCell_far Kvb1 (g := w.heap.size) (by omega) 1 (.int .u8 (d : Int))
  have Lsl1 := setCell_far Ksl1 (g := w.heap.size) (by omega) 1 (.int .u8 (d : Int))
  go_wp2_with fail
  clear pq gq zq hQ1 sq1 Kib1 Kvb1 Ksl1
  generalize y1.setCell _ _ = Z1 at hR1 sr1 Lib1 Lvb1 Lsl1 ⊢
  rw [rounds_succ]
  obtain ⟨dsl, fsl⟩ := blk_facts Lsl1
  have pq : Z1.cell? ⟨(w.heap.size + 2 + 1), 1, none⟩ = some (.pointer (some ⟨w.heap.size, 2, none⟩)) := dsl 1
  have zq := blk_size Lsl1
  clear dsl fsl
  go_wp2_with fail
  clear pq zq
  have hq := sign_step C1 S l1 44 _ hR1
  rw [eb1] at hq
  refine hq.mono ?_
  rintro e y2 (⟨hk, rfl, ho⟩ | ⟨l2, hk, rfl, C2, hQ2, sp2⟩)
  · exact ⟨rfl, .bad (HRN.out (by have h := HI.out; rw [hk] at h; exact h.symm)) (Asm.Bad.after sr1 ⟨rfl, ho⟩)⟩
  have h := HI.out
  rw [hk] at h
  dsimp only at h
  clear HI hq
  have HI := Lib.hid h
  clear h
  have tb2 := tb1.sub (Asm.rdSign_sub hk)
  clear hk tb1
  have sq2 := sr1.trans sp2
  have eb2 : C2.b = B.b := sq2.b
  obtain ⟨Kib2, nib2⟩ := sp2.keep Lib1 nib1
  obtain ⟨Kvb2, nvb2⟩ := sp2.keep Lvb1 nvb1
  obtain ⟨Ksl2, nsl2⟩ := sp2.keep Lsl1 nsl1
  clear hR1 sr1 Lib1 Lvb1 sp2 Lsl1
  go_wp2_with fail
  have hq := reg_step C2 S l2 _ hQ2
  rw [eb2] at hq
  refine hq.mono ?_
  rintro e y3 (⟨hk, rfl, ho⟩ | ⟨a, l3, hk, rfl, C3, hQ3, sp3⟩)
  · exact ⟨rfl, .bad (HRN.out (by have h := HI.out; rw [hk] at h; exact h.symm)) (Asm.Bad.after sq2 ⟨rfl, ho⟩)⟩
  have h := HI.out
  rw [hk] at h
  dsimp only at h
  clear HI hq
  have HI := Lib.hid h
  clear h
  have tb3 := tb2.sub (Asm.rdReg_sub hk)
  clear hk tb2
  have sq3 := sq2.trans sp3
  have eb3 : C3.b = B.b := sq3.b
  obtain ⟨Kib3, nib3⟩ := sp3.keep Kib2 nib2
  obtain ⟨Kvb3, nvb3⟩ := sp3.keep Kvb2 nvb2
  obtain ⟨Ksl3, nsl3⟩ := sp3.keep Ksl2 nsl2
  clear hQ2 sq2 Kib2 Kvb2 sp3 Ksl2
  obtain ⟨dib, fib⟩ := blk_facts Kib3
  have pq : y3.cell? ⟨w.heap.size, 2, none⟩ = some (.int .u8 0) := dib 2
  have gq : y3.frozen? ⟨w.heap.size, 2, none⟩ = false := fib 2
  have zq := blk_size Kib3
  clear dib fib
  have hR3 := hQ3.setOther Kib3 (by decide) nib3 2 (.int .u8 (a : Int))
  have sr3 := sq3.setOther (g := w.heap.size) (Nat.le_refl _) 2 (.int .u8 (a : Int))
  have Lib3 := setCell_row Kib3 2 (.int .u8 (a : Int)) (cs' := #[.int .i64 (op : Int), .int .u8 (d : Int), .int .u8 (a : Int), .int .u8 0, .int .i32 0]) rfl
  have Lvb3 := setCell_far Kvb3 (g := w.heap.size) (by omega) 2 (.int .u8 (a : Int))
  have Lsl3 := setCell_far Ksl3 (g := w.heap.size) (by omega) 2 (.int .u8 (a : Int))
  go_wp2_with fail
  clear pq gq zq hQ3 sq3 Kib3 Kvb3 Ksl3
  generalize y3.setCell _ _ = Z3 at hR3 sr3 Lib3 Lvb3 Lsl3 ⊢
  rw [rounds_succ]
  obtain ⟨dsl, fsl⟩ := blk_facts Lsl3
  have pq : Z3.cell? ⟨(w.heap.size + 2 + 1), 2, none⟩ = some (.pointer (some ⟨w.heap.size, 3, none⟩)) := dsl 2
  have zq := blk_size Lsl3
  clear dsl fsl
  go_wp2_with fail
  clear pq zq
  have hq := sign_step C3 S l3 44 _ hR3
  rw [eb3] at hq
  refine hq.mono ?_
  rintro e y4 (⟨hk, rfl, ho⟩ | ⟨l4, hk, rfl, C4, hQ4, sp4⟩)
  · exact ⟨rfl, .bad (HRN.out (by have h := HI.out; rw [hk] at h; exact h.symm)) (Asm.Bad.after sr3 ⟨rfl, ho⟩)⟩
  have h := HI.out
  rw [hk] at h
  dsimp only at h
  clear HI hq
  have HI := Lib.hid h
  clear h
  have tb4 := tb3.sub (Asm.rdSign_sub hk)
  clear hk tb3
  have sq4 := sr3.trans sp4
  have eb4 : C4.b = B.b := sq4.b
  obtain ⟨Kib4, nib4⟩ := sp4.keep Lib3 nib3
  obtain ⟨Kvb4, nvb4⟩ := sp4.keep Lvb3 nvb3
  obtain ⟨Ksl4, nsl4⟩ := sp4.keep Lsl3 nsl3
  clear hR3 sr3 Lib3 Lvb3 sp4 Lsl3
  go_wp2_with fail
  have hq := reg_step C4 S l4 _ hQ4
  rw [eb4] at hq
  refine hq.mono ?_
  rintro e y5 (⟨hk, rfl, ho⟩ | ⟨b, l5, hk, rfl, C5, hQ5, sp5⟩)
  · exact ⟨rfl, .bad (HRN.out (by have h := HI.out; rw [hk] at h; exact h.symm)) (Asm.Bad.after sq4 ⟨rfl, ho⟩)⟩
  have h := HI.out
  rw [hk] at h
  dsimp only at h
  clear HI hq
  have HI := Lib.hid h
  clear h
  have tb5 := tb4.sub (Asm.rdReg_sub hk)
  clear hk tb4
  have sq5 := sq4.trans sp5
  have eb5 : C5.b = B.b := sq5.b
  obtain ⟨Kib5, nib5⟩ := sp5.keep Kib4 nib4
  obtain ⟨Kvb5, nvb5⟩ := sp5.keep Kvb4 nvb4
  obtain ⟨Ksl5, nsl5⟩ := sp5.keep Ksl4 nsl4
  clear hQ4 sq4 Kib4 Kvb4 sp5 Ksl4
  obtain ⟨dib, fib⟩ := blk_facts Kib5
  have pq : y5.cell? ⟨w.heap.size, 3, none⟩ = some (.int .u8 0) := dib 3
  have gq : y5.frozen? ⟨w.heap.size, 3, none⟩ = false := fib 3
  have zq := blk_size Kib5
  clear dib fib
  have hR5 := hQ5.setOther Kib5 (by decide) nib5 3 (.int .u8 (b : Int))
  have sr5 := sq5.setOther (g := w.heap.size) (Nat.le_refl _) 3 (.int .u8 (b : Int))
  have Lib5 := setCell_row Kib5 3 (.int .u8 (b : Int)) (cs' := #[.int .i64 (op : Int), .int .u8 (d : Int), .int .u8 (a : Int), .int .u8 (b : Int), .int .i32 0]) rfl
  have Lvb5 := setCell_far Kvb5 (g := w.heap.size) (by omega) 3 (.int .u8 (b : Int))
  have Lsl5 := setCell_far Ksl5 (g := w.heap.size) (by omega) 3 (.int .u8 (b : Int))
  go_wp2_with fail
  clear pq gq zq hQ5 sq5 Kib5 Kvb5 Ksl5
  generalize y5.setCell _ _ = Z5 at hR5 sr5 Lib5 Lvb5 Lsl5 ⊢
  rw [rounds_succ]
  obtain ⟨dib, fib⟩ := blk_facts Lib5
  obtain ⟨dvb, fvb⟩ := blk_facts Lvb5
  have zib := blk_size Lib5
  have zvb := blk_size Lvb5
  go_wp2_with fail
  refine (encoded_calls ⟨(op : Int), (d : Int), (a : Int), (b : Int), 0⟩ ⟨[], 0⟩ Z5).mono ?_
  rintro e x1 ⟨rfl, rfl⟩
  have hput := put_ins C5 S l5 hb ⟨(op : Int), (d : Int), (a : Int), (b : Int), 0⟩ ⟨[], 0⟩ Z5 hR5
  rw [eb5] at hput
  go_wp2_with fail
  refine hput.mono ?_
  intro e x2 hO
  have hO2 := hO.after sr5
  have hRe := HRS.out _ _ HI.out.symm
  rw [← hRe] at hO2
  clear hO hRe HRS HRN HI hput
  rcases R with er | T
  · obtain ⟨rfl, ho⟩ := hO2
    exact ⟨rfl, rfl, ho⟩
  obtain ⟨rfl, D, hD, sD⟩ := hO2
  go_wp2_with fail
  go_end0
  exact ⟨rfl, D, hD, sD⟩)
end Go.Proofs.YtabmlbnnhhpaoaaGreatDoor
set_option maxHeartbeats 8000000
set_option maxRecDepth 100000
namespace Go.Proofs.YtabmlbnnhhpaoaaGreatDoor
open Go.RowKit Go.Shelf
theorem instrA_form2 (op : Nat) (h1 : 1 ≤ op) (h2 : op < 49) (hnm : op < 24 ∨ 31 < op) (hfo : Isa.formOf op = 2) (B : Asm.PB) (S : Asm.PS) (htb : Asm.TokB S.toks) (hb : Asm.Bnd2 S) (w : World) (hP : Asm.Par B S w) :
 Calls Tryz.prog 57 #[.pointer (some ⟨B.b, 0, none⟩), .int .i64 (op : Int)] w (Asm.Outc B w S.line (Asm.insR (Asm.ins2 op S.toks) S)) := by
 have hmm := @run_makeMap Tryz.prog
 have hix : Isa.ix (op : Int) = op := by unfold Isa.ix; rw [if_pos (by omega)]; rfl
 have hfc := Form_calls (op : Int)
 rw [hix, hfo] at hfc
 have hlt := hP.ltAll
 have zb := hlt B.b (.inl rfl)
 have hn0b := hP.b0
 obtain ⟨R, hR⟩ : ∃ R, Asm.insR (Asm.ins2 op S.toks) S = R := ⟨_, rfl⟩
 obtain ⟨l0, hl0⟩ : ∃ l0, S.toks = l0 := ⟨_, rfl⟩
 have hP0 : Asm.Par B { S with toks := l0 } w := by rw [← hl0]; exact hP
 rw [hR]
 rw [hl0] at hR htb
 obtain ⟨I, hI⟩ : ∃ I, Asm.ins2 op l0 = I := ⟨_, rfl⟩
 rw [hI] at hR
 have hRn : I = none → R = .error 112 := fun h => by rw [← hR, h]; rfl
 have hRs : ∀ x l, I = some (x, l) → R = Asm.putR { S with toks := l } ⟨S.line, S.pos, x.1, x.2, .enc⟩ 1 := fun x l h => by rw [← hR, h]; rfl
 unfold Asm.ins2 at hI
 have HI := Lib.hid hI
 have HRN := Lib.hid hRn
 have HRS := Lib.hid hRs
 clear hR hI hRn hRs hP hl0
 -- the boxes of the instruction and of the value, the map
 obtain ⟨W, W1, W2, W3, W4, W5, W6, hW, hWs, ⟨e1, e2, e3, e4, e5, e6, o6, off6, a1, a2, a3, a4, a5, a6, s1, s2, s3, s4, s5⟩, hb6, Kib6, Kvb6⟩ := instr_boxes op w
 rw [hWs] at e1
 rcases hnm with hnm | hnm
 all_goals go_enter Tryz.func57, Tryz.ntmps57
 all_goals (
  go_wp2_with fail
  refine (hfc _).mono ?_
  rintro e w7 ⟨rfl, hb7⟩
  have hlk := fields_look o6 hb7 2 (by decide) (.slice (some ⟨(W1.heap.size), 0, none⟩) 2 2) rfl
  go_wp2_with fail
  have K4 := heap_alloc_new w7 (.cells #[.int .i64 2, .int .i64 3, .int .i64 4, .int .i64 7] 147)
  have hb74 := below_next hb7 (below_alloc' (Below.refl w7.heap.size w7) (.cells #[.int .i64 2, .int .i64 3, .int .i64 4, .int .i64 7] 147))
  refine (hfc _).mono ?_
  rintro e w8 ⟨rfl, hb8⟩
  have K48 := blk_keep hb8 K4
  have hb68 := below_next hb74 hb8
  have hbw8 : Below w.heap.size w w8 := hb6.trans (hb68.mono hb6.size)
  have Kib := blk_keep hb68 Kib6
  have Kvb := blk_keep hb68 Kvb6
  have Ksl := blk_keep hb68 a2
  have hPs := hP0.kept hbw8
  have st := Asm.Step.belowAfter (Asm.Step.refl B w) hbw8
  have nib : ¬ B.owns w.heap.size := fun h => by have := hlt _ h; omega
  have nvb : ¬ B.owns (w.heap.size + 1) := fun h => by have := hlt _ h; omega
  have hslw : w.heap.size + 2 < (W1.heap.size) := by omega
  have nsl : ¬ B.owns (W1.heap.size) := fun h => by have := hlt _ h; omega
  go_wp2_with fail
  refine (contains_calls w7.heap.size 2 (by decide) _ K48).mono ?_
  rintro e w9 ⟨rfl, h9⟩
  rw [h9]
  clear h9 K48 K4 hb74 hb8 hb7 hlk hP0
  go_wp2_with fail
  refine wp_loop_rounds 3 ?_
  rw [rounds_succ]
  obtain ⟨dsl, fsl⟩ := blk_facts Ksl
  have pq : w8.cell? ⟨(W1.heap.size), 0, none⟩ = some (.pointer (some ⟨w.heap.size, 1, none⟩)) := dsl 0
  have zq := blk_size Ksl
  clear dsl fsl
  go_wp2_with fail
  clear pq zq
  have hq := reg_step B S l0 _ hPs
  refine hq.mono ?_
  rintro e y1 (⟨hk, rfl, ho⟩ | ⟨d, l1, hk, rfl, C1, hQ1, sp1⟩)
  · exact ⟨rfl, .bad (HRN.out (by have h := HI.out; rw [hk] at h; exact h.symm)) (Asm.Bad.after st ⟨rfl, ho⟩)⟩
  have h := HI.out
  rw [hk] at h
  dsimp only at h
  clear HI hq
  have HI := Lib.hid h
  clear h
  have tb1 := htb.sub (Asm.rdReg_sub hk)
  clear hk htb
  have sq1 := st.trans sp1
  have eb1 : C1.b = B.b := sq1.b
  obtain ⟨Kib1, nib1⟩ := sp1.keep Kib nib
  obtain ⟨Kvb1, nvb1⟩ := sp1.keep Kvb nvb
  obtain ⟨Ksl1, nsl1⟩ := sp1.keep Ksl nsl
  clear hPs st Kib Kvb sp1 Ksl
  obtain ⟨dib, fib⟩ := blk_facts Kib1
  have pq : y1.cell? ⟨w.heap.size, 1, none⟩ = some (.int .u8 0) := dib 1
  have gq : y1.frozen? ⟨w.heap.size, 1, none⟩ = false := fib 1
  have zq := blk_size Kib1
  clear dib fib
  have hR1 := hQ1.setOther Kib1 (by decide) nib1 1 (.int .u8 (d : Int))
  have sr1 := sq1.setOther (g := w.heap.size) (Nat.le_refl _) 1 (.int .u8 (d : Int))
  have Lib1 := setCell_row Kib1 1 (.int .u8 (d : Int)) (cs' := #[.int .i64 (op : Int), .int .u8 (d : Int), .int .u8 0, .int .u8 0, .int .i32 0]) rfl
  have Lvb1 := setCell_far Kvb1 (g := w.heap.size) (by omega) 1 (.int .u8 (d : Int))
  have Lsl1 := setCell_far Ksl1 (g := w.heap.size) (by omega) 1 (.int .u8 (d : Int))
  go_wp2_with fail
  clear pq gq zq hQ1 sq1 Kib1 Kvb1 Ksl1
  generalize y1.setCell _ _ = Z1 at hR1 sr1 Lib1 Lvb1 Lsl1 ⊢
  rw [rounds_succ]
  obtain ⟨dsl, fsl⟩ := blk_facts Lsl1
  have pq : Z1.cell? ⟨(W1.heap.size), 1, none⟩ = some (.pointer (some ⟨w.heap.size, 2, none⟩)) := dsl 1
  have zq := blk_size Lsl1
  clear dsl fsl
  go_wp2_with fail
  clear pq zq
  have hq := sign_step C1 S l1 44 _ hR1
  rw [eb1] at hq
  refine hq.mono ?_
  rintro e y2 (⟨hk, rfl, ho⟩ | ⟨l2, hk, rfl, C2, hQ2, sp2⟩)
  · exact ⟨rfl, .bad (HRN.out (by have h := HI.out; rw [hk] at h; exact h.symm)) (Asm.Bad.after sr1 ⟨rfl, ho⟩)⟩
  have h := HI.out
  rw [hk] at h
  dsimp only at h
  clear HI hq
  have HI := Lib.hid h
  clear h
  have tb2 := tb1.sub (Asm.rdSign_sub hk)
  clear hk tb1
  have sq2 := sr1.trans sp2
  have eb2 : C2.b = B.b := sq2.b
  obtain ⟨Kib2, nib2⟩ := sp2.keep Lib1 nib1
  obtain ⟨Kvb2, nvb2⟩ := sp2.keep Lvb1 nvb1
  obtain ⟨Ksl2, nsl2⟩ := sp2.keep Lsl1 nsl1
  clear hR1 sr1 Lib1 Lvb1 sp2 Lsl1
  go_wp2_with fail
  have hq := reg_step C2 S l2 _ hQ2
  rw [eb2] at hq
  refine hq.mono ?_
  rintro e y3 (⟨hk, rfl, ho⟩ | ⟨a, l3, hk, rfl, C3, hQ3, sp3⟩)
  · exact ⟨rfl, .bad (HRN.out (by have h := HI.out; rw [hk] at h; exact h.symm)) (Asm.Bad.after sq2 ⟨rfl, ho⟩)⟩
  have h := HI.out
  rw [hk] at h
  dsimp only at h
  clear HI hq
  have HI := Lib.hid h
  clear h
  have tb3 := tb2.sub (Asm.rdReg_sub hk)
  clear hk tb2
  have sq3 := sq2.trans sp3
  have eb3 : C3.b = B.b := sq3.b
  obtain ⟨Kib3, nib3⟩ := sp3.keep Kib2 nib2
  obtain ⟨Kvb3, nvb3⟩ := sp3.keep Kvb2 nvb2
  obtain ⟨Ksl3, nsl3⟩ := sp3.keep Ksl2 nsl2
  clear hQ2 sq2 Kib2 Kvb2 sp3 Ksl2
  obtain ⟨dib, fib⟩ := blk_facts Kib3
  have pq : y3.cell? ⟨w.heap.size, 2, none⟩ = some (.int .u8 0) := dib 2
  have gq : y3.frozen? ⟨w.heap.size, 2, none⟩ = false := fib 2
  have zq := blk_size Kib3
  clear dib fib
  have hR3 := hQ3.setOther Kib3 (by decide) nib3 2 (.int .u8 (a : Int))
  have sr3 := sq3.setOther (g := w.heap.size) (Nat.le_refl _) 2 (.int .u8 (a : Int))
  have Lib3 := setCell_row Kib3 2 (.int .u8 (a : Int)) (cs' := #[.int .i64 (op : Int), .int .u8 (d : Int), .int .u8 (a : Int), .int .u8 0, .int .i32 0]) rfl
  have Lvb3 := setCell_far Kvb3 (g := w.heap.size) (by omega) 2 (.int .u8 (a : Int))
  have Lsl3 := setCell_far Ksl3 (g := w.heap.size) (by omega) 2 (.int .u8 (a : Int))
  go_wp2_with fail
  clear pq gq zq hQ3 sq3 Kib3 Kvb3 Ksl3
  generalize y3.setCell _ _ = Z3 at hR3 sr3 Lib3 Lvb3 Lsl3 ⊢
  rw [rounds_succ]
  go_wp2_with fail
  have hq := sign_step C3 S l3 44 _ hR3
  rw [eb3] at hq
  refine hq.mono ?_
  rintro e y4 (⟨hk, rfl, ho⟩ | ⟨l4, hk, rfl, C4, hQ4, sp4⟩)
  · exact ⟨rfl, .bad (HRN.out (by have h := HI.out; rw [hk] at h; exact h.symm)) (Asm.Bad.after sr3 ⟨rfl, ho⟩)⟩
  have h := HI.out
  rw [hk] at h
  dsimp only at h
  clear HI hq
  have HI := Lib.hid h
  clear h
  have tb4 := tb3.sub (Asm.rdSign_sub hk)
  clear hk tb3
  have sq4 := sr3.trans sp4
  have eb4 : C4.b = B.b := sq4.b
  obtain ⟨Kib4, nib4⟩ := sp4.keep Lib3 nib3
  obtain ⟨Kvb4, nvb4⟩ := sp4.keep Lvb3 nvb3
  obtain ⟨Ksl4, nsl4⟩ := sp4.keep Lsl3 nsl3
  clear hR3 sr3 Lib3 Lvb3 sp4 Lsl3
  go_wp2_with fail
  have hq := val_step C4 S l4 tb4 _ hQ4
  rw [eb4] at hq
  refine hq.mono ?_
  rintro e y5 (⟨hk, rfl, ho⟩ | ⟨v, l5, hk, rfl, C5, hQ5, sp5⟩)
  · exact ⟨rfl, .bad (HRN.out (by have h := HI.out; rw [hk] at h; exact h.symm)) (Asm.Bad.after sq4 ⟨rfl, ho⟩)⟩
  have h := HI.out
  rw [hk] at h
  dsimp only at h
  clear HI hq
  have HI := Lib.hid h
  clear h
  have tb5 := tb4.sub (Asm.rdVal_sub hk)
  clear hk tb4
  have sq5 := sq4.trans sp5
  have eb5 : C5.b = B.b := sq5.b
  obtain ⟨Kib5, nib5⟩ := sp5.keep Kib4 nib4
  obtain ⟨Kvb5, nvb5⟩ := sp5.keep Kvb4 nvb4
  obtain ⟨Ksl5, nsl5⟩ := sp5.keep Ksl4 nsl4
  clear hQ4 sq4 Kib4 Kvb4 sp5 Ksl4
  obtain ⟨dvb, fvb⟩ := blk_facts Kvb5
  have p0 : y5.cell? ⟨w.heap.size + 1, 0, none⟩ = some (.string ⟨#[]⟩) := dvb 0
  have p1 : y5.cell? ⟨w.heap.size + 1, 1, none⟩ = some (.int .i64 0) := dvb 1
  have g0 : y5.frozen? ⟨w.heap.size + 1, 0, none⟩ = false := fvb 0
  have g1 : y5.frozen? ⟨w.heap.size + 1, 1, none⟩ = false := fvb 1
  have zvb := blk_size Kvb5
  clear dvb fvb
  have r1 := setCell_row Kvb5 0 (.string ⟨v.name.toArray⟩) (cs' := #[.string ⟨v.name.toArray⟩, .int .i64 0]) rfl
  have Lvb5 := setCell_row r1 1 (.int .i64 v.n) (cs' := #[.string ⟨v.name.toArray⟩, .int .i64 v.n]) rfl
  have hR5 := (hQ5.setOther Kvb5 (by decide) nvb5 0 (.string ⟨v.name.toArray⟩)).setOther r1 (by decide) nvb5 1 (.int .i64 v.n)
  have sr5 := (sq5.setOther (g := w.heap.size + 1) (by omega) 0 (.string ⟨v.name.toArray⟩)).setOther (g := w.heap.size + 1) (by omega) 1 (.int .i64 v.n)
  have Lib5 := setCell_far (setCell_far Kib5 (g := w.heap.size + 1) (by omega) 0 (.string ⟨v.name.toArray⟩)) (g := w.heap.size + 1) (by omega) 1 (.int .i64 v.n)
  have d0 : ∀ i, ((y5.setCell ⟨w.heap.size + 1, 0, none⟩ (.string ⟨v.name.toArray⟩)).setCell ⟨w.heap.size + 1, 1, none⟩ (.int .i64 v.n)).cell? ⟨w.heap.size, i, none⟩ = (#[.int .i64 (op : Int), .int .u8 (d : Int), .int .u8 (a : Int), .int .u8 0, .int .i32 0] : Array Value)[i]? := (blk_facts Lib5).1
  have d0' := (blk_facts Kib5).1
  have q0 : ((y5.setCell ⟨w.heap.size + 1, 0, none⟩ (.string ⟨v.name.toArray⟩)).setCell ⟨w.heap.size + 1, 1, none⟩ (.int .i64 v.n)).cell? ⟨w.heap.size + 1, 0, none⟩ = some (.string ⟨v.name.toArray⟩) := (blk_facts Lvb5).1 0
  have q1 : ((y5.setCell ⟨w.heap.size + 1, 0, none⟩ (.string ⟨v.name.toArray⟩)).setCell ⟨w.heap.size + 1, 1, none⟩ (.int .i64 v.n)).cell? ⟨w.heap.size + 1, 1, none⟩ = some (.int .i64 v.n) := (blk_facts Lvb5).1 1
  have q2 : (y5.setCell ⟨w.heap.size + 1, 0, none⟩ (.string ⟨v.name.toArray⟩)).cell? ⟨w.heap.size + 1, 0, none⟩ = some (.string ⟨v.name.toArray⟩) := (blk_facts r1).1 0
  go_wp2_with fail
  clear p0 p1 g0 g1 zvb r1 d0 d0' q0 q1 q2
  generalize (y5.setCell _ _).setCell _ _ = Z at hR5 sr5 Lib5 Lvb5 ⊢
  refine (encoded_calls ⟨(op : Int), (d : Int), (a : Int), 0, 0⟩ v Z).mono ?_
  rintro e x1 ⟨rfl, rfl⟩
  have hput := put_ins C5 S l5 hb ⟨(op : Int), (d : Int), (a : Int), 0, 0⟩ v Z hR5
  rw [eb5] at hput
  go_wp2_with fail
  refine hput.mono ?_
  intro e x2 hO
  have hO2 := hO.after sr5
  have hRe := HRS.out _ _ HI.out.symm
  rw [← hRe] at hO2
  clear hO hRe HRS HRN HI hput
  rcases R with er | T
  · obtain ⟨rfl, ho⟩ := hO2
    exact ⟨rfl, rfl, ho⟩
  obtain ⟨rfl, D, hD, sD⟩ := hO2
  go_wp2_with fail
  go_end0
  exact ⟨rfl, D, hD, sD⟩)
end Go.Proofs.YtabmlbnnhhpaoaaGreatDoor
set_option maxHeartbeats 8000000
set_option maxRecDepth 100000
namespace Go.Proofs.YtabmlbnnhhpaoaaGreatDoor
open Go.RowKit Go.Shelf
theorem instrA_form3 (op : Nat) (h1 : 1 ≤ op) (h2 : op < 49) (hnm : op < 24 ∨ 31 < op) (hfo : Isa.formOf op = 3) (B : Asm.PB) (S : Asm.PS) (htb : Asm.TokB S.toks) (hb : Asm.Bnd2 S) (w : World) (hP : Asm.Par B S w) :
 Calls Tryz.prog 57 #[.pointer (some ⟨B.b, 0, none⟩), .int .i64 (op : Int)] w (Asm.Outc B w S.line (Asm.insR (Asm.ins3 op S.toks) S)) := by
 have hmm := @run_makeMap Tryz.prog
 have hix : Isa.ix (op : Int) = op := by unfold Isa.ix; rw [if_pos (by omega)]; rfl
 have hfc := Form_calls (op : Int)
 rw [hix, hfo] at hfc
 have hlt := hP.ltAll
 have zb := hlt B.b (.inl rfl)
 have hn0b := hP.b0
 obtain ⟨R, hR⟩ : ∃ R, Asm.insR (Asm.ins3 op S.toks) S = R := ⟨_, rfl⟩
 obtain ⟨l0, hl0⟩ : ∃ l0, S.toks = l0 := ⟨_, rfl⟩
 have hP0 : Asm.Par B { S with toks := l0 } w := by rw [← hl0]; exact hP
 rw [hR]
 rw [hl0] at hR htb
 obtain ⟨I, hI⟩ : ∃ I, Asm.ins3 op l0 = I := ⟨_, rfl⟩
 rw [hI] at hR
 have hRn : I = none → R = .error 112 := fun h => by rw [← hR, h]; rfl
 have hRs : ∀ x l, I = some (x, l) → R = Asm.putR { S with toks := l } ⟨S.line, S.pos, x.1, x.2, .enc⟩ 1 := fun x l h => by rw [← hR, h]; rfl
 unfold Asm.ins3 at hI
 have HI := Lib.hid hI
 have HRN := Lib.hid hRn
 have HRS := Lib.hid hRs
 clear hR hI hRn hRs hP hl0
 -- the boxes of the instruction and of the value, the map
 obtain ⟨W, W1, W2, W3, W4, W5, W6, hW, hWs, ⟨e1, e2, e3, e4, e5, e6, o6, off6, a1, a2, a3, a4, a5, a6, s1, s2, s3, s4, s5⟩, hb6, Kib6, Kvb6⟩ := instr_boxes op w
 rw [hWs] at e1
 rcases hnm with hnm | hnm
 all_goals go_enter Tryz.func57, Tryz.ntmps57
 all_goals (
  go_wp2_with fail
  refine (hfc _).mono ?_
  rintro e w7 ⟨rfl, hb7⟩
  have hlk := fields_look o6 hb7 3 (by decide) (.slice (some ⟨(W2.heap.size), 0, none⟩) 2 2) rfl
  go_wp2_with fail
  have K4 := heap_alloc_new w7 (.cells #[.int .i64 2, .int .i64 3, .int .i64 4, .int .i64 7] 147)
  have hb74 := below_next hb7 (below_alloc' (Below.refl w7.heap.size w7) (.cells #[.int .i64 2, .int .i64 3, .int .i64 4, .int .i64 7] 147))
  refine (hfc _).mono ?_
  rintro e w8 ⟨rfl, hb8⟩
  have K48 := blk_keep hb8 K4
  have hb68 := below_next hb74 hb8
  have hbw8 : Below w.heap.size w w8 := hb6.trans (hb68.mono hb6.size)
  have Kib := blk_keep hb68 Kib6
  have Kvb := blk_keep hb68 Kvb6
  have Ksl := blk_keep hb68 a3
  have hPs := hP0.kept hbw8
  have st := Asm.Step.belowAfter (Asm.Step.refl B w) hbw8
  have nib : ¬ B.owns w.heap.size := fun h => by have := hlt _ h; omega
  have nvb : ¬ B.owns (w.heap.size + 1) := fun h => by have := hlt _ h; omega
  have hslw : w.heap.size + 2 < (W2.heap.size) := by omega
  have nsl : ¬ B.owns (W2.heap.size) := fun h => by have := hlt _ h; omega
  go_wp2_with fail
  refine (contains_calls w7.heap.size 3 (by decide) _ K48).mono ?_
  rintro e w9 ⟨rfl, h9⟩
  rw [h9]
  clear h9 K48 K4 hb74 hb8 hb7 hlk hP0
  go_wp2_with fail
  refine wp_loop_rounds 3 ?_
  rw [rounds_succ]
  obtain ⟨dsl, fsl⟩ := blk_facts Ksl
  have pq : w8.cell? ⟨(W2.heap.size), 0, none⟩ = some (.pointer (some ⟨w.heap.size, 2, none⟩)) := dsl 0
  have zq := blk_size Ksl
  clear dsl fsl
  go_wp2_with fail
  clear pq zq
  have hq := reg_step B S l0 _ hPs
  refine hq.mono ?_
  rintro e y1 (⟨hk, rfl, ho⟩ | ⟨a, l1, hk, rfl, C1, hQ1, sp1⟩)
  · exact ⟨rfl, .bad (HRN.out (by have h := HI.out; rw [hk] at h; exact h.symm)) (Asm.Bad.after st ⟨rfl, ho⟩)⟩
  have h := HI.out
  rw [hk] at h
  dsimp only at h
  clear HI hq
  have HI := Lib.hid h
  clear h
  have tb1 := htb.sub (Asm.rdReg_sub hk)
  clear hk htb
  have sq1 := st.trans sp1
  have eb1 : C1.b = B.b := sq1.b
  obtain ⟨Kib1, nib1⟩ := sp1.keep Kib nib
  obtain ⟨Kvb1, nvb1⟩ := sp1.keep Kvb nvb
  obtain ⟨Ksl1, nsl1⟩ := sp1.keep Ksl nsl
  clear hPs st Kib Kvb sp1 Ksl
  obtain ⟨dib, fib⟩ := blk_facts Kib1
  have pq : y1.cell? ⟨w.heap.size, 2, none⟩ = some (.int .u8 0) := dib 2
  have gq : y1.frozen? ⟨w.heap.size, 2, none⟩ = false := fib 2
  have zq := blk_size Kib1
  clear dib fib
  have hR1 := hQ1.setOther Kib1 (by decide) nib1 2 (.int .u8 (a : Int))
  have sr1 := sq1.setOther (g := w.heap.size) (Nat.le_refl _) 2 (.int .u8 (a : Int))
  have Lib1 := setCell_row Kib1 2 (.int .u8 (a : Int)) (cs' := #[.int .i64 (op : Int), .int .u8 0, .int .u8 (a : Int), .int .u8 0, .int .i32 0]) rfl
  have Lvb1 := setCell_far Kvb1 (g := w.heap.size) (by omega) 2 (.int .u8 (a : Int))
  have Lsl1 := setCell_far Ksl1 (g := w.heap.size) (by omega) 2 (.int .u8 (a : Int))
  go_wp2_with fail
  clear pq gq zq hQ1 sq1 Kib1 Kvb1 Ksl1
  generalize y1.setCell _ _ = Z1 at hR1 sr1 Lib1 Lvb1 Lsl1 ⊢
  rw [rounds_succ]
  obtain ⟨dsl, fsl⟩ := blk_facts Lsl1
  have pq : Z1.cell? ⟨(W2.heap.size), 1, none⟩ = some (.pointer (some ⟨w.heap.size, 3, none⟩)) := dsl 1
  have zq := blk_size Lsl1
  clear dsl fsl
  go_wp2_with fail
  clear pq zq
  have hq := sign_step C1 S l1 44 _ hR1
  rw [eb1] at hq
  refine hq.mono ?_
  rintro e y2 (⟨hk, rfl, ho⟩ | ⟨l2, hk, rfl, C2, hQ2, sp2⟩)
  · exact ⟨rfl, .bad (HRN.out (by have h := HI.out; rw [hk] at h; exact h.symm)) (Asm.Bad.after sr1 ⟨rfl, ho⟩)⟩
  have h := HI.out
  rw [hk] at h
  dsimp only at h
  clear HI hq
  have HI := Lib.hid h
  clear h
  have tb2 := tb1.sub (Asm.rdSign_sub hk)
  clear hk tb1
  have sq2 := sr1.trans sp2
  have eb2 : C2.b = B.b := sq2.b
  obtain ⟨Kib2, nib2⟩ := sp2.keep Lib1 nib1
  obtain ⟨Kvb2, nvb2⟩ := sp2.keep Lvb1 nvb1
  obtain ⟨Ksl2, nsl2⟩ := sp2.keep Lsl1 nsl1
  clear hR1 sr1 Lib1 Lvb1 sp2 Lsl1
  go_wp2_with fail
  have hq := reg_step C2 S l2 _ hQ2
  rw [eb2] at hq
  refine hq.mono ?_
  rintro e y3 (⟨hk, rfl, ho⟩ | ⟨b, l3, hk, rfl, C3, hQ3, sp3⟩)
  · exact ⟨rfl, .bad (HRN.out (by have h := HI.out; rw [hk] at h; exact h.symm)) (Asm.Bad.after sq2 ⟨rfl, ho⟩)⟩
  have h := HI.out
  rw [hk] at h
  dsimp only at h
  clear HI hq
  have HI := Lib.hid h
  clear h
  have tb3 := tb2.sub (Asm.rdReg_sub hk)
  clear hk tb2
  have sq3 := sq2.trans sp3
  have eb3 : C3.b = B.b := sq3.b
  obtain ⟨Kib3, nib3⟩ := sp3.keep Kib2 nib2
  obtain ⟨Kvb3, nvb3⟩ := sp3.keep Kvb2 nvb2
  obtain ⟨Ksl3, nsl3⟩ := sp3.keep Ksl2 nsl2
  clear hQ2 sq2 Kib2 Kvb2 sp3 Ksl2
  obtain ⟨dib, fib⟩ := blk_facts Kib3
  have pq : y3.cell? ⟨w.heap.size, 3, none⟩ = some (.int .u8 0) := dib 3
  have gq : y3.frozen? ⟨w.heap.size, 3, none⟩ = false := fib 3
  have zq := blk_size Kib3
  clear dib fib
  have hR3 := hQ3.setOther Kib3 (by decide) nib3 3 (.int .u8 (b : Int))
  have sr3 := sq3.setOther (g := w.heap.size) (Nat.le_refl _) 3 (.int .u8 (b : Int))
  have Lib3 := setCell_row Kib3 3 (.int .u8 (b : Int)) (cs' := #[.int .i64 (op : Int), .int .u8 0, .int .u8 (a : Int), .int .u8 (b : Int), .int .i32 0]) rfl
  have Lvb3 := setCell_far Kvb3 (g := w.heap.size) (by omega) 3 (.int .u8 (b : Int))
  have Lsl3 := setCell_far Ksl3 (g := w.heap.size) (by omega) 3 (.int .u8 (b : Int))
  go_wp2_with fail
  clear pq gq zq hQ3 sq3 Kib3 Kvb3 Ksl3
  generalize y3.setCell _ _ = Z3 at hR3 sr3 Lib3 Lvb3 Lsl3 ⊢
  rw [rounds_succ]
  go_wp2_with fail
  have hq := sign_step C3 S l3 44 _ hR3
  rw [eb3] at hq
  refine hq.mono ?_
  rintro e y4 (⟨hk, rfl, ho⟩ | ⟨l4, hk, rfl, C4, hQ4, sp4⟩)
  · exact ⟨rfl, .bad (HRN.out (by have h := HI.out; rw [hk] at h; exact h.symm)) (Asm.Bad.after sr3 ⟨rfl, ho⟩)⟩
  have h := HI.out
  rw [hk] at h
  dsimp only at h
  clear HI hq
  have HI := Lib.hid h
  clear h
  have tb4 := tb3.sub (Asm.rdSign_sub hk)
  clear hk tb3
  have sq4 := sr3.trans sp4
  have eb4 : C4.b = B.b := sq4.b
  obtain ⟨Kib4, nib4⟩ := sp4.keep Lib3 nib3
  obtain ⟨Kvb4, nvb4⟩ := sp4.keep Lvb3 nvb3
  obtain ⟨Ksl4, nsl4⟩ := sp4.keep Lsl3 nsl3
  clear hR3 sr3 Lib3 Lvb3 sp4 Lsl3
  go_wp2_with fail
  have hq := val_step C4 S l4 tb4 _ hQ4
  rw [eb4] at hq
  refine hq.mono ?_
  rintro e y5 (⟨hk, rfl, ho⟩ | ⟨v, l5, hk, rfl, C5, hQ5, sp5⟩)
  · exact ⟨rfl, .bad (HRN.out (by have h := HI.out; rw [hk] at h; exact h.symm)) (Asm.Bad.after sq4 ⟨rfl, ho⟩)⟩
  have h := HI.out
  rw [hk] at h
  dsimp only at h
  clear HI hq
  have HI := Lib.hid h
  clear h
  have tb5 := tb4.sub (Asm.rdVal_sub hk)
  clear hk tb4
  have sq5 := sq4.trans sp5
  have eb5 : C5.b = B.b := sq5.b
  obtain ⟨Kib5, nib5⟩ := sp5.keep Kib4 nib4
  obtain ⟨Kvb5, nvb5⟩ := sp5.keep Kvb4 nvb4
  obtain ⟨Ksl5, nsl5⟩ := sp5.keep Ksl4 nsl4
  clear hQ4 sq4 Kib4 Kvb4 sp5 Ksl4
  obtain ⟨dvb, fvb⟩ := blk_facts Kvb5
  have p0 : y5.cell? ⟨w.heap.size + 1, 0, none⟩ = some (.string ⟨#[]⟩) := dvb 0
  have p1 : y5.cell? ⟨w.heap.size + 1, 1, none⟩ = some (.int .i64 0) := dvb 1
  have g0 : y5.frozen? ⟨w.heap.size + 1, 0, none⟩ = false := fvb 0
  have g1 : y5.frozen? ⟨w.heap.size + 1, 1, none⟩ = false := fvb 1
  have zvb := blk_size Kvb5
  clear dvb fvb
  have r1 := setCell_row Kvb5 0 (.string ⟨v.name.toArray⟩) (cs' := #[.string ⟨v.name.toArray⟩, .int .i64 0]) rfl
  have Lvb5 := setCell_row r1 1 (.int .i64 v.n) (cs' := #[.string ⟨v.name.toArray⟩, .int .i64 v.n]) rfl
  have hR5 := (hQ5.setOther Kvb5 (by decide) nvb5 0 (.string ⟨v.name.toArray⟩)).setOther r1 (by decide) nvb5 1 (.int .i64 v.n)
  have sr5 := (sq5.setOther (g := w.heap.size + 1) (by omega) 0 (.string ⟨v.name.toArray⟩)).setOther (g := w.heap.size + 1) (by omega) 1 (.int .i64 v.n)
  have Lib5 := setCell_far (setCell_far Kib5 (g := w.heap.size + 1) (by omega) 0 (.string ⟨v.name.toArray⟩)) (g := w.heap.size + 1) (by omega) 1 (.int .i64 v.n)
  have d0 : ∀ i, ((y5.setCell ⟨w.heap.size + 1, 0, none⟩ (.string ⟨v.name.toArray⟩)).setCell ⟨w.heap.size + 1, 1, none⟩ (.int .i64 v.n)).cell? ⟨w.heap.size, i, none⟩ = (#[.int .i64 (op : Int), .int .u8 0, .int .u8 (a : Int), .int .u8 (b : Int), .int .i32 0] : Array Value)[i]? := (blk_facts Lib5).1
  have d0' := (blk_facts Kib5).1
  have q0 : ((y5.setCell ⟨w.heap.size + 1, 0, none⟩ (.string ⟨v.name.toArray⟩)).setCell ⟨w.heap.size + 1, 1, none⟩ (.int .i64 v.n)).cell? ⟨w.heap.size + 1, 0, none⟩ = some (.string ⟨v.name.toArray⟩) := (blk_facts Lvb5).1 0
  have q1 : ((y5.setCell ⟨w.heap.size + 1, 0, none⟩ (.string ⟨v.name.toArray⟩)).setCell ⟨w.heap.size + 1, 1, none⟩ (.int .i64 v.n)).cell? ⟨w.heap.size + 1, 1, none⟩ = some (.int .i64 v.n) := (blk_facts Lvb5).1 1
  have q2 : (y5.setCell ⟨w.heap.size + 1, 0, none⟩ (.string ⟨v.name.toArray⟩)).cell? ⟨w.heap.size + 1, 0, none⟩ = some (.string ⟨v.name.toArray⟩) := (blk_facts r1).1 0
  go_wp2_with fail
  clear p0 p1 g0 g1 zvb r1 d0 d0' q0 q1 q2
  generalize (y5.setCell _ _).setCell _ _ = Z at hR5 sr5 Lib5 Lvb5 ⊢
  refine (encoded_calls ⟨(op : Int), 0, (a : Int), (b : Int), 0⟩ v Z).mono ?_
  rintro e x1 ⟨rfl, rfl⟩
  have hput := put_ins C5 S l5 hb ⟨(op : Int), 0, (a : Int), (b : Int), 0⟩ v Z hR5
  rw [eb5] at hput
  go_wp2_with fail
  refine hput.mono ?_
  intro e x2 hO
  have hO2 := hO.after sr5
  have hRe := HRS.out _ _ HI.out.symm
  rw [← hRe] at hO2
  clear hO hRe HRS HRN HI hput
  rcases R with er | T
  · obtain ⟨rfl, ho⟩ := hO2
    exact ⟨rfl, rfl, ho⟩
  obtain ⟨rfl, D, hD, sD⟩ := hO2
  go_wp2_with fail
  go_end0
  exact ⟨rfl, D, hD, sD⟩)
end Go.Proofs.YtabmlbnnhhpaoaaGreatDoor
set_option maxHeartbeats 8000000
set_option maxRecDepth 100000
namespace Go.Proofs.YtabmlbnnhhpaoaaGreatDoor
open Go.RowKit Go.Shelf
theorem instrA_form4 (op : Nat) (h1 : 1 ≤ op) (h2 : op < 49) (hnm : op < 24 ∨ 31 < op) (hfo : Isa.formOf op = 4) (B : Asm.PB) (S : Asm.PS) (htb : Asm.TokB S.toks) (hb : Asm.Bnd2 S) (w : World) (hP : Asm.Par B S w) :
 Calls Tryz.prog 57 #[.pointer (some ⟨B.b, 0, none⟩), .int .i64 (op : Int)] w (Asm.Outc B w S.line (Asm.insR (Asm.ins4 op S.toks) S)) := by
 have hmm := @run_makeMap Tryz.prog
 have hix : Isa.ix (op : Int) = op := by unfold Isa.ix; rw [if_pos (by omega)]; rfl
 have hfc := Form_calls (op : Int)
 rw [hix, hfo] at hfc
 have hlt := hP.ltAll
 have zb := hlt B.b (.inl rfl)
 have hn0b := hP.b0
 obtain ⟨R, hR⟩ : ∃ R, Asm.insR (Asm.ins4 op S.toks) S = R := ⟨_, rfl⟩
 obtain ⟨l0, hl0⟩ : ∃ l0, S.toks = l0 := ⟨_, rfl⟩
 have hP0 : Asm.Par B { S with toks := l0 } w := by rw [← hl0]; exact hP
 rw [hR]
 rw [hl0] at hR htb
 obtain ⟨I, hI⟩ : ∃ I, Asm.ins4 op l0 = I := ⟨_, rfl⟩
 rw [hI] at hR
 have hRn : I = none → R = .error 112 := fun h => by rw [← hR, h]; rfl
 have hRs : ∀ x l, I = some (x, l) → R = Asm.putR { S with toks := l } ⟨S.line, S.pos, x.1, x.2, .enc⟩ 1 := fun x l h => by rw [← hR, h]; rfl
 unfold Asm.ins4 at hI
 have HI := Lib.hid hI
 have HRN := Lib.hid hRn
 have HRS := Lib.hid hRs
 clear hR hI hRn hRs hP hl0
 -- the boxes of the instruction and of the value, the map
 obtain ⟨W, W1, W2, W3, W4, W5, W6, hW, hWs, ⟨e1, e2, e3, e4, e5, e6, o6, off6, a1, a2, a3, a4, a5, a6, s1, s2, s3, s4, s5⟩, hb6, Kib6, Kvb6⟩ := instr_boxes op w
 rw [hWs] at e1
 rcases hnm with hnm | hnm
 all_goals go_enter Tryz.func57, Tryz.ntmps57
 all_goals (
  go_wp2_with fail
  refine (hfc _).mono ?_
  rintro e w7 ⟨rfl, hb7⟩
  have hlk := fields_look o6 hb7 4 (by decide) (.slice (some ⟨(W3.heap.size), 0, none⟩) 1 1) rfl
  go_wp2_with fail
  have K4 := heap_alloc_new w7 (.cells #[.int .i64 2, .int .i64 3, .int .i64 4, .int .i64 7] 147)
  have hb74 := below_next hb7 (below_alloc' (Below.refl w7.heap.size w7) (.cells #[.int .i64 2, .int .i64 3, .int .i64 4, .int .i64 7] 147))
  refine (hfc _).mono ?_
  rintro e w8 ⟨rfl, hb8⟩
  have K48 := blk_keep hb8 K4
  have hb68 := below_next hb74 hb8
  have hbw8 : Below w.heap.size w w8 := hb6.trans (hb68.mono hb6.size)
  have Kib := blk_keep hb68 Kib6
  have Kvb := blk_keep hb68 Kvb6
  have Ksl := blk_keep hb68 a4
  have hPs := hP0.kept hbw8
  have st := Asm.Step.belowAfter (Asm.Step.refl B w) hbw8
  have nib : ¬ B.owns w.heap.size := fun h => by have := hlt _ h; omega
  have nvb : ¬ B.owns (w.heap.size + 1) := fun h => by have := hlt _ h; omega
  have hslw : w.heap.size + 2 < (W3.heap.size) := by omega
  have nsl : ¬ B.owns (W3.heap.size) := fun h => by have := hlt _ h; omega
  go_wp2_with fail
  refine (contains_calls w7.heap.size 4 (by decide) _ K48).mono ?_
  rintro e w9 ⟨rfl, h9⟩
  rw [h9]
  clear h9 K48 K4 hb74 hb8 hb7 hlk hP0
  go_wp2_with fail
  refine wp_loop_rounds 2 ?_
  rw [rounds_succ]
  obtain ⟨dsl, fsl⟩ := blk_facts Ksl
  have pq : w8.cell? ⟨(W3.heap.size), 0, none⟩ = some (.pointer (some ⟨w.heap.size, 1, none⟩)) := dsl 0
  have zq := blk_size Ksl
  clear dsl fsl
  go_wp2_with fail
  clear pq zq
  have hq := reg_step B S l0 _ hPs
  refine hq.mono ?_
  rintro e y1 (⟨hk, rfl, ho⟩ | ⟨d, l1, hk, rfl, C1, hQ1, sp1⟩)
  · exact ⟨rfl, .bad (HRN.out (by have h := HI.out; rw [hk] at h; exact h.symm)) (Asm.Bad.after st ⟨rfl, ho⟩)⟩
  have h := HI.out
  rw [hk] at h
  dsimp only at h
  clear HI hq
  have HI := Lib.hid h
  clear h
  have tb1 := htb.sub (Asm.rdReg_sub hk)
  clear hk htb
  have sq1 := st.trans sp1
  have eb1 : C1.b = B.b := sq1.b
  obtain ⟨Kib1, nib1⟩ := sp1.keep Kib nib
  obtain ⟨Kvb1, nvb1⟩ := sp1.keep Kvb nvb
  obtain ⟨Ksl1, nsl1⟩ := sp1.keep Ksl nsl
  clear hPs st Kib Kvb sp1 Ksl
  obtain ⟨dib, fib⟩ := blk_facts Kib1
  have pq : y1.cell? ⟨w.heap.size, 1, none⟩ = some (.int .u8 0) := dib 1
  have gq : y1.frozen? ⟨w.heap.size, 1, none⟩ = false := fib 1
  have zq := blk_size Kib1
  clear dib fib
  have hR1 := hQ1.setOther Kib1 (by decide) nib1 1 (.int .u8 (d : Int))
  have sr1 := sq1.setOther (g := w.heap.size) (Nat.le_refl _) 1 (.int .u8 (d : Int))
  have Lib1 := setCell_row Kib1 1 (.int .u8 (d : Int)) (cs' := #[.int .i64 (op : Int), .int .u8 (d : Int), .int .u8 0, .int .u8 0, .int .i32 0]) rfl
  have Lvb1 := setCell_far Kvb1 (g := w.heap.size) (by omega) 1 (.int .u8 (d : Int))
  have Lsl1 := setCell_far Ksl1 (g := w.heap.size) (by omega) 1 (.int .u8 (d : Int))
  go_wp2_with fail
  clear pq gq zq hQ1 sq1 Kib1 Kvb1 Ksl1
  generalize y1.setCell _ _ = Z1 at hR1 sr1 Lib1 Lvb1 Lsl1 ⊢
  rw [rounds_succ]
  go_wp2_with fail
  have hq := sign_step C1 S l1 44 _ hR1
  rw [eb1] at hq
  refine hq.mono ?_
  rintro e y2 (⟨hk, rfl, ho⟩ | ⟨l2, hk, rfl, C2, hQ2, sp2⟩)
  · exact ⟨rfl, .bad (HRN.out (by have h := HI.out; rw [hk] at h; exact h.symm)) (Asm.Bad.after sr1 ⟨rfl, ho⟩)⟩
  have h := HI.out
  rw [hk] at h
  dsimp only at h
  clear HI hq
  have HI := Lib.hid h
  clear h
  have tb2 := tb1.sub (Asm.rdSign_sub hk)
  clear hk tb1
  have sq2 := sr1.trans sp2
  have eb2 : C2.b = B.b := sq2.b
  obtain ⟨Kib2, nib2⟩ := sp2.keep Lib1 nib1
  obtain ⟨Kvb2, nvb2⟩ := sp2.keep Lvb1 nvb1
  obtain ⟨Ksl2, nsl2⟩ := sp2.keep Lsl1 nsl1
  clear hR1 sr1 Lib1 Lvb1 sp2 Lsl1
  go_wp2_with fail
  have hq := val_step C2 S l2 tb2 _ hQ2
  rw [eb2] at hq
  refine hq.mono ?_
  rintro e y3 (⟨hk, rfl, ho⟩ | ⟨v, l3, hk, rfl, C3, hQ3, sp3⟩)
  · exact ⟨rfl, .bad (HRN.out (by have h := HI.out; rw [hk] at h; exact h.symm)) (Asm.Bad.after sq2 ⟨rfl, ho⟩)⟩
  have h := HI.out
  rw [hk] at h
  dsimp only at h
  clear HI hq
  have HI := Lib.hid h
  clear h
  have tb3 := tb2.sub (Asm.rdVal_sub hk)
  clear hk tb2
  have sq3 := sq2.trans sp3
  have eb3 : C3.b = B.b := sq3.b
  obtain ⟨Kib3, nib3⟩ := sp3.keep Kib2 nib2
  obtain ⟨Kvb3, nvb3⟩ := sp3.keep Kvb2 nvb2
  obtain ⟨Ksl3, nsl3⟩ := sp3.keep Ksl2 nsl2
  clear hQ2 sq2 Kib2 Kvb2 sp3 Ksl2
  obtain ⟨dvb, fvb⟩ := blk_facts Kvb3
  have p0 : y3.cell? ⟨w.heap.size + 1, 0, none⟩ = some (.string ⟨#[]⟩) := dvb 0
  have p1 : y3.cell? ⟨w.heap.size + 1, 1, none⟩ = some (.int .i64 0) := dvb 1
  have g0 : y3.frozen? ⟨w.heap.size + 1, 0, none⟩ = false := fvb 0
  have g1 : y3.frozen? ⟨w.heap.size + 1, 1, none⟩ = false := fvb 1
  have zvb := blk_size Kvb3
  clear dvb fvb
  have r1 := setCell_row Kvb3 0 (.string ⟨v.name.toArray⟩) (cs' := #[.string ⟨v.name.toArray⟩, .int .i64 0]) rfl
  have Lvb3 := setCell_row r1 1 (.int .i64 v.n) (cs' := #[.string ⟨v.name.toArray⟩, .int .i64 v.n]) rfl
  have hR3 := (hQ3.setOther Kvb3 (by decide) nvb3 0 (.string ⟨v.name.toArray⟩)).setOther r1 (by decide) nvb3 1 (.int .i64 v.n)
  have sr3 := (sq3.setOther (g := w.heap.size + 1) (by omega) 0 (.string ⟨v.name.toArray⟩)).setOther (g := w.heap.size + 1) (by omega) 1 (.int .i64 v.n)
  have Lib3 := setCell_far (setCell_far Kib3 (g := w.heap.size + 1) (by omega) 0 (.string ⟨v.name.toArray⟩)) (g := w.heap.size + 1) (by omega) 1 (.int .i64 v.n)
  have d0 : ∀ i, ((y3.setCell ⟨w.heap.size + 1, 0, none⟩ (.string ⟨v.name.toArray⟩)).setCell ⟨w.heap.size + 1, 1, none⟩ (.int .i64 v.n)).cell? ⟨w.heap.size, i, none⟩ = (#[.int .i64 (op : Int), .int .u8 (d : Int), .int .u8 0, .int .u8 0, .int .i32 0] : Array Value)[i]? := (blk_facts Lib3).1
  have d0' := (blk_facts Kib3).1
  have q0 : ((y3.setCell ⟨w.heap.size + 1, 0, none⟩ (.string ⟨v.name.toArray⟩)).setCell ⟨w.heap.size + 1, 1, none⟩ (.int .i64 v.n)).cell? ⟨w.heap.size + 1, 0, none⟩ = some (.string ⟨v.name.toArray⟩) := (blk_facts Lvb3).1 0
  have q1 : ((y3.setCell ⟨w.heap.size + 1, 0, none⟩ (.string ⟨v.name.toArray⟩)).setCell ⟨w.heap.size + 1, 1, none⟩ (.int .i64 v.n)).cell? ⟨w.heap.size + 1, 1, none⟩ = some (.int .i64 v.n) := (blk_facts Lvb3).1 1
  have q2 : (y3.setCell ⟨w.heap.size + 1, 0, none⟩ (.string ⟨v.name.toArray⟩)).cell? ⟨w.heap.size + 1, 0, none⟩ = some (.string ⟨v.name.toArray⟩) := (blk_facts r1).1 0
  go_wp2_with fail
  clear p0 p1 g0 g1 zvb r1 d0 d0' q0 q1 q2
  generalize (y3.setCell _ _).setCell _ _ = Z at hR3 sr3 Lib3 Lvb3 ⊢
  refine (encoded_calls ⟨(op : Int), (d : Int), 0, 0, 0⟩ v Z).mono ?_
  rintro e x1 ⟨rfl, rfl⟩
  have hput := put_ins C3 S l3 hb ⟨(op : Int), (d : Int), 0, 0, 0⟩ v Z hR3
  rw [eb3] at hput
  go_wp2_with fail
  refine hput.mono ?_
  intro e x2 hO
  have hO2 := hO.after sr3
  have hRe := HRS.out _ _ HI.out.symm
  rw [← hRe] at hO2
  clear hO hRe HRS HRN HI hput
  rcases R with er | T
  · obtain ⟨rfl, ho⟩ := hO2
    exact ⟨rfl, rfl, ho⟩
  obtain ⟨rfl, D, hD, sD⟩ := hO2
  go_wp2_with fail
  go_end0
  exact ⟨rfl, D, hD, sD⟩)
end Go.Proofs.YtabmlbnnhhpaoaaGreatDoor
set_option maxHeartbeats 8000000
set_option maxRecDepth 100000
namespace Go.Proofs.YtabmlbnnhhpaoaaGreatDoor
open Go.RowKit Go.Shelf
theorem instrA_form5 (op : Nat) (h1 : 1 ≤ op) (h2 : op < 49) (hnm : op < 24 ∨ 31 < op) (hfo : Isa.formOf op = 5) (B : Asm.PB) (S : Asm.PS) (htb : Asm.TokB S.toks) (hb : Asm.Bnd2 S) (w : World) (hP : Asm.Par B S w) :
 Calls Tryz.prog 57 #[.pointer (some ⟨B.b, 0, none⟩), .int .i64 (op : Int)] w (Asm.Outc B w S.line (Asm.insR (Asm.ins5 op S.toks) S)) := by
 have hmm := @run_makeMap Tryz.prog
 have hix : Isa.ix (op : Int) = op := by unfold Isa.ix; rw [if_pos (by omega)]; rfl
 have hfc := Form_calls (op : Int)
 rw [hix, hfo] at hfc
 have hlt := hP.ltAll
 have zb := hlt B.b (.inl rfl)
 have hn0b := hP.b0
 obtain ⟨R, hR⟩ : ∃ R, Asm.insR (Asm.ins5 op S.toks) S = R := ⟨_, rfl⟩
 obtain ⟨l0, hl0⟩ : ∃ l0, S.toks = l0 := ⟨_, rfl⟩
 have hP0 : Asm.Par B { S with toks := l0 } w := by rw [← hl0]; exact hP
 rw [hR]
 rw [hl0] at hR htb
 obtain ⟨I, hI⟩ : ∃ I, Asm.ins5 op l0 = I := ⟨_, rfl⟩
 rw [hI] at hR
 have hRn : I = none → R = .error 112 := fun h => by rw [← hR, h]; rfl
 have hRs : ∀ x l, I = some (x, l) → R = Asm.putR { S with toks := l } ⟨S.line, S.pos, x.1, x.2, .enc⟩ 1 := fun x l h => by rw [← hR, h]; rfl
 unfold Asm.ins5 at hI
 have HI := Lib.hid hI
 have HRN := Lib.hid hRn
 have HRS := Lib.hid hRs
 clear hR hI hRn hRs hP hl0
 -- the boxes of the instruction and of the value, the map
 obtain ⟨W, W1, W2, W3, W4, W5, W6, hW, hWs, ⟨e1, e2, e3, e4, e5, e6, o6, off6, a1, a2, a3, a4, a5, a6, s1, s2, s3, s4, s5⟩, hb6, Kib6, Kvb6⟩ := instr_boxes op w
 rw [hWs] at e1
 rcases hnm with hnm | hnm
 all_goals go_enter Tryz.func57, Tryz.ntmps57
 all_goals (
  go_wp2_with fail
  refine (hfc _).mono ?_
  rintro e w7 ⟨rfl, hb7⟩
  have hlk := fields_look o6 hb7 5 (by decide) (.slice (some ⟨(W4.heap.size), 0, none⟩) 1 1) rfl
  go_wp2_with fail
  have K4 := heap_alloc_new w7 (.cells #[.int .i64 2, .int .i64 3, .int .i64 4, .int .i64 7] 147)
  have hb74 := below_next hb7 (below_alloc' (Below.refl w7.heap.size w7) (.cells #[.int .i64 2, .int .i64 3, .int .i64 4, .int .i64 7] 147))
  refine (hfc _).mono ?_
  rintro e w8 ⟨rfl, hb8⟩
  have K48 := blk_keep hb8 K4
  have hb68 := below_next hb74 hb8
  have hbw8 : Below w.heap.size w w8 := hb6.trans (hb68.mono hb6.size)
  have Kib := blk_keep hb68 Kib6
  have Kvb := blk_keep hb68 Kvb6
  have Ksl := blk_keep hb68 a5
  have hPs := hP0.kept hbw8
  have st := Asm.Step.belowAfter (Asm.Step.refl B w) hbw8
  have nib : ¬ B.owns w.heap.size := fun h => by have := hlt _ h; omega
  have nvb : ¬ B.owns (w.heap.size + 1) := fun h => by have := hlt _ h; omega
  have hslw : w.heap.size + 2 < (W4.heap.size) := by omega
  have nsl : ¬ B.owns (W4.heap.size) := fun h => by have := hlt _ h; omega
  go_wp2_with fail
  refine (contains_calls w7.heap.size 5 (by decide) _ K48).mono ?_
  rintro e w9 ⟨rfl, h9⟩
  rw [h9]
  clear h9 K48 K4 hb74 hb8 hb7 hlk hP0
  go_wp2_with fail
  refine wp_loop_rounds 2 ?_
  rw [rounds_succ]
  obtain ⟨dsl, fsl⟩ := blk_facts Ksl
  have pq : w8.cell? ⟨(W4.heap.size), 0, none⟩ = some (.pointer (some ⟨w.heap.size, 1, none⟩)) := dsl 0
  have zq := blk_size Ksl
  clear dsl fsl
  go_wp2_with fail
  clear pq zq
  have hq := reg_step B S l0 _ hPs
  refine hq.mono ?_
  rintro e y1 (⟨hk, rfl, ho⟩ | ⟨d, l1, hk, rfl, C1, hQ1, sp1⟩)
  · exact ⟨rfl, .bad (HRN.out (by have h := HI.out; rw [hk] at h; exact h.symm)) (Asm.Bad.after st ⟨rfl, ho⟩)⟩
  have h := HI.out
  rw [hk] at h
  dsimp only at h
  clear HI hq
  have HI := Lib.hid h
  clear h
  have tb1 := htb.sub (Asm.rdReg_sub hk)
  clear hk htb
  have sq1 := st.trans sp1
  have eb1 : C1.b = B.b := sq1.b
  obtain ⟨Kib1, nib1⟩ := sp1.keep Kib nib
  obtain ⟨Kvb1, nvb1⟩ := sp1.keep Kvb nvb
  obtain ⟨Ksl1, nsl1⟩ := sp1.keep Ksl nsl
  clear hPs st Kib Kvb sp1 Ksl
  obtain ⟨dib, fib⟩ := blk_facts Kib1
  have pq : y1.cell? ⟨w.heap.size, 1, none⟩ = some (.int .u8 0) := dib 1
  have gq : y1.frozen? ⟨w.heap.size, 1, none⟩ = false := fib 1
  have zq := blk_size Kib1
  clear dib fib
  have hR1 := hQ1.setOther Kib1 (by decide) nib1 1 (.int .u8 (d : Int))
  have sr1 := sq1.setOther (g := w.heap.size) (Nat.le_refl _) 1 (.int .u8 (d : Int))
  have Lib1 := setCell_row Kib1 1 (.int .u8 (d : Int)) (cs' := #[.int .i64 (op : Int), .int .u8 (d : Int), .int .u8 0, .int .u8 0, .int .i32 0]) rfl
  have Lvb1 := setCell_far Kvb1 (g := w.heap.size) (by omega) 1 (.int .u8 (d : Int))
  have Lsl1 := setCell_far Ksl1 (g := w.heap.size) (by omega) 1 (.int .u8 (d : Int))
  go_wp2_with fail
  clear pq gq zq hQ1 sq1 Kib1 Kvb1 Ksl1
  generalize y1.setCell _ _ = Z1 at hR1 sr1 Lib1 Lvb1 Lsl1 ⊢
  rw [rounds_succ]
  obtain ⟨dib, fib⟩ := blk_facts Lib1
  obtain ⟨dvb, fvb⟩ := blk_facts Lvb1
  have zib := blk_size Lib1
  have zvb := blk_size Lvb1
  go_wp2_with fail
  refine (encoded_calls ⟨(op : Int), (d : Int), 0, 0, 0⟩ ⟨[], 0⟩ Z1).mono ?_
  rintro e x1 ⟨rfl, rfl⟩
  have hput := put_ins C1 S l1 hb ⟨(op : Int), (d : Int), 0, 0, 0⟩ ⟨[], 0⟩ Z1 hR1
  rw [eb1] at hput
  go_wp2_with fail
  refine hput.mono ?_
  intro e x2 hO
  have hO2 := hO.after sr1
  have hRe := HRS.out _ _ HI.out.symm
  rw [← hRe] at hO2
  clear hO hRe HRS HRN HI hput
  rcases R with er | T
  · obtain ⟨rfl, ho⟩ := hO2
    exact ⟨rfl, rfl, ho⟩
  obtain ⟨rfl, D, hD, sD⟩ := hO2
  go_wp2_with fail
  go_end0
  exact ⟨rfl, D, hD, sD⟩)
end Go.Proofs.YtabmlbnnhhpaoaaGreatDoor
