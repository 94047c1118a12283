/- What this claim needs of FailE, FailF, FailG, FailH, FailW. -/
import Derived.Test.YtabmlbnnhhpaoaaGreatDoorEMFailAG
import Derived.Test.YtabmlbnnhhpaoaaGreatDoorEMRenG
set_option linter.unusedSimpArgs false
set_option linter.unusedVariables false
namespace Go.Proofs.YtabmlbnnhhpaoaaGreatDoor
open Go.RowKit Go.Shelf
namespace Asm
def rdReg : List Tok → Option (Nat × List Tok)
 | t :: ts => if t.sort = 0 then (match regOf t.bytes with | some n => some (n, ts) | none => none) else none
 | [] => none
def rdSign (c : UInt8) : List Tok → Option (List Tok)
 | t :: ts => if t.sort = 2 ∧ t.bytes = [c] then some ts else none
 | [] => none
def rdVal : List Tok → Option (Val × List Tok)
 | t :: ts => if t.sort = 1 then some (⟨[], t.n⟩, ts) else if t.sort = 0 ∧ nameOk t.bytes = true then some (⟨t.bytes, 0⟩, ts) else none
 | [] => none
def rdNext (s : Nat) : List Tok → Option (Tok × List Tok)
 | t :: ts => if t.sort = s then some (t, ts) else none
 | [] => none
def TokB (l : List Tok) : Prop := ∀ t ∈ l, t.bytes.length ≤ 1000000
theorem rdReg_sub {l ts : List Tok} {n : Nat} (h : rdReg l = some (n, ts)) : ∃ t, l = t :: ts := by
 cases l with
 | nil => cases h
 | cons t l =>
   rw [rdReg] at h
   split at h
   · split at h
     · cases h; exact ⟨t, rfl⟩
     · cases h
   · cases h
theorem rdSign_sub {c : UInt8} {l ts : List Tok} (h : rdSign c l = some ts) : ∃ t, l = t :: ts := by
 cases l with
 | nil => cases h
 | cons t l =>
   rw [rdSign] at h
   split at h
   · cases h; exact ⟨t, rfl⟩
   · cases h
theorem rdVal_sub {l ts : List Tok} {v : Val} (h : rdVal l = some (v, ts)) : ∃ t, l = t :: ts := by
 cases l with
 | nil => cases h
 | cons t l =>
   rw [rdVal] at h
   split at h
   · cases h; exact ⟨t, rfl⟩
   · split at h
     · cases h; exact ⟨t, rfl⟩
     · cases h
theorem TokB.sub {l ts : List Tok} (h : TokB l) (hs : ∃ t, l = t :: ts) : TokB ts := by
 obtain ⟨t, rfl⟩ := hs
 exact fun u hu => h u (by simp [hu])
theorem Bnd2.toks {S : PS} (h : Bnd2 S) (l : List Tok) : Bnd2 { S with toks := l } := ⟨h.o0, h.pos, h.c, h.puts, h.labels, h.pieces, h.fresh, h.line0, h.line1⟩
end Asm
theorem reg_step (B : Asm.PB) (S : Asm.PS) (l : List Asm.Tok) (w : World) (hP : Asm.Par B { S with toks := l } w) :
 Calls Tryz.prog 102 #[.pointer (some ⟨B.b, 0, none⟩)] w fun e w' =>
  (Asm.rdReg l = none ∧ Asm.Bad B w 112 S.line e w') ∨
  (∃ n ts, Asm.rdReg l = some (n, ts) ∧ e = .returned (.int .u8 (n : Int)) ∧ ∃ B', Asm.Par B' { S with toks := ts } w' ∧ Asm.Step B w B' w') := by
 refine (register_any B { S with toks := l } w hP).mono ?_
 rintro e w' (⟨t, ts, n, rfl, hr, he, k⟩ | ⟨hn, k⟩)
 · refine .inr ⟨n, ts, ?_, he, k⟩
   rw [Asm.rdReg]
   rw [if_pos hr.sort, hr.reg]
 · refine .inl ⟨?_, k⟩
   cases l with
   | nil => rfl
   | cons t ts =>
     rw [Asm.rdReg]
     by_cases hs : t.sort = 0
     · rw [if_pos hs]
       cases hr : Asm.regOf t.bytes with
       | none => rfl
       | some n => exact absurd ⟨hs, hr⟩ (hn t ts n rfl)
     · rw [if_neg hs]
theorem sign_step (B : Asm.PB) (S : Asm.PS) (l : List Asm.Tok) (c : UInt8) (w : World) (hP : Asm.Par B { S with toks := l } w) :
 Calls Tryz.prog 54 #[.pointer (some ⟨B.b, 0, none⟩), .string ⟨#[c]⟩] w fun e w' =>
  (Asm.rdSign c l = none ∧ Asm.Bad B w 112 S.line e w') ∨
  (∃ ts, Asm.rdSign c l = some ts ∧ e = .returned (.tuple #[]) ∧ ∃ B', Asm.Par B' { S with toks := ts } w' ∧ Asm.Step B w B' w') := by
 refine (must_any B { S with toks := l } c w hP).mono ?_
 rintro e w' (⟨t, ts, rfl, hr, he, k⟩ | ⟨hn, k⟩)
 · refine .inr ⟨ts, ?_, he, k⟩
   rw [Asm.rdSign]
   rw [if_pos ⟨hr.sort, hr.bytes⟩]
 · refine .inl ⟨?_, k⟩
   cases l with
   | nil => rfl
   | cons t ts =>
     rw [Asm.rdSign]
     rw [if_neg (fun h => hn t ts rfl ⟨h.1, h.2⟩)]
theorem val_step (B : Asm.PB) (S : Asm.PS) (l : List Asm.Tok) (hl : Asm.TokB l) (w : World) (hP : Asm.Par B { S with toks := l } w) :
 Calls Tryz.prog 103 #[.pointer (some ⟨B.b, 0, none⟩)] w fun e w' =>
  (Asm.rdVal l = none ∧ Asm.Bad B w 112 S.line e w') ∨
  (∃ v ts, Asm.rdVal l = some (v, ts) ∧ e = .returned (.agg #[.string ⟨v.name.toArray⟩, .int .i64 v.n]) ∧ ∃ B', Asm.Par B' { S with toks := ts } w' ∧ Asm.Step B w B' w') := by
 refine (value_any B { S with toks := l } hl w hP).mono ?_
 rintro e w' (⟨t, ts, v, rfl, hr, he, k⟩ | ⟨hn, k⟩)
 · refine .inr ⟨v, ts, ?_, he, k⟩
   rw [Asm.rdVal]
   rcases hr with ⟨h1, rfl⟩ | ⟨h1, _, h3, rfl⟩
   · rw [if_pos h1]
   · rw [if_neg (by omega), if_pos ⟨h1, h3⟩]
 · refine .inl ⟨?_, k⟩
   cases l with
   | nil => rfl
   | cons t ts =>
     rw [Asm.rdVal]
     by_cases h1 : t.sort = 1
     · exact absurd (.inl ⟨h1, rfl⟩) (hn t ts _ rfl)
     · rw [if_neg h1]
       by_cases h2 : t.sort = 0 ∧ Asm.nameOk t.bytes = true
       · exact absurd (.inr ⟨h2.1, hl t (by simp), h2.2, rfl⟩) (hn t ts ⟨t.bytes, 0⟩ rfl)
       · rw [if_neg h2]
theorem next_step (B : Asm.PB) (S : Asm.PS) (l : List Asm.Tok) (s : Nat) (w : World) (hP : Asm.Par B { S with toks := l } w) :
 Calls Tryz.prog 52 #[.pointer (some ⟨B.b, 0, none⟩), .int .i64 (s : Int)] w fun e w' =>
  (Asm.rdNext s l = none ∧ Asm.Bad B w 112 S.line e w') ∨
  (∃ t ts, Asm.rdNext s l = some (t, ts) ∧ e = .returned (.agg #[.int .i64 (s : Int), .string ⟨t.bytes.toArray⟩, .int .i64 t.n]) ∧ ∃ B', Asm.Par B' { S with toks := ts } w' ∧ Asm.Step B w B' w') := by
 refine (next_any B { S with toks := l } s w hP).mono ?_
 rintro e w' (⟨t, ts, rfl, hr, he, k⟩ | ⟨hn, k⟩)
 · refine .inr ⟨t, ts, ?_, he, k⟩
   rw [Asm.rdNext]
   rw [if_pos hr]
 · refine .inl ⟨?_, k⟩
   cases l with
   | nil => rfl
   | cons t ts =>
     rw [Asm.rdNext]
     rw [if_neg (hn t ts rfl)]
theorem put_step (B : Asm.PB) (S : Asm.PS) (l : List Asm.Tok) (hb : Asm.Bnd2 S) (n : Nat) (hnb : n ≤ 100000) (x : Asm.Piece) (hxl : x.line = S.line) (hxa : x.at_ = S.pos) (w : World) (hP : Asm.Par B { S with toks := l } w)
 (fp : Nat × List Nat) (hfn : Asm.FnIs w x fp) (hnd : fp.2.Nodup) (W0 : World) (h0 : Asm.Off B.owns W0 w) (hno : ∀ g, g ∈ fp.2 → ¬ B.owns g ∧ B.n0 ≤ g ∧ W0.heap.size ≤ g) :
 Calls Tryz.prog 104 #[.pointer (some ⟨B.b, 0, none⟩), .int .i64 (n : Int), Asm.fnVal fp] w (Asm.Outc B W0 S.line (Asm.putR { S with toks := l } x n)) :=
 put_any B { S with toks := l } (hb.toks l) n hnb x hxl hxa w hP fp hfn hnd W0 h0 hno
theorem put_ins (C : Asm.PB) (S : Asm.PS) (l : List Asm.Tok) (hb : Asm.Bnd2 S) (i : Asm.Ins) (v : Asm.Val) (Z : World) (hR : Asm.Par C { S with toks := l } Z) :
  Calls Tryz.prog 104 #[.pointer (some ⟨C.b, 0, none⟩), .int .i64 ((1 : Nat) : Int), Asm.fnVal (135, [Z.heap.size + 1, Z.heap.size])] ((Z.alloc (.cells (Asm.insCells i) 96)).alloc (.cells (Asm.valCells v) 195))
   (Asm.Outc C Z S.line (Asm.putR { S with toks := l } ⟨S.line, S.pos, i, v, .enc⟩ 1)) := by
 have bE : Below Z.heap.size Z ((Z.alloc (.cells (Asm.insCells i) 96)).alloc (.cells (Asm.valCells v) 195)) := below_alloc' (below_alloc' (Below.refl _ _) _) _
 have kI := blk_alloc (.cells (Asm.valCells v) 195) (heap_alloc_new Z (.cells (Asm.insCells i) 96))
 have kV := heap_alloc_new (Z.alloc (.cells (Asm.insCells i) 96)) (.cells (Asm.valCells v) 195)
 rw [alloc_size] at kV
 have hlt2 := hR.ltAll
 have hn2 := hR.b0
 have hbb := hlt2 C.b (.inl rfl)
 refine put_step C S l hb 1 (by decide) ⟨S.line, S.pos, i, v, .enc⟩ rfl rfl _ (hR.kept bE) (135, [Z.heap.size + 1, Z.heap.size]) ⟨_, _, rfl, kV, kI⟩ (by simp) Z (Asm.Off.of_below bE) ?_
 intro g hg
 simp at hg
 rcases hg with rfl | rfl
 · exact ⟨fun h => by have := hlt2 _ h; omega, by omega, by omega⟩
 · exact ⟨fun h => by have := hlt2 _ h; omega, by omega, by omega⟩
end Go.Proofs.YtabmlbnnhhpaoaaGreatDoor
namespace Go.Proofs.YtabmlbnnhhpaoaaGreatDoor
open Go.RowKit Go.Shelf
namespace Asm
def ins1 (op : Nat) (l0 : List Tok) : Option ((Ins × Val) × List Tok) :=
 match rdReg l0 with
 | none => none
 | some (d, l1) =>
   match rdSign 44 l1 with
   | none => none
   | some l2 =>
     match rdReg l2 with
     | none => none
     | some (a, l3) =>
       match rdSign 44 l3 with
       | none => none
       | some l4 =>
         match rdReg l4 with
         | none => none
         | some (b, l5) =>
           some ((⟨(op : Int), (d : Int), (a : Int), (b : Int), 0⟩, ⟨[], 0⟩), l5)
def ins2 (op : Nat) (l0 : List Tok) : Option ((Ins × Val) × List Tok) :=
 match rdReg l0 with
 | none => none
 | some (d, l1) =>
   match rdSign 44 l1 with
   | none => none
   | some l2 =>
     match rdReg l2 with
     | none => none
     | some (a, l3) =>
       match rdSign 44 l3 with
       | none => none
       | some l4 =>
         match rdVal l4 with
         | none => none
         | some (v, l5) =>
           some ((⟨(op : Int), (d : Int), (a : Int), 0, 0⟩, v), l5)
def ins3 (op : Nat) (l0 : List Tok) : Option ((Ins × Val) × List Tok) :=
 match rdReg l0 with
 | none => none
 | some (a, l1) =>
   match rdSign 44 l1 with
   | none => none
   | some l2 =>
     match rdReg l2 with
     | none => none
     | some (b, l3) =>
       match rdSign 44 l3 with
       | none => none
       | some l4 =>
         match rdVal l4 with
         | none => none
         | some (v, l5) =>
           some ((⟨(op : Int), 0, (a : Int), (b : Int), 0⟩, v), l5)
def ins4 (op : Nat) (l0 : List Tok) : Option ((Ins × Val) × List Tok) :=
 match rdReg l0 with
 | none => none
 | some (d, l1) =>
   match rdSign 44 l1 with
   | none => none
   | some l2 =>
     match rdVal l2 with
     | none => none
     | some (v, l3) =>
       some ((⟨(op : Int), (d : Int), 0, 0, 0⟩, v), l3)
def ins5 (op : Nat) (l0 : List Tok) : Option ((Ins × Val) × List Tok) :=
 match rdReg l0 with
 | none => none
 | some (d, l1) =>
   some ((⟨(op : Int), (d : Int), 0, 0, 0⟩, ⟨[], 0⟩), l1)
def ins6 (op : Nat) (l0 : List Tok) : Option ((Ins × Val) × List Tok) :=
 match rdReg l0 with
 | none => none
 | some (a, l1) =>
   some ((⟨(op : Int), 0, (a : Int), 0, 0⟩, ⟨[], 0⟩), l1)
def ins7 (op : Nat) (l0 : List Tok) : Option ((Ins × Val) × List Tok) :=
 match rdVal l0 with
 | none => none
 | some (v, l1) =>
   some ((⟨(op : Int), 0, 0, 0, 0⟩, v), l1)
def ins8 (op : Nat) (l0 : List Tok) : Option ((Ins × Val) × List Tok) :=
 some ((⟨(op : Int), 0, 0, 0, 0⟩, ⟨[], 0⟩), l0)
def ins9 (op : Nat) (l0 : List Tok) : Option ((Ins × Val) × List Tok) :=
 match rdReg l0 with
 | none => none
 | some (d, l1) =>
   match rdSign 44 l1 with
   | none => none
   | some l2 =>
     match rdVal l2 with
     | none => none
     | some (v, l3) =>
       match rdSign 40 l3 with
       | none => none
       | some l4 =>
         match rdReg l4 with
         | none => none
         | some (a, l5) =>
           match rdSign 41 l5 with
           | none => none
           | some l6 =>
             some ((⟨(op : Int), (d : Int), (a : Int), 0, 0⟩, v), l6)
def ins10 (op : Nat) (l0 : List Tok) : Option ((Ins × Val) × List Tok) :=
 match rdReg l0 with
 | none => none
 | some (b, l1) =>
   match rdSign 44 l1 with
   | none => none
   | some l2 =>
     match rdVal l2 with
     | none => none
     | some (v, l3) =>
       match rdSign 40 l3 with
       | none => none
       | some l4 =>
         match rdReg l4 with
         | none => none
         | some (a, l5) =>
           match rdSign 41 l5 with
           | none => none
           | some l6 =>
             some ((⟨(op : Int), 0, (a : Int), (b : Int), 0⟩, v), l6)
def insR (I : Option ((Ins × Val) × List Tok)) (S : PS) : Except Int PS :=
 match I with
 | none => .error 112
 | some (x, l) => putR { S with toks := l } ⟨S.line, S.pos, x.1, x.2, .enc⟩ 1
def insParse (op : Nat) (l : List Tok) : Option ((Ins × Val) × List Tok) :=
 if 24 ≤ op ∧ op ≤ 31 then (if Isa.formOf op = 3 then ins10 op l else ins9 op l)
 else match Isa.formOf op with
  | 1 => ins1 op l | 2 => ins2 op l | 3 => ins3 op l | 4 => ins4 op l | 5 => ins5 op l | 6 => ins6 op l | 7 => ins7 op l | 8 => ins8 op l
  | _ => none
end Asm
end Go.Proofs.YtabmlbnnhhpaoaaGreatDoor
set_option maxHeartbeats 2000000
set_option maxRecDepth 100000
namespace Go.Proofs.YtabmlbnnhhpaoaaGreatDoor
open Go.RowKit Go.Shelf
namespace Asm
def jR (d : Nat) (S : PS) : Except Int PS :=
 match rdVal S.toks with
 | none => .error 112
 | some (v, l) => putR { S with toks := l } ⟨S.line, S.pos, ⟨38, (d : Int), 0, 0, 0⟩, v, .enc⟩ 1
def retR (S : PS) : Except Int PS := putR S ⟨S.line, S.pos, ⟨39, 0, 15, 0, 0⟩, ⟨[], 0⟩, .enc⟩ 1
def mvP (l0 : List Tok) : Option ((Ins × Val) × List Tok) :=
 match rdReg l0 with
 | none => none
 | some (d, l1) =>
   match rdSign 44 l1 with
   | none => none
   | some l2 =>
     match rdReg l2 with
     | none => none
     | some (a, l3) =>
       some ((⟨14, (d : Int), (a : Int), 0, 0⟩, ⟨[], 0⟩), l3)
def liP (l0 : List Tok) : Option ((Nat × Val) × List Tok) :=
 match rdReg l0 with
 | none => none
 | some (d, l1) =>
   match rdSign 44 l1 with
   | none => none
   | some l2 =>
     match rdVal l2 with
     | none => none
     | some (v, l3) =>
       some ((d, v), l3)
def liR (S : PS) : Except Int PS :=
 match liP S.toks with
 | none => .error 112
 | some (x, l) => putR { S with toks := l } ⟨S.line, S.pos, ⟨0, (x.1 : Int), 0, 0, 0⟩, x.2, .li⟩ 2
theorem Bad.uncut {B B3 : PB} {w now w' : World} {n : Nat} {er line : Int} {e : Ending} (hn : w.heap.size ≤ n) (hn2 : n ≤ now.heap.size) (h : Step B w B3 now) (k : Bad B3 (cutW now n) er line e w') : Bad B w er line e w' :=
 ⟨k.1, k.2.os.trans h.off.os, k.2.tape.trans h.off.tape, k.2.output.trans h.off.output, Nat.le_trans hn (by have := k.2.size; rwa [cutW_size hn2] at this), fun g hg ho => by
  have hgn : g < n := by omega
  have h3 : ¬ B3.owns g := fun h3 => (h.owned g h3).elim ho (fun h4 => by omega)
  exact (k.2.block g (by rw [cutW_size hn2]; exact hgn) h3).trans ((cutW_at hgn).trans (h.off.block g hg ho))⟩
theorem Outc.uncut {B B3 : PB} {w now w' : World} {n : Nat} {line : Int} {R : Except Int PS} {e : Ending} (k : Outc B3 (cutW now n) line R e w') (hn : w.heap.size ≤ n) (hn2 : n ≤ now.heap.size) (h : Step B w B3 now) : Outc B w line R e w' := by
 cases R with
 | ok T => obtain ⟨h1, B', h2, h3⟩ := k; exact ⟨h1, B', h2, Step.uncut hn hn2 h h3⟩
 | error er => exact Bad.uncut hn hn2 h k
end Asm
theorem j_any (B : Asm.PB) (S : Asm.PS) (htb : Asm.TokB S.toks) (hb : Asm.Bnd2 S) (w : World) (hP : Asm.Par B S w) :
 Calls Tryz.prog 108 #[.pointer (some ⟨B.b, 0, none⟩)] w (Asm.Outc B w S.line (Asm.jR 0 S)) := by
 obtain ⟨R, hR⟩ : ∃ R, Asm.jR 0 S = R := ⟨_, rfl⟩
 rw [hR]
 unfold Asm.jR at hR
 go_enter Tryz.func108, Tryz.ntmps108
 go_wp2_with fail
 refine (val_step B S S.toks htb w hP).mono ?_
 rintro e y1 (⟨hk, rfl, ho⟩ | ⟨v, l1, hk, rfl, B1, hP1, st1⟩)
 · exact ⟨rfl, .bad (by rw [← hR, hk]) ⟨rfl, ho⟩⟩
 rw [hk] at hR
 dsimp only at hR
 have HR := Lib.hid hR
 clear hR hk
 have eb1 : B1.b = B.b := st1.b
 go_wp2_with fail
 refine (encoded_calls ⟨38, 0, 0, 0, 0⟩ v y1).mono ?_
 rintro e x1 ⟨rfl, rfl⟩
 have hput := put_ins B1 S l1 hb ⟨38, 0, 0, 0, 0⟩ v y1 hP1
 rw [eb1] at hput
 go_wp2_with fail
 refine hput.mono ?_
 intro e x2 hO
 have hO2 := hO.after st1
 have hRe := HR.out
 have hO3 : Asm.Outc B w S.line R e x2 := by rw [← hRe]; exact hO2
 clear hO hO2 hRe HR hput
 rcases R with er | T
 · obtain ⟨rfl, ho⟩ := hO3
   exact ⟨rfl, rfl, ho⟩
 obtain ⟨rfl, D, hD, sD⟩ := hO3
 go_wp2_with fail
 go_end0
 exact ⟨rfl, D, hD, sD⟩
theorem call_any (B : Asm.PB) (S : Asm.PS) (htb : Asm.TokB S.toks) (hb : Asm.Bnd2 S) (w : World) (hP : Asm.Par B S w) :
 Calls Tryz.prog 109 #[.pointer (some ⟨B.b, 0, none⟩)] w (Asm.Outc B w S.line (Asm.jR 15 S)) := by
 obtain ⟨R, hR⟩ : ∃ R, Asm.jR 15 S = R := ⟨_, rfl⟩
 rw [hR]
 unfold Asm.jR at hR
 go_enter Tryz.func109, Tryz.ntmps109
 go_wp2_with fail
 refine (val_step B S S.toks htb w hP).mono ?_
 rintro e y1 (⟨hk, rfl, ho⟩ | ⟨v, l1, hk, rfl, B1, hP1, st1⟩)
 · exact ⟨rfl, .bad (by rw [← hR, hk]) ⟨rfl, ho⟩⟩
 rw [hk] at hR
 dsimp only at hR
 have HR := Lib.hid hR
 clear hR hk
 have eb1 : B1.b = B.b := st1.b
 go_wp2_with fail
 refine (encoded_calls ⟨38, 15, 0, 0, 0⟩ v y1).mono ?_
 rintro e x1 ⟨rfl, rfl⟩
 have hput := put_ins B1 S l1 hb ⟨38, 15, 0, 0, 0⟩ v y1 hP1
 rw [eb1] at hput
 go_wp2_with fail
 refine hput.mono ?_
 intro e x2 hO
 have hO2 := hO.after st1
 have hRe := HR.out
 have hO3 : Asm.Outc B w S.line R e x2 := by rw [← hRe]; exact hO2
 clear hO hO2 hRe HR hput
 rcases R with er | T
 · obtain ⟨rfl, ho⟩ := hO3
   exact ⟨rfl, rfl, ho⟩
 obtain ⟨rfl, D, hD, sD⟩ := hO3
 go_wp2_with fail
 go_end0
 exact ⟨rfl, D, hD, sD⟩
theorem ret_any (B : Asm.PB) (S : Asm.PS) (hb : Asm.Bnd2 S) (w : World) (hP : Asm.Par B S w) :
 Calls Tryz.prog 110 #[.pointer (some ⟨B.b, 0, none⟩)] w (Asm.Outc B w S.line (Asm.retR S)) := by
 obtain ⟨R, hR⟩ : ∃ R, Asm.retR S = R := ⟨_, rfl⟩
 rw [hR]
 unfold Asm.retR at hR
 have HR := Lib.hid hR
 clear hR
 go_enter Tryz.func110, Tryz.ntmps110
 go_wp2_with fail
 have st1 := Asm.Step.refl B w
 refine (encoded_calls ⟨39, 0, 15, 0, 0⟩ ⟨[], 0⟩ w).mono ?_
 rintro e x1 ⟨rfl, rfl⟩
 have hput := put_ins B S S.toks hb ⟨39, 0, 15, 0, 0⟩ ⟨[], 0⟩ w hP
 go_wp2_with fail
 refine hput.mono ?_
 intro e x2 hO
 have hO2 := hO.after st1
 have hRe := HR.out
 have hO3 : Asm.Outc B w S.line R e x2 := by rw [← hRe]; exact hO2
 clear hO hO2 hRe HR hput
 rcases R with er | T
 · obtain ⟨rfl, ho⟩ := hO3
   exact ⟨rfl, rfl, ho⟩
 obtain ⟨rfl, D, hD, sD⟩ := hO3
 go_wp2_with fail
 go_end0
 exact ⟨rfl, D, hD, sD⟩
theorem mv_any (B : Asm.PB) (S : Asm.PS) (htb : Asm.TokB S.toks) (hb : Asm.Bnd2 S) (w : World) (hP : Asm.Par B S w) :
 Calls Tryz.prog 107 #[.pointer (some ⟨B.b, 0, none⟩)] w (Asm.Outc B w S.line (Asm.insR (Asm.mvP S.toks) S)) := by
 obtain ⟨R, hR⟩ : ∃ R, Asm.insR (Asm.mvP S.toks) S = R := ⟨_, rfl⟩
 rw [hR]
 obtain ⟨I, hI⟩ : ∃ I, Asm.mvP S.toks = I := ⟨_, rfl⟩
 rw [hI] at hR
 have HRN := Lib.hid (fun h => by rw [← hR, h]; rfl : I = none → R = .error 112)
 have HRS := Lib.hid (fun x l h => by rw [← hR, h]; rfl : ∀ x l, I = some (x, l) → R = Asm.putR { S with toks := l } ⟨S.line, S.pos, x.1, x.2, .enc⟩ 1)
 unfold Asm.mvP at hI
 have HI := Lib.hid hI
 clear hI hR
 go_enter Tryz.func107, Tryz.ntmps107
 go_wp2_with fail
 have hq := reg_step B S S.toks w hP
 refine hq.mono ?_
 rintro e y1 (⟨hk, rfl, ho⟩ | ⟨d, l1, hk, rfl, B1, hP1, sp1⟩)
 · exact ⟨rfl, .bad (HRN.out (by have h := HI.out; rw [hk] at h; exact h.symm)) (Asm.Bad.after (Asm.Step.refl B w) ⟨rfl, ho⟩)⟩
 have h := HI.out
 rw [hk] at h
 dsimp only at h
 clear HI hq
 have HI := Lib.hid h
 clear h
 have eb1 : B1.b = B.b := sp1.b
 go_wp2_with fail
 have hq := sign_step B1 S l1 44 _ hP1
 rw [eb1] at hq
 refine hq.mono ?_
 rintro e y2 (⟨hk, rfl, ho⟩ | ⟨l2, hk, rfl, B2, hP2, sp2⟩)
 · exact ⟨rfl, .bad (HRN.out (by have h := HI.out; rw [hk] at h; exact h.symm)) (Asm.Bad.after sp1 ⟨rfl, ho⟩)⟩
 have h := HI.out
 rw [hk] at h
 dsimp only at h
 clear HI hq
 have HI := Lib.hid h
 clear h
 have st2 := sp1.trans sp2
 have eb2 : B2.b = B.b := st2.b
 go_wp2_with fail
 have hq := reg_step B2 S l2 _ hP2
 rw [eb2] at hq
 refine hq.mono ?_
 rintro e y3 (⟨hk, rfl, ho⟩ | ⟨a, l3, hk, rfl, B3, hP3, sp3⟩)
 · exact ⟨rfl, .bad (HRN.out (by have h := HI.out; rw [hk] at h; exact h.symm)) (Asm.Bad.after st2 ⟨rfl, ho⟩)⟩
 have h := HI.out
 rw [hk] at h
 dsimp only at h
 clear HI hq
 have HI := Lib.hid h
 clear h
 have st3 := st2.trans sp3
 have eb3 : B3.b = B.b := st3.b
 go_wp2_with fail
 refine (encoded_calls ⟨14, (d : Int), (a : Int), 0, 0⟩ ⟨[], 0⟩ y3).mono ?_
 rintro e x1 ⟨rfl, rfl⟩
 have hput := put_ins B3 S l3 hb ⟨14, (d : Int), (a : Int), 0, 0⟩ ⟨[], 0⟩ y3 hP3
 rw [eb3] at hput
 go_wp2_with fail
 refine hput.mono ?_
 intro e x2 hO
 have hO2 := hO.after st3
 have hRe := HRS.out _ _ HI.out.symm
 rw [← hRe] at hO2
 clear hO hRe HRN HRS HI hput
 rcases R with er | T
 · obtain ⟨rfl, ho⟩ := hO2
   exact ⟨rfl, rfl, ho⟩
 obtain ⟨rfl, D, hD, sD⟩ := hO2
 go_wp2_with fail
 go_end0
 exact ⟨rfl, D, hD, sD⟩
theorem li_any (B : Asm.PB) (S : Asm.PS) (htb : Asm.TokB S.toks) (hb : Asm.Bnd2 S) (w : World) (hP : Asm.Par B S w) :
 Calls Tryz.prog 106 #[.pointer (some ⟨B.b, 0, none⟩)] w (Asm.Outc B w S.line (Asm.liR S)) := by
 obtain ⟨R, hR⟩ : ∃ R, Asm.liR S = R := ⟨_, rfl⟩
 rw [hR]
 unfold Asm.liR at hR
 obtain ⟨I, hI⟩ : ∃ I, Asm.liP S.toks = I := ⟨_, rfl⟩
 rw [hI] at hR
 have HRN := Lib.hid (fun h => by rw [← hR, h] : I = none → R = .error 112)
 have HRS := Lib.hid (fun x l h => by rw [← hR, h] : ∀ x l, I = some (x, l) → R = Asm.putR { S with toks := l } ⟨S.line, S.pos, ⟨0, (x.1 : Int), 0, 0, 0⟩, x.2, .li⟩ 2)
 unfold Asm.liP at hI
 have HI := Lib.hid hI
 clear hI hR
 go_enter Tryz.func106, Tryz.ntmps106
 go_wp2_with fail
 have hq := reg_step B S S.toks w hP
 refine hq.mono ?_
 rintro e y1 (⟨hk, rfl, ho⟩ | ⟨d, l1, hk, rfl, B1, hP1, sp1⟩)
 · exact ⟨rfl, .bad (HRN.out (by have h := HI.out; rw [hk] at h; exact h.symm)) (Asm.Bad.after (Asm.Step.refl B w) ⟨rfl, ho⟩)⟩
 have h := HI.out
 rw [hk] at h
 dsimp only at h
 clear HI hq
 have HI := Lib.hid h
 clear h
 have tb1 := htb.sub (Asm.rdReg_sub hk)
 have eb1 : B1.b = B.b := sp1.b
 go_wp2_with fail
 have b1 : Below y1.heap.size y1 (y1.alloc (.cells #[.int .u8 (d : Int)] 5)) := below_alloc' (Below.refl _ _) _
 have k1 := heap_alloc_new y1 (.cells #[.int .u8 (d : Int)] 5)
 have n1 : ¬ B1.owns y1.heap.size := fun h => by have := hP1.ltAll _ h; omega
 have st1b := sp1.belowAfter b1
 have hq := sign_step B1 S l1 44 _ (hP1.kept b1)
 rw [eb1] at hq
 refine hq.mono ?_
 rintro e y2 (⟨hk, rfl, ho⟩ | ⟨l2, hk, rfl, B2, hP2, sp2⟩)
 · exact ⟨rfl, .bad (HRN.out (by have h := HI.out; rw [hk] at h; exact h.symm)) (Asm.Bad.after st1b ⟨rfl, ho⟩)⟩
 have h := HI.out
 rw [hk] at h
 dsimp only at h
 clear HI hq
 have HI := Lib.hid h
 clear h
 have tb2 := tb1.sub (Asm.rdSign_sub hk)
 have st2 := st1b.trans sp2
 have eb2 : B2.b = B.b := st2.b
 obtain ⟨k2, n2⟩ := sp2.keep k1 n1
 go_wp2_with fail
 have hq := val_step B2 S l2 tb2 _ hP2
 rw [eb2] at hq
 refine hq.mono ?_
 rintro e y3 (⟨hk, rfl, ho⟩ | ⟨v, l3, hk, rfl, B3, hP3, sp3⟩)
 · exact ⟨rfl, .bad (HRN.out (by have h := HI.out; rw [hk] at h; exact h.symm)) (Asm.Bad.after st2 ⟨rfl, ho⟩)⟩
 have h := HI.out
 rw [hk] at h
 dsimp only at h
 clear HI hq
 have HI := Lib.hid h
 clear h
 have st3 := st2.trans sp3
 have eb3 : B3.b = B.b := st3.b
 obtain ⟨k3, n3⟩ := sp3.keep k2 n2
 have hmf : ∀ (fn : Fn) (first cap : Array Value) (w : World), (Instr.makeFunc fn first cap).run Tryz.prog w = .ok (.func fn first cap) w := fun _ _ _ _ => rfl
 go_wp2_with fail
 have b4 : Below y3.heap.size y3 (y3.alloc (.cells #[.string ⟨v.name.toArray⟩, .int .i64 v.n] 195)) := below_alloc' (Below.refl _ _) _
 have kV := heap_alloc_new y3 (.cells #[.string ⟨v.name.toArray⟩, .int .i64 v.n] 195)
 have kD := blk_keep b4 k3
 have hlt := hP3.ltAll
 have hs2 := sp2.off.size
 have hs3 := sp3.off.size
 have hs1 := sp1.off.size
 rw [alloc_size] at hs2
 have hn3 : B3.n0 = B.n0 := st3.n0
 have hn0 := hP.b0
 have hz := blk_size hP.own
 have hcs : y1.heap.size ≤ (y3.alloc (.cells #[.string ⟨v.name.toArray⟩, .int .i64 v.n] 195)).heap.size := by rw [alloc_size]; omega
 have hput := put_step B3 S l3 hb 2 (by decide) ⟨S.line, S.pos, ⟨0, (d : Int), 0, 0, 0⟩, v, .li⟩ rfl rfl _ (hP3.kept b4) (137, [y3.heap.size, y1.heap.size])
  ⟨y3.heap.size, y1.heap.size, rfl, kV, kD⟩ (by simp; omega) (Asm.cutW _ y1.heap.size) (Asm.Off.cut hcs) (by
   intro g hg
   rw [Asm.cutW_size hcs]
   simp at hg
   rcases hg with rfl | rfl
   · exact ⟨fun h => by have := hlt _ h; omega, by omega, by omega⟩
   · exact ⟨n3, by omega, Nat.le_refl _⟩)
 rw [eb3] at hput
 refine hput.mono ?_
 intro e x2 hO
 have hRe := HRS.out _ _ HI.out.symm
 dsimp only at hRe
 rw [← hRe] at hO
 have hO2 := hO.uncut hs1 hcs (st3.belowAfter b4)
 clear hO hRe HRN HRS HI hput
 rcases R with er | T
 · obtain ⟨rfl, ho⟩ := hO2
   exact ⟨rfl, rfl, ho⟩
 obtain ⟨rfl, D, hD, sD⟩ := hO2
 go_wp2_with fail
 go_end0
 exact ⟨rfl, D, hD, sD⟩
end Go.Proofs.YtabmlbnnhhpaoaaGreatDoor
set_option maxHeartbeats 4000000
set_option maxRecDepth 100000
namespace Go.Proofs.YtabmlbnnhhpaoaaGreatDoor
open Go.RowKit Go.Shelf
namespace Asm
def orgR (S : PS) : Except Int PS :=
 match rdNext 1 S.toks with
 | none => .error 112
 | some (t, l) =>
   if l ≠ [] then .error 112
   else if S.placed = true ∨ S.fresh ≠ [] then .error 112
   else if t.n < 0 ∨ 4294967296 ≤ t.n ∨ t.n % 4 ≠ 0 then .error 115
   else .ok { S with toks := [], origin := t.n, placed := true }
def zeroR (S : PS) : Except Int PS :=
 match rdNext 1 S.toks with
 | none => .error 112
 | some (t, l) =>
   if l ≠ [] then .error 112
   else match markR { S with toks := l } with
    | .error e => .error e
    | .ok T => if t.n < 0 ∨ 4096 < t.n then .error 115 else putR T ⟨S.line, S.pos, ⟨0, 0, 0, 0, 0⟩, ⟨[], t.n⟩, .zero⟩ t.n.toNat
theorem Bnd2.marked {S T : PS} (h : Bnd2 S) (hm : markR S = .ok T) : Bnd2 T := by
 obtain ⟨a1, a2, a3, a4, a5, a6, a7, a8⟩ := markR_same hm
 have hp : T.pos = S.pos := by unfold PS.pos; rw [a3, a4]
 have h1 := h.puts
 have h2 := h.labels
 exact ⟨a3 ▸ h.o0, hp ▸ h.pos, a4 ▸ h.c, by rw [a6, a7]; simpa using h1, by rw [a6, a8]; simpa using h2, a5 ▸ h.pieces, by rw [a6]; simp, a1 ▸ h.line0, a1 ▸ h.line1⟩
end Asm
theorem org_any (B : Asm.PB) (S : Asm.PS) (hb : Asm.Bnd2 S) (w : World) (hP : Asm.Par B S w) :
 Calls Tryz.prog 111 #[.pointer (some ⟨B.b, 0, none⟩)] w (Asm.Outc B w S.line (Asm.orgR S)) := by
 obtain ⟨R, hR⟩ : ∃ R, Asm.orgR S = R := ⟨_, rfl⟩
 rw [hR]
 unfold Asm.orgR at hR
 have hn := next_step B S S.toks 1 w hP
 have hf := field2
 have HR := Lib.hid hR
 clear hR
 go_enter Tryz.func111, Tryz.ntmps111
 go_wp2_with fail
 refine hn.mono ?_
 rintro e w1 (⟨hk, rfl, ho⟩ | ⟨t, l, hk, rfl, B1, hP1, st1⟩)
 · exact ⟨rfl, .bad (by rw [← HR.out, hk]) ⟨rfl, ho⟩⟩
 have hR := HR.out
 clear HR hn
 rw [hk] at hR
 dsimp only at hR
 clear hk
 have HR := Lib.hid hR
 clear hR
 have eb : B1.b = B.b := st1.b
 have he := end_any B1 { S with toks := l } w1 hP1
 rw [eb] at he
 go_wp2_with fail
 refine he.mono ?_
 rintro e w2 (⟨hl, rfl, h2⟩ | ⟨hl, rfl, ho⟩)
 rotate_left
 · exact ⟨rfl, .bad (by rw [← HR.out, if_pos hl]) (Asm.Bad.after st1 ⟨rfl, ho⟩)⟩
 rw [h2]
 clear h2 he
 have hl' : l = [] := hl
 clear hl
 subst hl'
 have hR := HR.out
 clear HR
 rw [if_neg (by simp)] at hR
 obtain ⟨nf, hnf⟩ : ∃ nf, S.fresh.length = nf := ⟨_, rfl⟩
 have hfe : S.fresh ≠ [] ↔ 0 < nf := by rw [← hnf]; exact List.length_pos_iff.symm
 have HFE := Lib.hid hfe
 have HR := Lib.hid hR
 clear hR hfe
 obtain ⟨a, c, ev⟩ : ∃ a c, B1.vf = .slice a nf c := by
  have hr := hP1.fresh
  rw [show ({ S with toks := [] } : Asm.PS).fresh.length = nf from hnf] at hr
  obtain ⟨p, cap, e⟩ := Asm.row_slice hr
  exact ⟨p, cap, e⟩
 have HNF := Lib.hid hnf
 clear hnf
 obtain ⟨d, f⟩ := blk_facts hP1.own
 rw [eb] at d f
 have c2 : w1.cell? ⟨B.b, 2, none⟩ = some (.int .i64 S.origin) := d 2
 have c3 : w1.cell? ⟨B.b, 3, none⟩ = some (.bool S.placed) := d 3
 have c8 : w1.cell? ⟨B.b, 8, none⟩ = some (.slice a nf c) := (d 8).trans (by rw [← ev]; rfl)
 have f2 : w1.frozen? ⟨B.b, 2, none⟩ = false := f 2
 have f3 : w1.frozen? ⟨B.b, 3, none⟩ = false := f 3
 have z1 : B.b < w1.heap.size := eb ▸ blk_size hP1.own
 clear d f ev
 have hF := fun er : Int => fail_calls B1 { S with toks := [] } er w1 hP1
 rw [eb] at hF
 have bad : ∀ er e w', R = .error er → Asm.Bad B1 w1 er S.line e w' → Asm.Outc B w S.line R e w' := fun er e w' h k => .bad h (Asm.Bad.after st1 k)
 cases hpl : S.placed with
 | true =>
   rw [hpl] at c3
   go_wp2_with fail
   refine (hF 112).mono ?_
   rintro e w3 ⟨rfl, ho⟩
   exact ⟨rfl, bad 112 _ _ (by rw [← HR.out, if_pos (.inl hpl)]) ⟨rfl, ho⟩⟩
 | false =>
   rw [hpl] at c3
   by_cases hn0 : 0 < nf
   · have hni : (0 : Int) < (nf : Int) := by omega
     go_wp2_with fail
     refine (hF 112).mono ?_
     rintro e w3 ⟨rfl, ho⟩
     exact ⟨rfl, bad 112 _ _ (by rw [← HR.out, if_pos (.inr (HFE.out.2 hn0))]) ⟨rfl, ho⟩⟩
   · have hn1 : nf = 0 := by omega
     have hn0 := Lib.hid hn0
     subst hn1
     have hR := HR.out
     clear HR
     rw [if_neg (fun h => h.elim (fun h => by rw [hpl] at h; cases h) (fun h => hn0.out (HFE.out.1 h)))] at hR
     obtain ⟨n, hn⟩ : ∃ n, t.n = n := ⟨_, rfl⟩
     rw [hn] at hR ⊢
     clear hn
     by_cases hA : n < 0
     · have HR := Lib.hid hR
       clear hR
       go_wp2_with fail
       refine (hF 115).mono ?_
       rintro e w3 ⟨rfl, ho⟩
       exact ⟨rfl, bad 115 _ _ (by rw [← HR.out, if_pos (.inl hA)]) ⟨rfl, ho⟩⟩
     · by_cases hB : 4294967296 ≤ n
       · have HR := Lib.hid hR
         clear hR
         go_wp2_with fail
         refine (hF 115).mono ?_
         rintro e w3 ⟨rfl, ho⟩
         exact ⟨rfl, bad 115 _ _ (by rw [← HR.out, if_pos (.inr (.inl hB))]) ⟨rfl, ho⟩⟩
       · by_cases hC : n % 4 = 0
         · have htm : n.tmod 4 = 0 := by rw [Int.tmod_eq_emod_of_nonneg (by omega)]; exact hC
           rw [if_neg (by omega)] at hR
           have HR := Lib.hid hR
           clear hR
           obtain ⟨hP2, st2⟩ := hP1.set 2 (.int .i64 n) B1.vt S.line [] n S.placed S.count rfl hP1.toks
           obtain ⟨hP3, st3⟩ := hP2.set 3 (.bool true) B1.vt S.line [] n true S.count rfl hP2.toks
           have st4 := (st1.trans st2).trans st3
           dsimp only at hP3 st4
           rw [eb] at hP3 st4
           go_wp2_with fail
           go_end0
           exact .ok HR.out.symm rfl hP3 st4
         · have htm : ¬ n.tmod 4 = 0 := by rw [Int.tmod_eq_emod_of_nonneg (by omega)]; exact hC
           have hcb : (n % 4 != 0) = true := by simpa using hC
           have HR := Lib.hid hR
           clear hR
           go_wp2_with fail
           refine (hF 115).mono ?_
           rintro e w3 ⟨rfl, ho⟩
           exact ⟨rfl, bad 115 _ _ (by rw [← HR.out, if_pos (.inr (.inr hC))]) ⟨rfl, ho⟩⟩
theorem zero_any (B : Asm.PB) (S : Asm.PS) (hb : Asm.Bnd2 S) (w : World) (hP : Asm.Par B S w) :
 Calls Tryz.prog 113 #[.pointer (some ⟨B.b, 0, none⟩)] w (Asm.Outc B w S.line (Asm.zeroR S)) := by
 have hmf : ∀ (fn : Fn) (first cap : Array Value) (w : World), (Instr.makeFunc fn first cap).run Tryz.prog w = .ok (.func fn first cap) w := fun _ _ _ _ => rfl
 obtain ⟨R, hR⟩ : ∃ R, Asm.zeroR S = R := ⟨_, rfl⟩
 rw [hR]
 unfold Asm.zeroR at hR
 have hn := next_step B S S.toks 1 w hP
 have hf := field2
 have HR := Lib.hid hR
 clear hR
 go_enter Tryz.func113, Tryz.ntmps113
 go_wp2_with fail
 refine hn.mono ?_
 rintro e w1 (⟨hk, rfl, ho⟩ | ⟨t, l, hk, rfl, B1, hP1, st1⟩)
 · exact ⟨rfl, .bad (by rw [← HR.out, hk]) ⟨rfl, ho⟩⟩
 have hR := HR.out
 clear HR hn
 rw [hk] at hR
 dsimp only at hR
 clear hk
 have HR := Lib.hid hR
 clear hR
 have eb : B1.b = B.b := st1.b
 obtain ⟨n, hn⟩ : ∃ n, t.n = n := ⟨_, rfl⟩
 rw [hn] at HR ⊢
 clear hn
 have b1 : Below w1.heap.size w1 (w1.alloc (.cells #[.int .i64 n] 2)) := below_alloc' (Below.refl _ _) _
 have k1 := heap_alloc_new w1 (.cells #[.int .i64 n] 2)
 have n1 : ¬ B1.owns w1.heap.size := fun h => by have := hP1.ltAll _ h; omega
 have hP1b := hP1.kept b1
 have st1b := st1.belowAfter b1
 have he := end_any B1 { S with toks := l } _ hP1b
 rw [eb] at he
 go_wp2_with fail
 refine he.mono ?_
 rintro e w2 (⟨hl, rfl, h2⟩ | ⟨hl, rfl, ho⟩)
 rotate_left
 · exact ⟨rfl, .bad (by rw [← HR.out, if_pos hl]) (Asm.Bad.after st1b ⟨rfl, ho⟩)⟩
 rw [h2]
 clear h2 he
 have hl' : l = [] := hl
 clear hl
 subst hl'
 have hR := HR.out
 clear HR
 rw [if_neg (by simp)] at hR
 have HR := Lib.hid hR
 clear hR
 have hmk := mark_any2 B1 { S with toks := [] } (hb.toks []) _ hP1b
 rw [eb] at hmk
 cases hmr : Asm.markR { S with toks := [] } with
 | error er =>
   rw [hmr] at hmk
   go_wp2_with fail
   refine hmk.mono ?_
   rintro e w3 ⟨rfl, ho⟩
   exact ⟨rfl, .bad (by rw [← HR.out, hmr]) (Asm.Bad.after st1b ⟨rfl, ho⟩)⟩
 | ok T =>
   rw [hmr] at hmk
   have hR := HR.out
   clear HR
   rw [hmr] at hR
   dsimp only at hR
   have hbT := (hb.toks []).marked hmr
   obtain ⟨m1, m2, m3, m4, m5, m6, m7, m8⟩ := Asm.markR_same hmr
   have hpT : T.pos = S.pos := by unfold Asm.PS.pos; rw [m3, m4]
   have hlT : T.line = S.line := m1
   have HR := Lib.hid hR
   have HM := Lib.hid (And.intro hpT hlT)
   clear hR hmr m1 m2 m3 m4 m5 m6 m7 m8 hpT hlT
   go_wp2_with fail
   refine hmk.mono ?_
   rintro e w3 ⟨rfl, B2, hP2, st2⟩
   clear hmk
   have st3 := st1b.trans st2
   have eb2 : B2.b = B.b := st3.b
   obtain ⟨k2, n2⟩ := st2.keep k1 n1
   have q0 : w3.cell? ⟨w1.heap.size, 0, none⟩ = some (.int .i64 n) := (blk_facts k2).1 0
   have z2 := blk_size k2
   have hF := fail_calls B2 T 115 w3 hP2
   rw [eb2, HM.out.2] at hF
   by_cases hA : n < 0
   · go_wp2_with fail
     refine hF.mono ?_
     rintro e w4 ⟨rfl, ho⟩
     exact ⟨rfl, .bad (by rw [← HR.out, if_pos (.inl hA)]) (Asm.Bad.after st3 ⟨rfl, ho⟩)⟩
   · by_cases hB : 4096 < n
     · go_wp2_with fail
       refine hF.mono ?_
       rintro e w4 ⟨rfl, ho⟩
       exact ⟨rfl, .bad (by rw [← HR.out, if_pos (.inr hB)]) (Asm.Bad.after st3 ⟨rfl, ho⟩)⟩
     · obtain ⟨m, rfl⟩ : ∃ m : Nat, n = m := ⟨n.toNat, by omega⟩
       have hR := HR.out
       clear HR
       rw [if_neg (by omega), Int.toNat_natCast] at hR
       have HR := Lib.hid hR
       clear hR hF
       have hs1 := st1.off.size
       have hs2 := st2.off.size
       rw [alloc_size] at hs2
       have hn0 : B2.n0 = B.n0 := st3.n0
       have hb0 := hP.b0
       have hz := blk_size hP.own
       go_wp2_with fail
       have hput := put_any B2 T hbT m (by omega) ⟨S.line, S.pos, ⟨0, 0, 0, 0, 0⟩, ⟨[], (m : Int)⟩, .zero⟩ HM.out.2.symm HM.out.1.symm w3 hP2 (140, [w1.heap.size]) ⟨_, rfl, k2⟩ (by simp) (Asm.cutW w3 w1.heap.size) (Asm.Off.cut (by omega)) (by
        intro g hg
        rw [Asm.cutW_size (by omega)]
        simp at hg
        subst hg
        exact ⟨n2, by omega, Nat.le_refl _⟩)
       rw [eb2, HM.out.2] at hput
       refine hput.mono ?_
       intro e w4 hO
       rw [HR.out] at hO
       have hO2 := hO.uncut hs1 (by omega) st3
       clear hO HR
       rcases R with er | U
       · obtain ⟨rfl, ho⟩ := hO2
         exact ⟨rfl, rfl, ho⟩
       obtain ⟨rfl, D, hD, sD⟩ := hO2
       go_wp2_with fail
       go_end0
       exact ⟨rfl, D, hD, sD⟩
end Go.Proofs.YtabmlbnnhhpaoaaGreatDoor
set_option maxHeartbeats 4000000
set_option maxRecDepth 100000
namespace Go.Proofs.YtabmlbnnhhpaoaaGreatDoor
open Go.RowKit Go.Shelf
namespace Asm
def rdVals : Nat → List Val → List Tok → Option (List Val × List Tok)
 | 0, acc, l => some (acc, l)
 | n + 1, acc, l =>
   match rdSign 44 l with
   | none => some (acc, l)
   | some l1 =>
     match rdVal l1 with
     | none => none
     | some (v, l2) => rdVals n (acc ++ [v]) l2
def wordP (l : List Tok) : Option (List Val × List Tok) :=
 match rdVal l with
 | none => none
 | some (v, l1) => rdVals (l1.length + 1) [v] l1
def wordR (S : PS) : Except Int PS :=
 match wordP S.toks with
 | none => .error 112
 | some (vs, l) => putR { S with toks := l } ⟨S.line, S.pos, ⟨0, 0, 0, 0, 0⟩, ⟨[], 0⟩, .word vs⟩ vs.length
def left (b : Nat) (w : World) : Nat := match w.cell? ⟨b, 1, none⟩ with | some (.slice _ n _) => n | _ => 0
theorem Par.left {B : PB} {S : PS} {w : World} (h : Par B S w) : left B.b w = S.toks.length := by
 obtain ⟨p, cap, e, _⟩ := h.toks
 have c1 : w.cell? ⟨B.b, 1, none⟩ = some (.slice p S.toks.length cap) := ((blk_facts h.own).1 1).trans (by rw [← e]; rfl)
 unfold Asm.left
 rw [c1]
theorem Par.grownOff {B : PB} {S : PS} {W W' : World} {row : Option Nat} (h : Par B S W) (hg : W.grownBy W' row) (hr : ∀ r, row = some r → ¬ B.owns r ∧ ∃ cur t, W.heap[r]? = some (.cells cur t (0, 0)) ∧ t ≠ 129) : Par B S W' := by
 have hot : ∀ {k : Nat} {o : Obj}, W.heap[k]? = some o → some k ≠ row → W'.heap[k]? = some o := fun {k o} hk hne => (hg.block _ (blk_size hk) hne).trans hk
 have hown : ∀ k, B.owns k → some k ≠ row := fun k hk e => (hr k e.symm).1 hk
 have hrow : ∀ {v : Value}, (∀ g, v.ownBlock = some g → B.owns g) → v.ownBlock = none ∨ v.ownBlock ≠ row := fun {v} hv => by
  cases hq : v.ownBlock with
  | none => exact .inl rfl
  | some g => exact .inr (hown g (hv g hq))
 exact ⟨hot h.own (hown _ (.inl rfl)), h.toks.keep fun k cur' hk' => hot hk' (fun e => by
  obtain ⟨_, c, t, hc, hne⟩ := hr k e.symm
  rw [hc] at hk'
  injection (Option.some.inj hk') with _ q
  exact hne q),
  h.map.kept hg (hown _ (.inr (.inl rfl))), h.pieces.kept hg (hrow fun g e => .inr (.inr (.inl e))), h.fsl,
  fun j x f h1 h2 => by
   have hm : f ∈ B.fs := List.mem_of_getElem? h2
   exact (h.fns j x f h1 h2).keep fun k hk cs t _ he => hot he (hown _ (.inr (.inr (.inr (.inr (.inr ⟨f, hm, hk⟩)))))),
  h.nodup, h.fbase, h.labels.kept hg (hrow fun g e => .inr (.inr (.inr (.inl e)))), h.fresh.kept hg (hrow fun g e => .inr (.inr (.inr (.inr (.inl e))))), h.b0, h.m0⟩
theorem Step.grown {B C : PB} {w W W' : World} {row : Option Nat} (h : Step B w C W) (hg : W.grownBy W' row) (hr : ∀ r, row = some r → w.heap.size ≤ r) : Step B w C W' :=
 ⟨⟨hg.os.trans h.off.os, hg.tape.trans h.off.tape, hg.output.trans h.off.output, Nat.le_trans h.off.size hg.size, fun g hg2 hn => (hg.block g (Nat.lt_of_lt_of_le hg2 h.off.size) (fun e => by have := hr g e.symm; omega)).trans (h.off.block g hg2 hn)⟩, h.owned, h.n0, h.b, h.mb⟩
theorem Step.keepRow {B B' : PB} {w w' : World} (h : Step B w B' w') {base : Nat} {e : TypeId} {size : Nat} {v : Value} {n : Nat} {xs : List Value} (hr : w.ownsRow base e size v n xs) (hn : ∀ g, v.ownBlock = some g → ¬ B.owns g) : w'.ownsRow base e size v n xs ∧ ∀ g, v.ownBlock = some g → ¬ B'.owns g := by
 rcases hr.2 with h0 | ⟨g, cap, cur, rfl, hb1, hg, h1, h2, h3, h4⟩
 · exact ⟨⟨hr.1, .inl h0⟩, fun g hg => by rw [h0.1] at hg; simp [Value.ownBlock] at hg⟩
 · obtain ⟨k1, k2⟩ := h.keep hg (hn g rfl)
   exact ⟨⟨hr.1, .inr ⟨g, cap, cur, rfl, hb1, k1, h1, h2, h3, h4⟩⟩, fun q hq => by simp [Value.ownBlock] at hq; subst hq; exact k2⟩
def valsCells (l : List Val) : List Value := l.flatMap fun v => (valCells v).toList
end Asm
theorem is_step (B : Asm.PB) (S : Asm.PS) (l : List Asm.Tok) (c : UInt8) (w : World) (hP : Asm.Par B { S with toks := l } w) :
 Calls Tryz.prog 97 #[.pointer (some ⟨B.b, 0, none⟩), .string ⟨#[c]⟩] w fun e w' => e = .returned (.bool (Asm.rdSign c l).isSome) ∧ w' = w := by
 cases l with
 | nil => exact is_nil B _ rfl [c] w hP
 | cons t ts =>
   refine (is_calls B _ t ts rfl [c] w hP).mono ?_
   rintro e w' ⟨rfl, rfl⟩
   refine ⟨?_, rfl⟩
   rw [Asm.rdSign]
   by_cases h : t.sort = 2 ∧ t.bytes = [c]
   · rw [if_pos h, h.1, h.2]; simp
   · rw [if_neg h]
     have : (decide (t.sort = 2) && decide (t.bytes = [c])) = false := by simpa using h
     rw [this]; rfl
theorem asm_infoV : (Tryz.prog.info? 195).map (fun i => (i.zero, i.size, i.bytes)) = some (some (.agg #[.string ⟨#[]⟩, .int .i64 0]), 2, 24) := by kernel_rfl
theorem word_any (B : Asm.PB) (S : Asm.PS) (htb : Asm.TokB S.toks) (hb : Asm.Bnd2 S) (htl : S.toks.length ≤ 100000) (w : World) (hP : Asm.Par B S w) :
 Calls Tryz.prog 112 #[.pointer (some ⟨B.b, 0, none⟩)] w (Asm.Outc B w S.line (Asm.wordR S)) := by
 have hmf : ∀ (fn : Fn) (first cap : Array Value) (w : World), (Instr.makeFunc fn first cap).run Tryz.prog w = .ok (.func fn first cap) w := fun _ _ _ _ => rfl
 obtain ⟨R, hR⟩ : ∃ R, Asm.wordR S = R := ⟨_, rfl⟩
 rw [hR]
 unfold Asm.wordR at hR
 obtain ⟨I, hI⟩ : ∃ I, Asm.wordP S.toks = I := ⟨_, rfl⟩
 rw [hI] at hR
 have HRN := Lib.hid (fun h => by rw [← hR, h] : I = none → R = .error 112)
 have HRS := Lib.hid (fun x l h => by rw [← hR, h] : ∀ x l, I = some (x, l) → R = Asm.putR { S with toks := l } ⟨S.line, S.pos, ⟨0, 0, 0, 0, 0⟩, ⟨[], 0⟩, .word x⟩ x.length)
 unfold Asm.wordP at hI
 have HI := Lib.hid hI
 clear hI hR
 obtain ⟨i0, hinf, hz0, hz1, hz2⟩ := info_parts asm_infoV
 go_enter Tryz.func112, Tryz.ntmps112
 go_wp2_with fail
 refine (val_step B S S.toks htb w hP).mono ?_
 rintro e y1 (⟨hk, rfl, ho⟩ | ⟨v, l1, hk, rfl, B1, hP1, st1⟩)
 · exact ⟨rfl, .bad (HRN.out (by have h := HI.out; rw [hk] at h; exact h.symm)) ⟨rfl, ho⟩⟩
 have h := HI.out
 rw [hk] at h
 dsimp only at h
 clear HI
 have HI := Lib.hid h
 have tb1 := htb.sub (Asm.rdVal_sub hk)
 have tl1 : l1.length + 1 ≤ 100000 := by obtain ⟨t, ht⟩ := Asm.rdVal_sub hk; rw [ht] at htl; exact htl
 clear h hk
 have eb1 : B1.b = B.b := st1.b
 go_wp2_with fail
 obtain ⟨W, hW⟩ : ∃ W, (y1.alloc (.cells #[.string ⟨v.name.toArray⟩, .int .i64 v.n] 195)).alloc (.cells #[.slice (some ⟨y1.heap.size, 0, none⟩) 1 1] 228) = W := ⟨_, rfl⟩
 have bW : Below y1.heap.size y1 W := hW ▸ below_alloc' (below_alloc' (Below.refl _ _) _) _
 have kG : W.heap[y1.heap.size]? = some (.cells #[.string ⟨v.name.toArray⟩, .int .i64 v.n] 195 (0, 0)) := hW ▸ blk_alloc _ (heap_alloc_new _ _)
 have kL : W.heap[y1.heap.size + 1]? = some (.cells #[.slice (some ⟨y1.heap.size, 0, none⟩) 1 1] 228 (0, 0)) := by
  have h := heap_alloc_new (y1.alloc (.cells #[.string ⟨v.name.toArray⟩, .int .i64 v.n] 195)) (.cells #[.slice (some ⟨y1.heap.size, 0, none⟩) 1 1] 228)
  rw [alloc_size] at h
  exact hW ▸ h
 have hrow0 : W.ownsRow y1.heap.size 195 2 (.slice (some ⟨y1.heap.size, 0, none⟩) 1 1) 1 (Asm.valsCells [v]) := by
  refine ⟨rfl, .inr ⟨y1.heap.size, 1, _, rfl, Nat.le_refl _, kG, Nat.le_refl _, by decide, ?_, ?_⟩⟩
  all_goals first | rfl | (simp [Asm.valsCells, Asm.valCells]; done) | trace_state
 rw [hW]
 clear hW kG
 have nl1 : ¬ B1.owns (y1.heap.size + 1) := fun h => by have := hP1.ltAll _ h; omega
 have ng1 : ¬ B1.owns y1.heap.size := fun h => by have := hP1.ltAll _ h; omega
 have hs1 := st1.off.size
 obtain ⟨bl, hbl⟩ : ∃ bl, y1.heap.size + 1 = bl := ⟨_, rfl⟩
 obtain ⟨bg, hbg⟩ : ∃ bg, y1.heap.size = bg := ⟨_, rfl⟩
 have hbgl : bg + 1 = bl := by omega
 rw [hbl] at kL nl1
 rw [hbg] at kL hrow0 ng1 hs1
 have HWY := Lib.hid (show w.heap.size ≤ bg ∧ bg < bl from ⟨hs1, by omega⟩)
 have stW := st1.belowAfter bW
 have hPW := hP1.kept bW
 have hbn : B.n0 ≤ w.heap.size := by have := hP.b0; have := blk_size hP.own; omega
 have HBN := Lib.hid hbn
 rw [hbl, hbg]
 clear bW hP1 st1 hbl hbg hbgl hs1 hbn
 go_loopw [6] (fun _ wr => ∃ (acc : List Asm.Val) (l : List Asm.Tok) (C : Asm.PB) (v0 : Value) (m : Nat), l.length < m ∧ acc.length + l.length ≤ 100000 ∧ acc ≠ [] ∧ Hid (Asm.rdVals m acc l = I) ∧ Asm.TokB l ∧ Asm.Par C { S with toks := l } wr ∧ Asm.Step B w C wr ∧ wr.heap[bl]? = some (.cells #[v0] 228 (0, 0)) ∧ ¬ C.owns bl ∧ wr.ownsRow bg 195 2 v0 acc.length (Asm.valsCells acc) ∧ (∀ g, v0.ownBlock = some g → ¬ C.owns g)) (fun _ wr => Asm.left B.b wr)
 case atStart =>
  exact ⟨[v], l1, B1, _, l1.length + 1, by omega, by show 1 + l1.length ≤ 100000; omega, by simp, HI, tb1, hPW, stW, kL, nl1, hrow0, fun g hg => by simp [Value.ownBlock] at hg; subst hg; exact ng1⟩
 case round =>
  clear HI tb1 hPW stW kL nl1 hrow0 ng1 eb1 tl1
  obtain ⟨acc, l, C, v0, m, hlm, hal, hne, HI, tb, hPr, st, kL, nl, hrow, ng⟩ := hrel
  have eb : C.b = B.b := st.b
  have hleft : Asm.left B.b wr = l.length := eb ▸ hPr.left
  have hi := is_step C S l 44 wr hPr
  rw [eb] at hi
  obtain ⟨m', rfl⟩ : ∃ m', m = m' + 1 := ⟨m - 1, by omega⟩
  have hI := HI.out
  rw [Asm.rdVals] at hI
  clear HI
  cases hsg : Asm.rdSign 44 l with
  | none =>
    rw [hsg] at hi hI
    have HI := Lib.hid hI
    clear hI hleft
    go_wp2_with fail
    refine hi.mono ?_
    rintro e w2 ⟨rfl, h2⟩
    rw [h2]
    clear h2 hi
    obtain ⟨na, hna⟩ : ∃ na, acc.length = na := ⟨_, rfl⟩
    have hp0 : 0 < acc.length := List.length_pos_iff.2 hne
    obtain ⟨g, cap, rfl, h1, h2, hg⟩ : ∃ g cap, v0 = .slice (some ⟨g, 0, none⟩) acc.length cap ∧ acc.length ≤ cap ∧ cap ≤ maxLen ∧ ∃ cur, bg ≤ g ∧ wr.heap[g]? = some (.cells cur 195 (0, 0)) ∧ cur.toList.take (acc.length * 2) = Asm.valsCells acc := by
     rcases hrow.2 with ⟨_, e0⟩ | ⟨g, cap, cur, rfl, hb1, hg, h1, h2, h3, h4⟩
     · omega
     · exact ⟨g, cap, rfl, h1, h2, cur, hb1, hg, h4⟩
    obtain ⟨cur, hbase, kG, hcur⟩ := hg
    have ngg := ng g rfl
    have fnI : Asm.FnIs wr ⟨S.line, S.pos, ⟨0, 0, 0, 0, 0⟩, ⟨[], 0⟩, .word acc⟩ (139, [bl, g]) := by
     refine ⟨bl, g, cap, cur, rfl, h1, h2, kL, kG, fun j u hj => ?_⟩
     have hj2 : (Asm.valsCells acc)[j]? = some u := hj
     have hjl : j < acc.length * 2 := by
      have := (List.getElem?_eq_some_iff.1 hj2).1
      rw [hrow.1] at this
      exact this
     rw [← hcur, List.getElem?_take, if_pos hjl] at hj2
     rw [← Array.getElem?_toList]
     exact hj2
    have hgl : bl ≠ g := fun e => by rw [← e, kL] at kG; injection (Option.some.inj kG) with _ q; exact absurd q (by decide)
    rw [hna] at kL hal h1
    have ml : wr.cell? ⟨bl, 0, none⟩ = some (.slice (some ⟨g, 0, none⟩) na cap) := (blk_facts kL).1 0
    have zl := blk_size kL
    have hsz := hPr.ltAll
    have hcs : bg ≤ wr.heap.size := by have := HWY.out.2; omega
    have hput := put_step C S l hb na (by omega) ⟨S.line, S.pos, ⟨0, 0, 0, 0, 0⟩, ⟨[], 0⟩, .word acc⟩ rfl rfl wr hPr (139, [bl, g]) fnI (by simpa using hgl) (Asm.cutW wr bg) (Asm.Off.cut hcs) (by
     intro q hq
     rw [Asm.cutW_size hcs]
     have h3 : C.n0 ≤ bg := by have h3 : C.n0 = B.n0 := st.n0; rw [h3]; exact Nat.le_trans HBN.out HWY.out.1
     have h4 := HWY.out.2
     simp at hq
     rcases hq with rfl | rfl
     · exact ⟨nl, by omega, by omega⟩
     · exact ⟨ngg, by omega, by omega⟩)
    rw [eb] at hput
    have hRe := HRS.out _ _ HI.out.symm
    rw [hna] at hRe
    rw [← hRe] at hput
    have HWB := Lib.hid hcs
    clear hRe HRS HRN HI fnI hcs h2 h1 kG hcur
    go_wp2_with fail
    refine hput.mono ?_
    intro e x2 hO
    have hO2 := hO.uncut HWY.out.1 HWB.out st
    clear hO hput
    rcases R with er | T
    · obtain ⟨rfl, ho⟩ := hO2
      exact ⟨rfl, rfl, ho⟩
    obtain ⟨rfl, D, hD, sD⟩ := hO2
    go_wp2_with fail
    go_end0
    exact ⟨rfl, D, hD, sD⟩
  | some l1 =>
    rw [hsg] at hi hI
    dsimp only at hI
    have HI := Lib.hid hI
    obtain ⟨tc, htc⟩ := Asm.rdSign_sub hsg
    have tb1 := tb.sub ⟨tc, htc⟩
    have hl1 : l1.length + 1 = l.length := by rw [htc]; rfl
    have HLF := Lib.hid hleft
    have HSG := Lib.hid hsg
    have HTC := Lib.hid htc
    have HL1 := Lib.hid hl1
    clear hI hleft hsg htc hl1
    have hmu := sign_step C S l 44 wr hPr
    rw [eb] at hmu
    go_wp2_with fail
    refine hi.mono ?_
    rintro e w2 ⟨rfl, h2⟩
    rw [h2]
    clear h2 hi
    go_wp2_with fail
    refine hmu.mono ?_
    rintro e w3 (⟨hk, _⟩ | ⟨l1', hk, rfl, C3, hP3, sp3⟩)
    · rw [HSG.out] at hk; cases hk
    rw [HSG.out] at hk
    obtain rfl : l1 = l1' := Option.some.inj hk
    clear hk hmu HSG
    have st3 := st.trans sp3
    have eb3 : C3.b = B.b := st3.b
    obtain ⟨kL3, nl3⟩ := sp3.keep kL nl
    obtain ⟨hr3, ng3⟩ := sp3.keepRow hrow ng
    clear kL nl hrow ng hPr st sp3 eb
    have c0 : w3.cell? ⟨bl, 0, none⟩ = some v0 := (blk_facts kL3).1 0
    have c0d : w3.drew.cell? ⟨bl, 0, none⟩ = some v0 := c0
    have zl := blk_size kL3
    have HV : ∀ y : World, Asm.Par C3 { S with toks := l1 } y → _ := fun y hy => val_step C3 S l1 tb1 y hy
    rw [eb3] at HV
    go_wp2_with fail
    go_region_law (first | (go_simp; go_at_call 103; refine (HV _ (by first | exact hP3 | exact hP3.kept (below_drewN' (Below.refl w3.heap.size w3) 1))).mono ?_; rintro e y2 (⟨hk, rfl, ho⟩ | ⟨v2, l2, hk, rfl, C4, hP4, sp4⟩); (exact ⟨rfl, .bad (HRN.out (by have h := HI.out; rw [hk] at h; exact h.symm)) (Asm.Bad.after (st3.belowAfter (by first | exact Below.refl _ _ | exact below_drewN' (Below.refl _ _) 1)) ⟨rfl, ho⟩)⟩); have kL4 := sp4.keep (blk_keep (by first | exact Below.refl _ _ | exact below_drewN' (Below.refl _ _) 1) kL3) nl3; have hr4 := sp4.keepRow (ownsRow_below' hr3 (by first | exact Below.refl _ _ | exact below_drewN' (Below.refl _ _) 1)) ng3; have c0y : y2.cell? ⟨bl, 0, none⟩ = some v0 := (blk_facts kL4.1).1 0; have hrW := hr4.1.alloc (.cells #[.string ⟨v2.name.toArray⟩, .int .i64 v2.n] 195); have kLW := blk_alloc (.cells #[.string ⟨v2.name.toArray⟩, .int .i64 v2.n] 195) kL4.1; have c0w : (y2.alloc (.cells #[.string ⟨v2.name.toArray⟩, .int .i64 v2.n] 195)).cell? ⟨bl, 0, none⟩ = some v0 := (blk_facts kLW).1 0) | (refine step_append_lies _ rfl _ _ 228 rfl bg 195 i0 _ 2 24 Tryz.underlying228 hinf hz0 hz1 hz2 rfl (by decide) _ _ _ rfl hrW ⟨y2.heap.size, 0, none⟩ 1 1 [.string ⟨v2.name.toArray⟩, .int .i64 v2.n] rfl rfl (cells_new2 _ _ _ _) (by simp [Value.oneCell']) (by decide) (by show acc.length + 1 ≤ maxLen; unfold maxLen; omega) (by show (acc.length + 1) * 24 ≤ _; omega) (by have := blk_size kL4.1; rw [alloc_size]; have := HWY.out.2; omega) _ rfl ?_; intro g6 cap6 w6 hrow6 hgr6 hgb6 hlt6; have k6 := (hgr6.block bl (blk_size kLW) (Asm.rowNot hrW kLW (by decide))).trans kLW; have c6z : w6.cell? ⟨bl, 0, none⟩ = some v0 := (blk_facts k6).1 0; have f6z : w6.frozen? ⟨bl, 0, none⟩ = false := (blk_facts k6).2 0))
    all_goals (
     have hPw := hP4.kept (below_alloc' (Below.refl y2.heap.size y2) (.cells #[.string ⟨v2.name.toArray⟩, .int .i64 v2.n] 195))
     have hP6 := hPw.grownOff hgr6 (fun r hr => ⟨hr4.2 r hr, by obtain ⟨c, hc⟩ := Asm.row_type hrW hr; exact ⟨c, _, hc, by decide⟩⟩)
     have hP7 := hP6.setOther k6 (by decide) kL4.2 0 (.slice (some ⟨g6, 0, none⟩) (acc.length + 1) cap6)
     have st4 := (st3.belowAfter (by first | exact Below.refl _ _ | exact below_drewN' (Below.refl _ _) 1)).trans sp4
     have st5 := (st4.belowAfter (below_alloc' (Below.refl y2.heap.size y2) (.cells #[.string ⟨v2.name.toArray⟩, .int .i64 v2.n] 195))).grown hgr6 (fun r hr => by have := (row_lt hrW r hr).1; have := HWY.out.1; omega)
     have st6 := st5.setOther (g := bl) (by have := HWY.out; omega) 0 (.slice (some ⟨g6, 0, none⟩) (acc.length + 1) cap6)
     have kL7 := setCell_row k6 0 (.slice (some ⟨g6, 0, none⟩) (acc.length + 1) cap6) (cs' := #[.slice (some ⟨g6, 0, none⟩) (acc.length + 1) cap6]) rfl
     have hrow7 := hrow6.kept (Asm.setCell_grown w6 bl 0 (.slice (some ⟨g6, 0, none⟩) (acc.length + 1) cap6)) (.inr (fun e => by
      obtain ⟨c, hc⟩ := Asm.row_type hrow6 rfl
      injection e with e
      rw [e, k6] at hc
      injection (Option.some.inj hc) with _ q
      exact absurd q (by decide)))
     have ng7 : ¬ C4.owns g6 := fun ho => by
      rcases hgb6 with e | e
      · exact hr4.2 g6 e ho
      · have := hP4.ltAll _ ho; rw [alloc_size] at e; omega
     have kL4n := kL4.2
     have hI := HI.out
     rw [hk] at hI
     dsimp only at hI
     have HI2 := Lib.hid hI
     have tb2 := tb1.sub (Asm.rdVal_sub hk)
     have hl2 : l2.length + 1 = l1.length := by obtain ⟨t, ht⟩ := Asm.rdVal_sub hk; rw [ht]; rfl
     have HL2 := Lib.hid hl2
     have hm7 : Asm.left B.b (w6.setCell ⟨bl, 0, none⟩ (.slice (some ⟨g6, 0, none⟩) (acc.length + 1) cap6)) = l2.length := by
      have h := hP7.left
      rw [st6.b] at h
      exact h
     have HM7 := Lib.hid hm7
     clear hI HI hk hl2 hm7 hPw hP6 st4 st5 hgb6 hlt6 hgr6 hrow6 k6 c6z f6z c0w kLW c0y kL4 hr4 hrW c0 c0d
     generalize w6.setCell _ _ = W7 at hP7 st6 kL7 hrow7 HM7 ⊢
     go_wp2_with fail
     go_roundw
     case rel =>
      refine ⟨acc ++ [v2], l2, C4, _, m', by have := HL1.out; have := HL2.out; omega, by have := HL1.out; have := HL2.out; rw [List.length_append]; simp only [List.length_cons, List.length_nil]; omega, by simp, HI2, tb2, hP7, st6, kL7, kL4n, ?_, fun q hq => by simp [Value.ownBlock] at hq; subst hq; exact ng7⟩
      have e1 : Asm.valsCells (acc ++ [v2]) = Asm.valsCells acc ++ [.string ⟨v2.name.toArray⟩, .int .i64 v2.n] := by unfold Asm.valsCells; rw [List.flatMap_append]; rfl
      rw [e1, List.length_append]
      exact hrow7
     case measure =>
      have h1 := HL1.out
      have h2 := HL2.out
      rw [HM7.out, HLF.out]
      omega)
end Go.Proofs.YtabmlbnnhhpaoaaGreatDoor
