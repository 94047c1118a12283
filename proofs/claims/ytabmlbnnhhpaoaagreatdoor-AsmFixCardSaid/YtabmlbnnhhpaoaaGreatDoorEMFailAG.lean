/- What this claim needs of FailA, FailB, FailC, FailD. -/
import Derived.Test.YtabmlbnnhhpaoaaGreatDoorEMAsmWordG
import Derived.Test.YtabmlbnnhhpaoaaGreatDoorEMAsmIns
import Derived.Test.YtabmlbnnhhpaoaaGreatDoorEMAsmSplitG
set_option linter.unusedSimpArgs false
set_option linter.unusedVariables false
set_option maxHeartbeats 1000000
set_option maxRecDepth 100000
namespace Go.Proofs.YtabmlbnnhhpaoaaGreatDoor
open Go.RowKit Go.Shelf
namespace Asm
def wrongV (er line : Int) : Value := .iface 68 (.agg #[.int .i64 er, .int .i64 line])
def chain (er line : Int) : List PanicEntry := [{ v := wrongV er line, recovered := false }]
def Bad (B : PB) (w : World) (er line : Int) (e : Ending) (w' : World) : Prop := e = .panicked (chain er line) ∧ Off B.owns w w'
theorem Bad.after {B B1 : PB} {w w1 : World} {er line : Int} {e : Ending} {w' : World} (s : Step B w B1 w1) (h : Bad B1 w1 er line e w') : Bad B w er line e w' :=
 ⟨h.1, h.2.os.trans s.off.os, h.2.tape.trans s.off.tape, h.2.output.trans s.off.output, Nat.le_trans s.off.size h.2.size, fun g hg hn => (h.2.block g (Nat.lt_of_lt_of_le hg s.off.size) fun ho => by rcases s.owned g ho with h | h; exact hn h; omega).trans (s.off.block g hg hn)⟩
theorem Bad.afterBelow {B : PB} {w w1 : World} {er line : Int} {e : Ending} {w' : World} (s : Below w.heap.size w w1) (h : Bad B w1 er line e w') : Bad B w er line e w' :=
 ⟨h.1, h.2.os.trans s.os, h.2.tape.trans s.tape, h.2.output.trans s.output, Nat.le_trans s.size h.2.size, fun g hg hn => (h.2.block g (Nat.lt_of_lt_of_le hg s.size) hn).trans (s.block g hg)⟩
def Outc (B : PB) (w : World) (line : Int) : Except Int PS → Ending → World → Prop
 | .ok T, e, w' => e = .returned (.tuple #[]) ∧ ∃ B', Par B' T w' ∧ Step B w B' w'
 | .error er, e, w' => Bad B w er line e w'
theorem Outc.ok {B : PB} {w : World} {line : Int} {R : Except Int PS} {e : Ending} {w' : World} {T : PS} {B' : PB} (h : R = .ok T) (he : e = .returned (.tuple #[])) (hP : Par B' T w') (hs : Step B w B' w') : Outc B w line R e w' := by
 subst h; exact ⟨he, B', hP, hs⟩
theorem Outc.bad {B : PB} {w : World} {line : Int} {R : Except Int PS} {e : Ending} {w' : World} {er : Int} (h : R = .error er) (hb : Bad B w er line e w') : Outc B w line R e w' := by
 subst h; exact hb
theorem Outc.after {B B1 : PB} {w w1 : World} {line : Int} {R : Except Int PS} {e : Ending} {w' : World} (s : Step B w B1 w1) (h : Outc B1 w1 line R e w') : Outc B w line R e w' := by
 cases R with
 | ok T => obtain ⟨h1, B', h2, h3⟩ := h; exact ⟨h1, B', h2, s.trans h3⟩
 | error er => exact Bad.after s h
end Asm
theorem fail_calls (B : Asm.PB) (S : Asm.PS) (er : Int) (w : World) (hP : Asm.Par B S w) :
 Calls Tryz.prog 51 #[.pointer (some ⟨B.b, 0, none⟩), .int .i64 er] w (Asm.Bad B w er S.line) := by
 have c0 : w.cell? ⟨B.b, 0, none⟩ = some (.int .i64 S.line) := (blk_facts hP.own).1 0
 have z := blk_size hP.own
 go_enter Tryz.func51, Tryz.ntmps51
 go_wp2_with fail
 rw [show (Instr.panic (Value.iface 68 (Value.agg #[Value.int IntKind.i64 er, Value.int IntKind.i64 S.line]))).run Tryz.prog w = .halt (.panic (Value.iface 68 (Value.agg #[Value.int IntKind.i64 er, Value.int IntKind.i64 S.line]))) w by rfl]
 exact ⟨rfl, rfl, Asm.Off.refl _ _⟩
theorem next_bad (B : Asm.PB) (S : Asm.PS) (s : Nat) (hS : ∀ t ts, S.toks = t :: ts → t.sort ≠ s) (w : World) (hP : Asm.Par B S w) :
 Calls Tryz.prog 52 #[.pointer (some ⟨B.b, 0, none⟩), .int .i64 (s : Int)] w (Asm.Bad B w 112 S.line) := by
 have hF := fun y (hy : Asm.Par B S y) => fail_calls B S 112 y hy
 cases ht : S.toks with
 | nil =>
   obtain ⟨p, cap, c1, z1⟩ := hP.viewNil ht
   go_enter Tryz.func52, Tryz.ntmps52
   go_wp2_with fail
   refine (hF _ (by first | exact hP | exact hP.kept (below_alloc' (Below.refl _ _) _))).mono ?_
   rintro e w1 ⟨rfl, ho⟩
   first | exact ⟨rfl, rfl, ho⟩ | exact ⟨rfl, Asm.Bad.afterBelow (below_alloc' (Below.refl _ _) _) ⟨rfl, ho⟩⟩
 | cons t ts =>
   have hne := hS t ts ht
   obtain ⟨p, cap, ev, hlc, hcm, hcell⟩ := hP.toks
   obtain ⟨g, o, cur, rfl, hg, hu⟩ := hcell (by rw [ht]; simp)
   have hlen : S.toks.length = ts.length + 1 := by rw [ht]; rfl
   rw [hlen] at ev hlc
   have u0 : cur[o + 0]? = some (.int .i64 (t.sort : Int)) := hu 0 _ (by rw [ht]; rfl)
   have c1 : w.cell? ⟨B.b, 1, none⟩ = some (.slice (some ⟨g, o, none⟩) (ts.length + 1) cap) := ((blk_facts hP.own).1 1).trans (by rw [← ev]; rfl)
   have e0 : w.cell? ⟨g, o, none⟩ = some (.int .i64 (t.sort : Int)) := ((blk_facts hg).1 o).trans u0
   have z1 := blk_size hP.own
   have z2 := blk_size hg
   have hni : ¬ (t.sort : Int) = (s : Int) := by omega
   clear hu hcell u0 ev
   obtain ⟨si, hsi⟩ : ∃ si, (s : Int) = si := ⟨_, rfl⟩
   obtain ⟨ti, hti⟩ : ∃ ti, (t.sort : Int) = ti := ⟨_, rfl⟩
   rw [hsi] at hni ⊢
   rw [hti] at hni e0
   clear hsi hti hne
   have hnb : (ti != si) = true := by simpa using hni
   have hb : Below w.heap.size w (w.alloc (.cells #[.int .i64 0, .string ⟨#[]⟩, .int .i64 0] 129)) := below_alloc' (Below.refl _ _) _
   go_enter Tryz.func52, Tryz.ntmps52
   go_wp2_with fail
   refine (hF _ (hP.kept hb)).mono ?_
   rintro e w1 ⟨rfl, ho⟩
   exact ⟨rfl, Asm.Bad.afterBelow hb ⟨rfl, ho⟩⟩
theorem next_any (B : Asm.PB) (S : Asm.PS) (s : Nat) (w : World) (hP : Asm.Par B S w) :
 Calls Tryz.prog 52 #[.pointer (some ⟨B.b, 0, none⟩), .int .i64 (s : Int)] w fun e w' =>
  (∃ t ts, S.toks = t :: ts ∧ t.sort = s ∧ e = .returned (.agg #[.int .i64 (s : Int), .string ⟨t.bytes.toArray⟩, .int .i64 t.n]) ∧ ∃ B', Asm.Par B' { S with toks := ts } w' ∧ Asm.Step B w B' w') ∨
  ((∀ t ts, S.toks = t :: ts → t.sort ≠ s) ∧ Asm.Bad B w 112 S.line e w') := by
 by_cases h : ∃ t ts, S.toks = t :: ts ∧ t.sort = s
 · obtain ⟨t, ts, h1, h2⟩ := h
   have := next_calls B S t ts h1 w hP
   rw [h2] at this
   exact this.mono fun e w' ⟨he, k⟩ => .inl ⟨t, ts, h1, h2, he, k⟩
 · have hn : ∀ t ts, S.toks = t :: ts → t.sort ≠ s := fun t ts h1 h2 => h ⟨t, ts, h1, h2⟩
   exact (next_bad B S s hn w hP).mono fun e w' k => .inr ⟨hn, k⟩
theorem must_bad (B : Asm.PB) (S : Asm.PS) (c : UInt8) (hS : ∀ t ts, S.toks = t :: ts → ¬ Asm.IsSign t c) (w : World) (hP : Asm.Par B S w) :
 Calls Tryz.prog 54 #[.pointer (some ⟨B.b, 0, none⟩), .string ⟨#[c]⟩] w (Asm.Bad B w 112 S.line) := by
 have hF := fun y (hy : Asm.Par B S y) => fail_calls B S 112 y hy
 have hI : Calls Tryz.prog 97 #[.pointer (some ⟨B.b, 0, none⟩), .string ⟨#[c]⟩] w fun e w' => e = .returned (.bool false) ∧ w' = w := by
  cases ht : S.toks with
  | nil => exact is_nil B S ht [c] w hP
  | cons t ts =>
    refine (is_calls B S t ts ht [c] w hP).mono fun e w' ⟨h1, h2⟩ => ⟨?_, h2⟩
    rw [h1]
    have hn := hS t ts ht
    have : (decide (t.sort = 2) && decide (t.bytes = [c])) = false := by
     rw [Bool.eq_false_iff]
     intro h
     simp at h
     exact hn ⟨h.1, h.2⟩
    rw [this]
 go_enter Tryz.func54, Tryz.ntmps54
 go_wp2_with fail
 refine hI.mono ?_
 rintro e w1 ⟨rfl, rfl⟩
 go_wp2_with fail
 refine (hF _ hP).mono ?_
 rintro e w1 ⟨rfl, ho⟩
 exact ⟨rfl, rfl, ho⟩
theorem must_any (B : Asm.PB) (S : Asm.PS) (c : UInt8) (w : World) (hP : Asm.Par B S w) :
 Calls Tryz.prog 54 #[.pointer (some ⟨B.b, 0, none⟩), .string ⟨#[c]⟩] w fun e w' =>
  (∃ t ts, S.toks = t :: ts ∧ Asm.IsSign t c ∧ e = .returned (.tuple #[]) ∧ ∃ B', Asm.Par B' { S with toks := ts } w' ∧ Asm.Step B w B' w') ∨
  ((∀ t ts, S.toks = t :: ts → ¬ Asm.IsSign t c) ∧ Asm.Bad B w 112 S.line e w') := by
 by_cases h : ∃ t ts, S.toks = t :: ts ∧ Asm.IsSign t c
 · obtain ⟨t, ts, h1, h2⟩ := h
   exact (comma_calls B S t ts c h1 h2 w hP).mono fun e w' ⟨he, k⟩ => .inl ⟨t, ts, h1, h2, he, k⟩
 · have hn : ∀ t ts, S.toks = t :: ts → ¬ Asm.IsSign t c := fun t ts h1 h2 => h ⟨t, ts, h1, h2⟩
   exact (must_bad B S c hn w hP).mono fun e w' k => .inr ⟨hn, k⟩
theorem register_any (B : Asm.PB) (S : Asm.PS) (w : World) (hP : Asm.Par B S w) :
 Calls Tryz.prog 102 #[.pointer (some ⟨B.b, 0, none⟩)] w fun e w' =>
  (∃ t ts n, S.toks = t :: ts ∧ Asm.IsReg t n ∧ e = .returned (.int .u8 (n : Int)) ∧ ∃ B', Asm.Par B' { S with toks := ts } w' ∧ Asm.Step B w B' w') ∨
  ((∀ t ts n, S.toks = t :: ts → ¬ Asm.IsReg t n) ∧ Asm.Bad B w 112 S.line e w') := by
 have hf := field1
 have hn := next_any B S 0 w hP
 go_enter Tryz.func102, Tryz.ntmps102
 go_wp2_with fail
 refine hn.mono ?_
 rintro e w1 (⟨t, ts, hS, hs, rfl, B1, hP1, st1⟩ | ⟨hno, rfl, ho⟩)
 · go_wp2_with fail
   refine (asmReg_calls t.bytes _).mono ?_
   rintro e w2 ⟨rfl, rfl⟩
   cases hr : Asm.regOf t.bytes with
   | some n =>
     unfold Asm.regAns
     go_wp2_with fail
     go_ret
     exact .inl ⟨t, ts, n, hS, ⟨hs, hr⟩, rfl, B1, hP1, st1⟩
   | none =>
     unfold Asm.regAns
     go_wp2_with fail
     have hF := fail_calls B1 { S with toks := ts } 112 _ hP1
     rw [st1.b] at hF
     refine hF.mono ?_
     rintro e w1 ⟨rfl, ho⟩
     refine ⟨rfl, .inr ⟨fun t' ts' n h1 h2 => ?_, Asm.Bad.after st1 ⟨rfl, ho⟩⟩⟩
     rw [hS] at h1
     cases h1
     rw [h2.reg] at hr
     cases hr
 · exact ⟨rfl, .inr ⟨fun t ts n h1 h2 => hno t ts h1 h2.sort, rfl, ho⟩⟩
end Go.Proofs.YtabmlbnnhhpaoaaGreatDoor
set_option maxHeartbeats 1000000
set_option maxRecDepth 100000
namespace Go.Proofs.YtabmlbnnhhpaoaaGreatDoor
open Go.RowKit Go.Shelf
theorem value_bad (B : Asm.PB) (S : Asm.PS) (hl : ∀ t ∈ S.toks, t.bytes.length ≤ 1000000) (hS : ∀ t ts v, S.toks = t :: ts → ¬ Asm.TokVal t v) (w : World) (hP : Asm.Par B S w) :
 Calls Tryz.prog 103 #[.pointer (some ⟨B.b, 0, none⟩)] w (Asm.Bad B w 112 S.line) := by
 have hb0 : Below w.heap.size w (w.alloc (.cells #[.string ⟨#[]⟩, .int .i64 0] 195)) := below_alloc' (Below.refl _ _) _
 have hP1 := hP.kept hb0
 have hnx : Calls Tryz.prog 52 #[.pointer (some ⟨B.b, 0, none⟩), .int .i64 0] (w.alloc (.cells #[.string ⟨#[]⟩, .int .i64 0] 195)) _ := next_any B S 0 _ hP1
 have hf1 := field1
 cases ht : S.toks with
 | nil =>
   obtain ⟨p, cap, c1, z1⟩ := hP.viewNil ht
   go_enter Tryz.func103, Tryz.ntmps103
   go_wp2_with fail
   refine hnx.mono ?_
   rintro e w1 (⟨t, ts, h1, _⟩ | ⟨hno, rfl, ho⟩)
   · rw [ht] at h1; cases h1
   · exact ⟨rfl, Asm.Bad.afterBelow hb0 ⟨rfl, ho⟩⟩
 | cons t ts =>
   obtain ⟨p, cap, ev, hlc, hcm, hcell⟩ := hP.toks
   obtain ⟨g, o, cur, rfl, hg, hu⟩ := hcell (by rw [ht]; simp)
   have hlen : S.toks.length = ts.length + 1 := by rw [ht]; rfl
   rw [hlen] at ev hlc
   have u0 : cur[o + 0]? = some (.int .i64 (t.sort : Int)) := hu 0 _ (by rw [ht]; rfl)
   have c1 : w.cell? ⟨B.b, 1, none⟩ = some (.slice (some ⟨g, o, none⟩) (ts.length + 1) cap) := ((blk_facts hP.own).1 1).trans (by rw [← ev]; rfl)
   have e0 : w.cell? ⟨g, o, none⟩ = some (.int .i64 (t.sort : Int)) := ((blk_facts hg).1 o).trans u0
   have z1 := blk_size hP.own
   have z2 := blk_size hg
   have hs1 : t.sort ≠ 1 := fun h => hS t ts ⟨[], t.n⟩ ht (.inl ⟨h, rfl⟩)
   have hsi : ¬ (t.sort : Int) = 1 := by omega
   have hlt := hl t (by rw [ht]; simp)
   clear hu hcell u0 ev
   go_enter Tryz.func103, Tryz.ntmps103
   go_wp2_with fail
   refine hnx.mono ?_
   rintro e w1 (⟨t', ts', h1, h2, rfl, B1, hP2, st⟩ | ⟨hno, rfl, ho⟩)
   · rw [ht] at h1
     cases h1
     go_wp2_with fail
     refine (asmName_calls t.bytes (by omega) _).mono ?_
     rintro e w2 ⟨rfl, rfl⟩
     cases hok : Asm.nameOk t.bytes with
     | true => exact absurd (.inr ⟨h2, hlt, hok, rfl⟩) (hS t ts ⟨t.bytes, 0⟩ ht)
     | false =>
       go_wp2_with fail
       have hF := fail_calls B1 { S with toks := ts } 112 _ hP2
       rw [st.b] at hF
       refine hF.mono ?_
       rintro e w1 ⟨rfl, ho⟩
       exact ⟨rfl, Asm.Bad.afterBelow hb0 (Asm.Bad.after st ⟨rfl, ho⟩)⟩
   · exact ⟨rfl, Asm.Bad.afterBelow hb0 ⟨rfl, ho⟩⟩
theorem value_any (B : Asm.PB) (S : Asm.PS) (hl : ∀ t ∈ S.toks, t.bytes.length ≤ 1000000) (w : World) (hP : Asm.Par B S w) :
 Calls Tryz.prog 103 #[.pointer (some ⟨B.b, 0, none⟩)] w fun e w' =>
  (∃ t ts v, S.toks = t :: ts ∧ Asm.TokVal t v ∧ e = .returned (.agg #[.string ⟨v.name.toArray⟩, .int .i64 v.n]) ∧ ∃ B', Asm.Par B' { S with toks := ts } w' ∧ Asm.Step B w B' w') ∨
  ((∀ t ts v, S.toks = t :: ts → ¬ Asm.TokVal t v) ∧ Asm.Bad B w 112 S.line e w') := by
 by_cases h : ∃ t ts v, S.toks = t :: ts ∧ Asm.TokVal t v
 · obtain ⟨t, ts, v, h1, h2⟩ := h
   exact (value_calls B S t ts v h1 h2 w hP).mono fun e w' ⟨he, k⟩ => .inl ⟨t, ts, v, h1, h2, he, k⟩
 · have hn : ∀ t ts v, S.toks = t :: ts → ¬ Asm.TokVal t v := fun t ts v h1 h2 => h ⟨t, ts, v, h1, h2⟩
   exact (value_bad B S hl hn w hP).mono fun e w' k => .inr ⟨hn, k⟩
theorem end_any (B : Asm.PB) (S : Asm.PS) (w : World) (hP : Asm.Par B S w) :
 Calls Tryz.prog 134 #[.pointer (some ⟨B.b, 0, none⟩)] w fun e w' =>
  (S.toks = [] ∧ e = .returned (.tuple #[]) ∧ w' = w) ∨ (S.toks ≠ [] ∧ Asm.Bad B w 112 S.line e w') := by
 cases ht : S.toks with
 | nil => exact (end_calls B S ht w hP).mono fun e w' k => .inl ⟨rfl, k⟩
 | cons t ts =>
   obtain ⟨p, cap, ev, hlc, hcm, hcell⟩ := hP.toks
   have hlen : S.toks.length = ts.length + 1 := by rw [ht]; rfl
   rw [hlen] at ev hlc
   have c1 : w.cell? ⟨B.b, 1, none⟩ = some (.slice p (ts.length + 1) cap) := ((blk_facts hP.own).1 1).trans (by rw [← ev]; rfl)
   have z1 := blk_size hP.own
   have hpos : (0 : Int) < (ts.length : Int) + 1 := by omega
   go_enter Tryz.func134, Tryz.ntmps134
   go_wp2_with fail
   refine (fail_calls B S 112 _ hP).mono ?_
   rintro e w1 ⟨rfl, ho⟩
   exact ⟨rfl, .inr ⟨by simp, rfl, ho⟩⟩
end Go.Proofs.YtabmlbnnhhpaoaaGreatDoor
set_option maxHeartbeats 4000000
set_option maxRecDepth 100000
namespace Go.Proofs.YtabmlbnnhhpaoaaGreatDoor
open Go.RowKit Go.Shelf
namespace Asm
def markX (S : PS) (x : List UInt8) : Option PS :=
 if Maps.has S.places (.string x) then none
 else some { S with labels := S.labels ++ [(x, S.pos % 4294967296)], places := S.places.put (.string x) (.lit (.int .i64 S.pos)), puts := S.puts + 1, placed := true }
def markGo (S : PS) (l : List (List UInt8)) : Option PS := l.foldlM markX S
def markR (S : PS) : Except Int PS :=
 match markGo S S.fresh with
 | none => .error 114
 | some T => if S.fresh ≠ [] ∧ 4294967296 ≤ S.pos then .error 115 else .ok { T with fresh := [] }
theorem markX_same {S T : PS} {x : List UInt8} (h : markX S x = some T) : T.line = S.line ∧ T.toks = S.toks ∧ T.origin = S.origin ∧ T.count = S.count ∧ T.pieces = S.pieces ∧ T.fresh = S.fresh ∧ T.puts = S.puts + 1 ∧ T.labels.length = S.labels.length + 1 := by
 unfold markX at h
 split at h
 · cases h
 · cases h; simp
theorem markGo_same : ∀ (l : List (List UInt8)) {S T : PS}, markGo S l = some T → T.line = S.line ∧ T.toks = S.toks ∧ T.origin = S.origin ∧ T.count = S.count ∧ T.pieces = S.pieces ∧ T.fresh = S.fresh ∧ T.puts = S.puts + l.length ∧ T.labels.length = S.labels.length + l.length
 | [], S, T, h => by cases h; simp
 | x :: l, S, T, h => by
   unfold markGo at h
   rw [List.foldlM_cons] at h
   cases h1 : markX S x with
   | none => rw [h1] at h; cases h
   | some R =>
     rw [h1] at h
     have a := markX_same h1
     have b := markGo_same l (show markGo R l = some T from h)
     simp only [List.length_cons]
     refine ⟨b.1.trans a.1, b.2.1.trans a.2.1, b.2.2.1.trans a.2.2.1, b.2.2.2.1.trans a.2.2.2.1, b.2.2.2.2.1.trans a.2.2.2.2.1, b.2.2.2.2.2.1.trans a.2.2.2.2.2.1, ?_, ?_⟩
     · have := a.2.2.2.2.2.2.1; have := b.2.2.2.2.2.2.1; omega
     · have := a.2.2.2.2.2.2.2; have := b.2.2.2.2.2.2.2; omega
theorem markGo_snoc (S : PS) (l : List (List UInt8)) (x : List UInt8) : markGo S (l ++ [x]) = (markGo S l).bind fun T => markX T x := by
 unfold markGo
 rw [List.foldlM_append]
 cases h : List.foldlM markX S l with
 | none => rfl
 | some T => simp
theorem row_cell {w : World} {base : Nat} {e : TypeId} {size : Nat} {g n cap : Nat} {xs : List Value} (h : w.ownsRow base e size (.slice (some ⟨g, 0, none⟩) n cap) n xs) (i : Nat) (u : Value) (hi : xs[i]? = some u) : w.cell? ⟨g, i, none⟩ = some u ∧ g < w.heap.size := by
 have hl : i < n * size := by
  have := (List.getElem?_eq_some_iff.1 hi).1
  rw [h.1] at this
  exact this
 have hn : 0 < n := by cases n with | zero => simp at hl | succ n => omega
 obtain ⟨g', cap', ep, _, _, hg, hc⟩ := row_cells h hn
 injection ep with e2 _ _
 injection e2 with e2
 injection e2 with e3 e4
 subst e3
 exact ⟨(hc i hl).trans hi, hg⟩
theorem fresh_map : ∀ l : List (List UInt8), l.flatMap freshCells = l.map fun y => Value.string ⟨y.toArray⟩
 | [] => rfl
 | x :: l => by rw [List.flatMap_cons, fresh_map l]; rfl
end Asm
theorem mark_any (B : Asm.PB) (S : Asm.PS) (hx : ∀ x ∈ S.fresh, x.length ≤ 1000000) (h0 : 0 ≤ S.origin) (h1 : S.pos ≤ 4294967296) (hc : S.count ≤ 1000000) (hn : S.puts + S.fresh.length < 1000000) (hn2 : S.labels.length + S.fresh.length < 1000000) (w : World) (hP : Asm.Par B S w) :
 Calls Tryz.prog 55 #[.pointer (some ⟨B.b, 0, none⟩)] w (Asm.Outc B w S.line (Asm.markR S)) := by
 obtain ⟨n, hfn⟩ : ∃ n, S.fresh.length = n := ⟨_, rfl⟩
 have hfr := hP.fresh
 rw [hfn] at hfr hn hn2
 obtain ⟨fa, cap, ev⟩ := Asm.row_slice hfr
 have c8 : w.cell? ⟨B.b, 8, none⟩ = some (.slice fa n cap) := ((blk_facts hP.own).1 8).trans (by rw [← ev]; rfl)
 have z1 := blk_size hP.own
 obtain ⟨R, hR⟩ : ∃ R, Asm.markR S = R := ⟨_, rfl⟩
 rw [hR]
 have hRn : Asm.markGo S S.fresh = none → R = .error 114 := fun h => by rw [← hR]; unfold Asm.markR; rw [h]
 have hRs : ∀ T, Asm.markGo S S.fresh = some T → R = if S.fresh ≠ [] ∧ 4294967296 ≤ S.pos then .error 115 else .ok { T with fresh := [] } := fun T h => by rw [← hR]; unfold Asm.markR; rw [h]
 have hgn : ∀ j T x, S.fresh[j]? = some x → Asm.markGo S (S.fresh.take j) = some T → Asm.markX T x = none → Asm.markGo S S.fresh = none := fun j T x hj h1 h2 => by
  obtain ⟨hl, he⟩ := List.getElem?_eq_some_iff.1 hj
  have e : S.fresh = (S.fresh.take j ++ [x]) ++ S.fresh.drop (j + 1) := by
   rw [List.append_assoc, ← he, List.singleton_append, ← List.drop_eq_getElem_cons hl, List.take_append_drop]
  have h3 : Asm.markGo S (S.fresh.take j ++ [x]) = none := by rw [Asm.markGo_snoc, h1]; exact h2
  rw [e]
  unfold Asm.markGo at h3 ⊢
  rw [List.foldlM_append, h3]
  rfl
 have hgs : ∀ j T x, S.fresh[j]? = some x → Asm.markGo S (S.fresh.take j) = some T → Asm.markGo S (S.fresh.take (j + 1)) = Asm.markX T x := fun j T x hj h1 => by
  obtain ⟨hl, he⟩ := List.getElem?_eq_some_iff.1 hj
  rw [List.take_succ_eq_append_getElem hl, he, Asm.markGo_snoc, h1]
  rfl
 have HRN := Lib.hid hRn
 have HRS := Lib.hid hRs
 have HGN := Lib.hid hgn
 have HGS := Lib.hid hgs
 have HFN := Lib.hid hfn
 have HX := Lib.hid hx
 clear hRn hRs hgn hgs hR hx
 obtain ⟨p, hp⟩ : ∃ p, S.pos = p := ⟨_, rfl⟩
 have HP := Lib.hid hp
 rw [hp] at h1
 have hp0 : S.origin + 4 * (S.count : Int) = p := hp
 have hpp : 0 ≤ p := by omega
 clear hp
 go_enter Tryz.func55, Tryz.ntmps55
 go_wp2_with fail
 go_loopw [11] (fun v11 wr => ∃ (j : Nat) (T : Asm.PS) (C : Asm.PB), v11 = .int .i64 (j : Int) ∧ j ≤ n ∧ Hid (Asm.markGo S (S.fresh.take j) = some T) ∧ Asm.Par C T wr ∧ Asm.Step B w C wr ∧ C.vf = .slice fa n cap) (fun v _ => n - (intOf v).toNat)
 case atStart => exact ⟨0, S, B, rfl, Nat.zero_le _, Lib.hid (by simp [Asm.markGo]), hP, Asm.Step.refl _ _, ev⟩
 case round =>
  clear c8 z1 ev hfr
  obtain ⟨j, T, C, rfl, hj, HT, hPr, st, ev⟩ := hrel
  have sm := Asm.markGo_same _ HT.out
  rw [List.length_take, hfn] at sm
  obtain ⟨m1, m2, m3, m4, m5, m6, m7, m8⟩ := sm
  have eb : C.b = B.b := st.b
  by_cases hlt : j < n
  · obtain ⟨x, hxj⟩ : ∃ x, S.fresh[j]? = some x := ⟨_, List.getElem?_eq_getElem (by rw [hfn]; exact hlt)⟩
    have hxl := HX.out x (List.mem_of_getElem? hxj)
    obtain ⟨g, rfl⟩ : ∃ g, fa = some ⟨g, 0, none⟩ := by
     rcases hPr.fresh.2 with ⟨e1, e2⟩ | ⟨g2, cap2, cur, e1, _⟩
     · rw [m6, hfn] at e2; omega
     · rw [ev] at e1; injection e1 with e1 _ _; exact ⟨g2, e1⟩
    have hcl : n ≤ cap := by
     have h := hPr.fresh
     rw [m6, hfn, ev] at h
     rcases h.2 with ⟨e1, e2⟩ | ⟨g2, cap2, cur, e1, _, _, h1, _⟩
     · omega
     · injection e1 with _ _ e3; omega
    have hfr := hPr.fresh
    rw [m6, hfn, ev] at hfr
    obtain ⟨e0, z2⟩ := Asm.row_cell hfr j (.string ⟨x.toArray⟩) (by
     rw [Asm.fresh_map, List.getElem?_map, hxj]; rfl)
    have hkey : keyOf Tryz.prog 9 (.string ⟨x.toArray⟩) = some (.string x) := Go.WideMaps.keyOf_string_mk Tryz.underlying9 (by simp [ByteArray.size, maxLen]; omega)
    obtain ⟨v0, ps0, hlk, _⟩ := hPr.map.look_ok (Maps.string_keyed Tryz.underlying9) Tryz.underlying71 (Tryz.zeroValue2 wr) (plainElem_int Tryz.underlying2 (by decide)) hkey
    have c7 : wr.cell? ⟨B.b, 7, none⟩ = some (.map (some B.mb)) := by
     have h := (blk_facts hPr.own).1 7
     rw [eb] at h
     rw [← st.mb]
     exact h
    have z1 : B.b < wr.heap.size := eb ▸ blk_size hPr.own
    rw [st.mb] at hlk
    cases hhas : Maps.has T.places (.string x) with
    | true =>
      rw [hhas] at hlk
      have hR1 : R = .error 114 := HRN.out (HGN.out j T x hxj HT.out (by unfold Asm.markX; rw [hhas]; rfl))
      have hF := fail_calls C T 114 wr hPr
      rw [eb, m1] at hF
      go_wp2_with fail
      refine hF.mono ?_
      rintro e w1 ⟨rfl, ho⟩
      exact ⟨rfl, .bad hR1 (Asm.Bad.after st ⟨rfl, ho⟩)⟩
    | false =>
      rw [hhas] at hlk
      have hmx : Asm.markX T x = some { T with labels := T.labels ++ [(x, p % 4294967296)], places := T.places.put (.string x) (.lit (.int .i64 p)), puts := T.puts + 1, placed := true } := by
       unfold Asm.markX
       rw [hhas, show T.pos = p by rw [← hp0]; unfold Asm.PS.pos; rw [m3, m4]]
       rfl
      have HT2 := HGS.out j T x hxj HT.out
      rw [hmx] at HT2
      have HT3 := Lib.hid HT2
      clear HT HT2 hmx
      have t0 : 0 ≤ T.origin := by rw [m3]; exact h0
      have tc : T.count ≤ 1000000 := by rw [m4]; exact hc
      have tp : T.origin + 4 * (T.count : Int) = p := by rw [m3, m4]; exact hp0
      have tn : T.puts < 1000000 := by omega
      have tl : T.labels.length < 1000000 := by omega
      have hat := fun (y : World) (D : Asm.PB) (U : Asm.PS) (hD : D.b = B.b) (hU : U.origin = T.origin) (hU2 : U.count = T.count) (hy : Asm.Par D U y) => at_calls D U (by rw [hU]; exact t0) (by rw [hU]; omega) (by rw [hU2]; exact tc) y hy
      have HAT : ∀ (y : World) (D : Asm.PB) (U : Asm.PS), D.b = B.b → U.origin = T.origin → U.count = T.count → Asm.Par D U y → Calls Tryz.prog 98 #[.pointer (some ⟨B.b, 0, none⟩)] y fun e w' => e = .returned (.int .i64 p) ∧ Below y.heap.size y w' := fun y D U hD hU hU2 hy => by
       have h := hat y D U hD hU hU2 hy
       rw [hD, hU, hU2, tp] at h
       exact h
      clear hat
      have emb : C.mb = B.mb := st.mb
      have c7d : wr.drew.cell? ⟨B.b, 7, none⟩ = some (.map (some B.mb)) := c7
      have hc7 : ∀ (y : World) (D : Asm.PB) (U : Asm.PS), D.b = B.b → D.mb = B.mb → Asm.Par D U y → y.cell? ⟨B.b, 7, none⟩ = some (.map (some B.mb)) := fun y D U hD hM hy => by
       have h := (blk_facts hy.own).1 7
       rw [hD] at h
       rw [← hM]
       exact h
      go_wp2_with fail
      go_region_held3 (fun W => W.cell? ⟨B.b, 7, none⟩ = some (.map (some B.mb)))
       (first | exact c7 | exact c7d | exact c7y | exact c7z | go_keep)
       ((first | (go_at_call 98; refine (HAT _ C T eb rfl rfl (by first | exact hPr | exact hPr.kept (below_drewN' (Below.refl _ _) 1))).mono ?_; rintro e y1 ⟨rfl, hy1⟩; have hPy : Asm.Par C T y1 := (hPr.kept (by first | exact Below.refl _ _ | exact below_drewN' (Below.refl _ _) 1)).kept hy1; have c7y : y1.cell? ⟨B.b, 7, none⟩ = some (.map (some B.mb)) := hc7 _ _ _ eb emb hPy; obtain ⟨w5, hup, hmap5, hgr5⟩ := hPy.map.update (Maps.string_keyed Tryz.underlying9) Tryz.underlying71 (Nat.lt_trans tn (by decide)) hkey (plainElem_int Tryz.underlying2 (a := p) (WalkArith.wf_i64 (by omega))); obtain ⟨hP5, hst5⟩ := hPy.putMap hmap5 hgr5; rw [emb] at hup; have c7z : w5.cell? ⟨B.b, 7, none⟩ = some (.map (some B.mb)) := hc7 _ _ _ eb emb hP5)))
      have hby : Below wr.heap.size wr y1 := below_next (below_drewN' (Below.refl _ _) 1) hy1
      have hstA := Asm.Step.afterBelow hby hst5
      clear hlk hup hmap5 hgr5 c7 c7d c7y c7z hy1 hby hst5 hPy e0
      have haw : IntKind.u32.wrap p = p % 4294967296 := by simp [IntKind.wrap, IntKind.signed, IntKind.bits]
      obtain ⟨a, ha⟩ : ∃ a, p % 4294967296 = a := ⟨_, rfl⟩
      rw [ha] at haw HT3
      have har : 0 ≤ a ∧ a < 4294967296 := by omega
      obtain ⟨U, hU⟩ : ∃ U : Asm.PS, { T with places := T.places.put (.string x) (.lit (.int .i64 p)), puts := T.puts + 1 } = U := ⟨_, rfl⟩
      have u1 : U.origin = T.origin := hU ▸ rfl
      have u2 : U.count = T.count := hU ▸ rfl
      have u3 : U.labels = T.labels := hU ▸ rfl
      have u4 : ({ T with labels := T.labels ++ [(x, a)], places := T.places.put (.string x) (.lit (.int .i64 p)), puts := T.puts + 1, placed := true } : Asm.PS) = { U with labels := U.labels ++ [(x, a)], placed := true } := by subst hU; rfl
      rw [u4] at HT3
      rw [hU] at hP5
      have tl5 : U.labels.length < 1000000 := by rw [u3]; exact tl
      clear hU u4 u3 m2 m5 m6 m7 m8
      have hc6 : ∀ y : World, Asm.Par C U y → y.cell? ⟨B.b, 6, none⟩ = some C.vl ∧ y.frozen? ⟨B.b, 6, none⟩ = false ∧ B.b < y.heap.size := fun y hy => by
       have h := (blk_facts hy.own).1 6
       have h2 := (blk_facts hy.own).2 6
       have h3 := blk_size hy.own
       rw [eb] at h h2 h3
       exact ⟨h, h2, h3⟩
      obtain ⟨c6, g6, z5⟩ := hc6 _ hP5
      have c6d : w5.drew.cell? ⟨B.b, 6, none⟩ = some C.vl := c6
      obtain ⟨i0, hinf, hz0, hz1, hz2⟩ := info_parts asm_info36
      have hn0 : C.n0 ≤ B.b := by have := hPr.b0; omega
      go_wp2_with fail
      go_region_law (first | (go_simp; go_at_call 98; refine (HAT _ C U eb u1 u2 (by first | exact hP5 | exact hP5.kept (below_drewN' (Below.refl w5.heap.size w5) 1))).mono ?_; rintro e y2 ⟨rfl, hy2⟩; have hPy := (hP5.kept (by first | exact Below.refl _ _ | exact below_drewN' (Below.refl _ _) 1)).kept hy2; have c6y : y2.cell? ⟨B.b, 6, none⟩ = some C.vl := (hc6 _ hPy).1; have hW := hPy.kept (below_alloc' (Below.refl y2.heap.size y2) (.cells #[.string ⟨x.toArray⟩, .int .u32 a] 42)); have c6w : (y2.alloc (.cells #[.string ⟨x.toArray⟩, .int .u32 a] 42)).cell? ⟨B.b, 6, none⟩ = some C.vl := (hc6 _ hW).1; have hrowY := hPy.labels.alloc (.cells #[.string ⟨x.toArray⟩, .int .u32 a] 42)) | (refine step_append_lies _ rfl _ _ 25 rfl C.n0 42 i0 _ 2 24 Tryz.underlying25 hinf hz0 hz1 hz2 rfl (by decide) _ _ _ rfl hrowY ⟨y2.heap.size, 0, none⟩ 1 1 [.string ⟨x.toArray⟩, .int .u32 a] rfl rfl (cells_new2 _ _ _ _) (by simp [Value.oneCell']) (by decide) (Nat.le_of_lt_succ (Nat.lt_of_lt_of_le (Nat.succ_lt_succ tl5) (by decide))) (by have := tl5; show (U.labels.length + 1) * 24 ≤ _; omega) (by have := (hc6 _ hPy).2.2; rw [alloc_size]; omega) _ rfl ?_; intro g6' cap6 w6 hrow6 hgr6 hgb6 hlt6; have k6 := (hgr6.block C.b (blk_size hW.own) (Asm.rowNot hW.labels hW.own (by decide))).trans hW.own; have c6z : w6.cell? ⟨B.b, 6, none⟩ = some C.vl := eb ▸ (blk_facts k6).1 6; have f6z : w6.frozen? ⟨B.b, 6, none⟩ = false := eb ▸ (blk_facts k6).2 6))
      all_goals obtain ⟨hP7, ho7⟩ := hW.vlPush (x, a) (.slice (some ⟨g6', 0, none⟩) (U.labels.length + 1) cap6) hrow6 hgr6 (show _ ∨ _ from (show C.vl.ownBlock = some g6' ∨ g6' = (y2.alloc (.cells #[.string ⟨x.toArray⟩, .int .u32 a] 42)).heap.size from hgb6).elim (fun e => .inl e.symm) (fun e => .inr (congrArg some e)))
      all_goals have hst7 := Asm.Par.vlStep (v := .slice (some ⟨g6', 0, none⟩) (U.labels.length + 1) cap6) ho7 (show _ ∨ _ from (show C.vl.ownBlock = some g6' ∨ g6' = (y2.alloc (.cells #[.string ⟨x.toArray⟩, .int .u32 a] 42)).heap.size from hgb6).elim (fun e => .inl e.symm) (fun e => .inr (congrArg some e)))
      all_goals have hst8 := hstA.trans (Asm.Step.afterBelow (below_next (below_next (by first | exact Below.refl _ _ | exact below_drewN' (Below.refl w5.heap.size w5) 1) hy2) (below_alloc' (Below.refl y2.heap.size y2) (.cells #[.string ⟨x.toArray⟩, .int .u32 a] 42))) hst7)
      all_goals rw [eb] at hP7 hst8
      all_goals clear hst7 ho7 hgr6 hgb6 hlt6 c6w hW k6 c6z f6z hrowY c6y hPy hy2 c6 c6d z5 g6 hstA hrow6 hP5 hc6 HAT hc7
      all_goals generalize w6.setCell _ _ = W7 at hP7 hst8 ⊢
      all_goals obtain ⟨d7, f7⟩ := blk_facts hP7.own
      all_goals have c3 : W7.cell? ⟨B.b, 3, none⟩ = some (.bool U.placed) := d7 3
      all_goals have z7 : B.b < W7.heap.size := blk_size hP7.own
      all_goals have g3 : W7.frozen? ⟨B.b, 3, none⟩ = false := f7 3
      all_goals clear d7 f7
      all_goals obtain ⟨hP8, hst9⟩ := hP7.set 3 (.bool true) C.vt U.line U.toks U.origin true U.count rfl hP7.toks
      all_goals have hst10 := (st.trans hst8).trans hst9
      all_goals go_wp2_with fail
      all_goals go_roundw
      all_goals first | (exact ⟨j + 1, _, _, congrArg (Value.int .i64) (by omega), by omega, HT3, hP8, hst10, ev⟩) | (simp [intOf]; omega)
  · obtain rfl : j = n := by omega
    have hT : Asm.markGo S S.fresh = some T := by have h := HT.out; rw [List.take_of_length_le (by omega)] at h; exact h
    have hRe := HRS.out T hT
    rw [HP.out] at hRe
    have HRE := Lib.hid hRe
    clear HT hRe
    have z1 : B.b < wr.heap.size := eb ▸ blk_size hPr.own
    have c8 : wr.cell? ⟨B.b, 8, none⟩ = some (.slice fa j cap) := by
     have h := (blk_facts hPr.own).1 8
     rw [eb] at h
     exact h.trans (by rw [← ev]; rfl)
    have hat := at_calls C T (by rw [m3]; exact h0) (by rw [m3]; omega) (by rw [m4]; exact hc) wr hPr
    rw [eb, m3, m4, hp0] at hat
    have hlen : S.fresh ≠ [] ↔ 0 < j := by rw [← hfn]; exact List.length_pos_iff.symm
    have hclear : ∀ (y : World), Below wr.heap.size wr y → ∃ B', Asm.Par B' { T with fresh := [] } (y.setCell ⟨B.b, 8, none⟩ (.slice none 0 0)) ∧ Asm.Step B w B' (y.setCell ⟨B.b, 8, none⟩ (.slice none 0 0)) := fun y hy => by
     obtain ⟨a1, a2⟩ := (hPr.kept hy).clear
     rw [eb] at a1 a2
     exact ⟨_, a1, (st.belowAfter hy).trans a2⟩
    have hfz : ∀ (y : World), Below wr.heap.size wr y → y.frozen? ⟨B.b, 8, none⟩ = false ∧ B.b < y.heap.size ∧ y.cell? ⟨B.b, 8, none⟩ = some (.slice fa j cap) := fun y hy => by
     have h := (blk_facts (hPr.kept hy).own).2 8
     have h2 := blk_size (hPr.kept hy).own
     have h3 := (blk_facts (hPr.kept hy).own).1 8
     rw [eb] at h h2 h3
     exact ⟨h, h2, h3.trans (by rw [← ev]; rfl)⟩
    by_cases hj0 : 0 < j
    · have hji : (0 : Int) < (j : Int) := by omega
      go_wp2_with fail
      refine hat.mono ?_
      rintro e y ⟨rfl, hy⟩
      obtain ⟨g8, z8, c8'⟩ := hfz y hy
      by_cases hpe : 4294967296 ≤ p
      · have hF := fail_calls C T 115 y (hPr.kept hy)
        rw [eb, m1] at hF
        go_wp2_with fail
        refine hF.mono ?_
        rintro e w1 ⟨rfl, ho⟩
        have hR1 : R = .error 115 := by rw [HRE.out, if_pos ⟨hlen.2 hj0, hpe⟩]
        exact ⟨rfl, .bad hR1 (Asm.Bad.after (st.belowAfter hy) ⟨rfl, ho⟩)⟩
      · have hR1 : R = .ok { T with fresh := [] } := by rw [HRE.out, if_neg (fun h => hpe h.2)]
        obtain ⟨B', f1, f2⟩ := hclear y hy
        go_wp2_with fail
        go_end0
        exact .ok hR1 rfl f1 f2
    · have hj0' : j = 0 := by omega
      have hR1 : R = .ok { T with fresh := [] } := by rw [HRE.out, if_neg (fun h => hj0 (hlen.1 h.1))]
      obtain ⟨B', f1, f2⟩ := hclear wr (Below.refl _ _)
      obtain ⟨g8, z8, c8'⟩ := hfz wr (Below.refl _ _)
      go_wp2_with fail
      go_end0
      exact .ok hR1 rfl f1 f2
end Go.Proofs.YtabmlbnnhhpaoaaGreatDoor
set_option maxHeartbeats 4000000
set_option maxRecDepth 100000
namespace Go.Proofs.YtabmlbnnhhpaoaaGreatDoor
open Go.RowKit Go.Shelf
namespace Asm
theorem markR_same {S T : PS} (h : markR S = .ok T) : T.line = S.line ∧ T.toks = S.toks ∧ T.origin = S.origin ∧ T.count = S.count ∧ T.pieces = S.pieces ∧ T.fresh = [] ∧ T.puts = S.puts + S.fresh.length ∧ T.labels.length = S.labels.length + S.fresh.length := by
 unfold markR at h
 cases hg : markGo S S.fresh with
 | none => rw [hg] at h; cases h
 | some U =>
   rw [hg] at h
   simp only at h
   split at h
   · cases h
   · cases h
     obtain ⟨a1, a2, a3, a4, a5, a6, a7, a8⟩ := markGo_same _ hg
     exact ⟨a1, a2, a3, a4, a5, rfl, a7, a8⟩
def putTo (T : PS) (x : Piece) (n : Nat) : PS := { T with pieces := T.pieces ++ [x], count := T.count + n, placed := T.placed || decide (0 < n) }
def putR (S : PS) (x : Piece) (n : Nat) : Except Int PS :=
 if S.toks ≠ [] then .error 112 else
 match markR S with
 | .error e => .error e
 | .ok T => if 4096 < T.count + n ∨ 4294967296 < T.origin + 4 * ((T.count + n : Nat) : Int) then .error 115 else .ok (putTo T x n)
structure Bnd2 (S : PS) : Prop where
 o0 : 0 ≤ S.origin
 pos : S.pos ≤ 4294967296
 c : S.count ≤ 4096
 puts : S.puts + S.fresh.length < 1000000
 labels : S.labels.length + S.fresh.length < 1000000
 pieces : S.pieces.length < 1000000
 fresh : ∀ x ∈ S.fresh, x.length ≤ 1000000
 line0 : 0 ≤ S.line
 line1 : S.line ≤ 1000000
theorem Bnd2.o1 {S : PS} (h : Bnd2 S) : S.origin ≤ 4294967296 := by have := h.pos; unfold PS.pos at this; omega
end Asm
theorem mark_any2 (B : Asm.PB) (S : Asm.PS) (hb : Asm.Bnd2 S) (w : World) (hP : Asm.Par B S w) :
 Calls Tryz.prog 55 #[.pointer (some ⟨B.b, 0, none⟩)] w (Asm.Outc B w S.line (Asm.markR S)) :=
 mark_any B S hb.fresh hb.o0 hb.pos (by have := hb.c; omega) hb.puts hb.labels w hP
theorem put_any (B : Asm.PB) (S : Asm.PS) (hb : Asm.Bnd2 S) (n : Nat) (hnb : n ≤ 100000) (x : Asm.Piece) (hxl : x.line = S.line) (hxa : x.at_ = S.pos) (w : World) (hP : Asm.Par B S w)
 (fp : Nat × List Nat) (hfn : Asm.FnIs w x fp) (hnd : fp.2.Nodup) (W0 : World) (h0 : Asm.Off B.owns W0 w) (hno : ∀ g, g ∈ fp.2 → ¬ B.owns g ∧ B.n0 ≤ g ∧ W0.heap.size ≤ g) :
 Calls Tryz.prog 104 #[.pointer (some ⟨B.b, 0, none⟩), .int .i64 (n : Int), Asm.fnVal fp] w (Asm.Outc B W0 S.line (Asm.putR S x n)) := by
 obtain ⟨fn, hfnn⟩ : ∃ fn, fp.1 = fn := ⟨_, rfl⟩
 obtain ⟨caps, hcaps⟩ : ∃ caps, Asm.capsOf fp = caps := ⟨_, rfl⟩
 have hF : Asm.fnVal fp = .func (.func fn) #[] caps := by unfold Asm.fnVal; rw [hfnn, hcaps]
 rw [hF]
 have st0 : Asm.Step B W0 B w := ⟨h0, fun g hg => .inl hg, rfl, rfl, rfl⟩
 obtain ⟨R, hR⟩ : ∃ R, Asm.putR S x n = R := ⟨_, rfl⟩
 rw [hR]
 have hR1 : S.toks ≠ [] → R = .error 112 := fun h => by rw [← hR]; unfold Asm.putR; rw [if_pos h]
 have hR2 : S.toks = [] → ∀ er, Asm.markR S = .error er → R = .error er := fun h er h2 => by rw [← hR]; unfold Asm.putR; rw [if_neg (fun h3 => h3 h), h2]
 have hR3 : S.toks = [] → ∀ T, Asm.markR S = .ok T → R = if 4096 < T.count + n ∨ 4294967296 < T.origin + 4 * ((T.count + n : Nat) : Int) then .error 115 else .ok (Asm.putTo T x n) := fun h er h2 => by rw [← hR]; unfold Asm.putR; rw [if_neg (fun h3 => h3 h), h2]
 have HR1 := Lib.hid hR1
 have HR2 := Lib.hid hR2
 have HR3 := Lib.hid hR3
 clear hR1 hR2 hR3 hR
 go_enter Tryz.func104, Tryz.ntmps104
 go_wp2_with fail
 refine (end_any B S _ hP).mono ?_
 rintro e w1 (⟨ht, rfl, rfl⟩ | ⟨ht, rfl, ho⟩)
 rotate_left
 · exact ⟨rfl, .bad (HR1.out ht) (Asm.Bad.after st0 ⟨rfl, ho⟩)⟩
 have hR2 := HR2.out ht
 have hR3 := HR3.out ht
 clear HR1 HR2 HR3
 have HT := Lib.hid ht
 clear ht
 have hmk := mark_any2 B S hb _ hP
 cases hmr : Asm.markR S with
 | error er =>
   rw [hmr] at hmk
   have hRe := Lib.hid (hR2 er hmr)
   clear hR2 hR3
   go_wp2_with fail
   refine hmk.mono ?_
   rintro e w2 ⟨rfl, ho⟩
   exact ⟨rfl, .bad hRe.out (Asm.Bad.after st0 ⟨rfl, ho⟩)⟩
 | ok T =>
   rw [hmr] at hmk
   have hRe := hR3 T hmr
   obtain ⟨m1, m2, m3, m4, m5, m6, m7, m8⟩ := Asm.markR_same hmr
   have HRE := Lib.hid hRe
   have HM := Lib.hid (And.intro m1 (And.intro m2 (And.intro m3 (And.intro m4 m5))))
   clear hR2 hR3 hRe hmr m2 m6 m7 m8
   go_wp2_with fail
   refine hmk.mono ?_
   rintro e w2 ⟨rfl, B2, hP2, hst2⟩
   clear hmk
   have hfn2 : Asm.FnIs w2 x fp := hfn.keep fun g hg cs t _ hk => (hst2.keep hk (hno g hg).1).1
   have hno2 : ∀ g, g ∈ fp.2 → ¬ B2.owns g := fun g hg => by
    obtain ⟨cur, t, hk, _⟩ := hfn.box hg
    exact (hst2.keep hk (hno g hg).1).2
   obtain ⟨i0, hinf, hz0, hz1, hz2⟩ := info_parts asm_info63
   obtain ⟨d2, f2⟩ := blk_facts hP2.own
   have eb : B2.b = B.b := hst2.b
   rw [eb] at d2 f2
   have c5 : w2.cell? ⟨B.b, 5, none⟩ = some B2.vp := d2 5
   have c5d : w2.drew.cell? ⟨B.b, 5, none⟩ = some B2.vp := c5
   have c0 : w2.cell? ⟨B.b, 0, none⟩ = some (.int .i64 S.line) := (d2 0).trans (by rw [← m1]; rfl)
   have c0d : w2.drew.cell? ⟨B.b, 0, none⟩ = some (.int .i64 S.line) := c0
   have z2 : B.b < w2.heap.size := eb ▸ blk_size hP2.own
   clear d2 f2
   obtain ⟨p, hpp⟩ : ∃ p, S.pos = p := ⟨_, rfl⟩
   have t0 : 0 ≤ T.origin := by rw [m3]; exact hb.o0
   have t1 : T.origin ≤ 4294967296 := by rw [m3]; exact hb.o1
   have tc : T.count ≤ 4096 := by rw [m4]; exact hb.c
   have hpt : T.origin + 4 * (T.count : Int) = p := by rw [m3, m4]; exact hpp
   have hat := fun (y : World) (hy : Asm.Par B2 T y) => at_calls B2 T t0 t1 (by omega) y hy
   rw [hpt, eb] at hat
   have hfc : ∀ y : World, Asm.Par B2 T y → y.cell? ⟨B.b, 5, none⟩ = some B2.vp ∧ y.cell? ⟨B.b, 0, none⟩ = some (.int .i64 S.line) ∧ y.frozen? ⟨B.b, 5, none⟩ = false ∧ B.b < y.heap.size := fun y hy => by
    have h5 := (blk_facts hy.own).1 5
    have h0 := (blk_facts hy.own).1 0
    have h6 := (blk_facts hy.own).2 5
    have h7 := blk_size hy.own
    rw [eb] at h5 h0 h6 h7
    exact ⟨h5, h0.trans (by rw [← m1]; rfl), h6, h7⟩
   have hb2 : B2.n0 ≤ B.b := eb ▸ hP2.b0
   have hxc : Asm.pieceCells x fp = [.int .i64 S.line, .int .i64 p, .func (.func fn) #[] caps] := by unfold Asm.pieceCells; rw [hxl, hxa, hpp, hF]
   have hplb : T.pieces.length < 1000000 := by rw [m5]; exact hb.pieces
   have HPT := Lib.hid hpt
   have HPP := Lib.hid hpp
   clear m1 m3 m4 m5 hpt hpp
   go_wp2_with fail
   go_region_law (first | (go_simp; go_at_call 98; refine (hat _ (by first | exact hP2 | exact hP2.kept (below_drewN' (Below.refl w2.heap.size w2) 1))).mono ?_; rintro e y2 ⟨rfl, hy2⟩; have hPy := (hP2.kept (by first | exact Below.refl _ _ | exact below_drewN' (Below.refl _ _) 1)).kept hy2; have c5y := (hfc _ hPy).1; have c0y := (hfc _ hPy).2.1; have hW := hPy.kept (below_alloc' (Below.refl y2.heap.size y2) (.cells #[.int .i64 S.line, .int .i64 p, (.func (.func fn) #[] caps)] 82)); have c5w := (hfc _ hW).1) | (refine step_append_lies _ rfl _ _ 73 rfl B2.n0 82 i0 _ 3 24 Tryz.underlying73 hinf hz0 hz1 hz2 rfl (by decide) _ _ _ rfl hW.pieces ⟨y2.heap.size, 0, none⟩ 1 1 [.int .i64 S.line, .int .i64 p, (.func (.func fn) #[] caps)] rfl rfl (cells_new3 _ _ _ _ _ _ rfl) (by simp [Value.oneCell']) (by decide) (Nat.le_of_lt_succ (Nat.lt_of_lt_of_le (Nat.succ_lt_succ hplb) (by decide))) (by have := hplb; show (T.pieces.length + 1) * 24 ≤ _; omega) (by have := (hfc _ hW).2.2.2; omega) _ rfl ?_; intro g6 cap6 w6 hrow6 hgr6 hgb6 hlt6; have k6 := (hgr6.block B2.b (blk_size hW.own) (Asm.rowNot hW.pieces hW.own (by decide))).trans hW.own; have c6z : w6.cell? ⟨B.b, 5, none⟩ = some B2.vp := eb ▸ (blk_facts k6).1 5; have f6z : w6.frozen? ⟨B.b, 5, none⟩ = false := eb ▸ (blk_facts k6).2 5))
   all_goals have hby := below_next (below_next (by first | exact Below.refl _ _ | exact below_drewN' (Below.refl w2.heap.size w2) 1) hy2) (below_alloc' (Below.refl y2.heap.size y2) (.cells #[.int .i64 S.line, .int .i64 p, (.func (.func fn) #[] caps)] 82))
   all_goals have hgb : (.slice (some ⟨g6, 0, none⟩) (T.pieces.length + 1) cap6 : Value).ownBlock = B2.vp.ownBlock ∨ (.slice (some ⟨g6, 0, none⟩) (T.pieces.length + 1) cap6 : Value).ownBlock = some (y2.alloc (.cells #[.int .i64 S.line, .int .i64 p, (.func (.func fn) #[] caps)] 82)).heap.size := (show B2.vp.ownBlock = some g6 ∨ g6 = _ from hgb6).elim (fun e => .inl e.symm) (fun e => .inr (congrArg some e))
   all_goals obtain ⟨hP7, ho7⟩ := hW.vpPush x (.slice (some ⟨g6, 0, none⟩) (T.pieces.length + 1) cap6) fp (hfn2.keep fun g _ cs t _ hk => blk_keep hby hk) (Asm.nodup_push hW.nodup fp hnd hno2) (fun q hq => by rw [hst2.n0]; exact (hno q hq).2.1) (by rw [hxc]; exact hrow6) hgr6 hgb
   all_goals have hst7 := Asm.Step.push (v := .slice (some ⟨g6, 0, none⟩) (T.pieces.length + 1) cap6) fp h0 hst2 ⟨ho7.os.trans hby.os, ho7.tape.trans hby.tape, ho7.output.trans hby.output, Nat.le_trans hby.size ho7.size, fun q hq hn => (ho7.block q (Nat.lt_of_lt_of_le hq hby.size) hn).trans (hby.block q hq)⟩ (hgb.elim .inl (fun e => .inr ⟨_, e, hby.size⟩)) (fun q hq => (hno q hq).2.2)
   all_goals rw [eb] at hP7 hst7
   all_goals clear ho7 hgb hgr6 hgb6 hlt6 hrow6 k6 c6z f6z c5w c0y c5y hW hPy hby hy2 hat hfc hP2 hst2 c5 c5d c0 c0d
   all_goals generalize w6.setCell _ _ = W7 at hP7 hst7 ⊢
   all_goals obtain ⟨d7, f7⟩ := blk_facts hP7.own
   all_goals have c4 : W7.cell? ⟨B.b, 4, none⟩ = some (.int .i64 (T.count : Int)) := d7 4
   all_goals have c3 : W7.cell? ⟨B.b, 3, none⟩ = some (.bool T.placed) := d7 3
   all_goals have z7 : B.b < W7.heap.size := blk_size hP7.own
   all_goals have g3 : W7.frozen? ⟨B.b, 3, none⟩ = false := f7 3
   all_goals have g4 : W7.frozen? ⟨B.b, 4, none⟩ = false := f7 4
   all_goals clear d7 f7
   all_goals obtain ⟨hP8, hst8⟩ := hP7.set 4 (.int .i64 ((T.count : Int) + (n : Int))) B2.vt T.line T.toks T.origin T.placed (T.count + n) (by simp [Asm.PB.cells]) hP7.toks
   all_goals obtain ⟨hP9, hst9⟩ := hP8.set 3 (.bool (T.placed || decide (0 < n))) B2.vt T.line T.toks T.origin (T.placed || decide (0 < n)) (T.count + n) rfl hP8.toks
   all_goals have hst10 := (hst7.trans hst8).trans hst9
   all_goals have hF := fail_calls _ _ 115 _ hP9
   all_goals have hat9 := fun hq : T.count + n ≤ 1000000 => (fun {C : Asm.PB} {U : Asm.PS} {y : World} (h : Asm.Par C U y) (a : 0 ≤ U.origin) (b : U.origin ≤ 4294967296) (c : U.count ≤ 1000000) => at_calls C U a b c y h) hP9 t0 t1 hq
   all_goals dsimp only at hF hat9
   all_goals rw [HM.out.1] at hF
   all_goals have hpo : T.origin + 4 * ((T.count + n : Nat) : Int) = p + 4 * (n : Int) := by rw [← HPT.out]; push_cast; omega
   all_goals rw [hpo] at hat9
   all_goals have HPO := Lib.hid hpo
   all_goals clear hpo t0 t1
   all_goals cases hpl : T.placed
   all_goals rw [hpl] at c3 hF hP9 hst10 hat9
   all_goals simp only [Bool.true_or, Bool.false_or] at hF hP9 hst10 hat9
   all_goals by_cases hA : 4096 < T.count + n
   all_goals have hAi : (4096 < (T.count : Int) + (n : Int)) ↔ 4096 < T.count + n := by omega
   all_goals go_wp2_with fail
   all_goals first
    | (refine hF.mono ?_
       rintro e w1 ⟨rfl, ho⟩
       exact ⟨rfl, .bad (by rw [HRE.out, if_pos (.inl hA)]) (Asm.Bad.after hst10 ⟨rfl, ho⟩)⟩)
    | (refine (hat9 (by omega)).mono ?_
       rintro e y3 ⟨rfl, hy3⟩
       have hP10 := hP9.kept hy3
       have hst11 := hst10.belowAfter hy3
       have hF2 := fail_calls _ _ 115 _ hP10
       dsimp only at hF2
       rw [HM.out.1] at hF2
       by_cases hE : 4294967296 < p + 4 * (n : Int)
       · go_wp2_with fail
         refine hF2.mono ?_
         rintro e w1 ⟨rfl, ho⟩
         exact ⟨rfl, .bad (by rw [HRE.out, if_pos (.inr (by rw [HPO.out]; exact hE))]) (Asm.Bad.after hst11 ⟨rfl, ho⟩)⟩
       · go_wp2_with fail
         go_end0
         exact .ok (HRE.out.trans ((if_neg (by have h9 := HPO.out; omega)).trans (congrArg Except.ok (by unfold Asm.putTo; rw [hpl] <;> rfl)))) rfl hP10 hst11)
end Go.Proofs.YtabmlbnnhhpaoaaGreatDoor
