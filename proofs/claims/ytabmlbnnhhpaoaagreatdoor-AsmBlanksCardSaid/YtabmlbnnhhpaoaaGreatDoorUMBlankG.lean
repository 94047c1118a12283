/- What this claim needs of BlankTok, BlankSteps, BlankText. -/
import Derived.Test.YtabmlbnnhhpaoaaGreatDoorUMTokG
import Derived.Test.YtabmlbnnhhpaoaaGreatDoorUMBackG
set_option linter.unusedSimpArgs false
set_option linter.unusedVariables false
namespace Go.Proofs.YtabmlbnnhhpaoaaGreatDoor
open Go.RowKit Go.Shelf
namespace Asm
def blankB (c : UInt8) : Prop := c = 32 ∨ c = 9
def Gap (v : List UInt8) : Prop := ∀ c, v.head? = some c → blankB c
theorem span_gap (p : UInt8 → Bool) (h1 : p 32 = false) (h2 : p 9 = false) : ∀ (u v : List UInt8), Gap v → span p (u ++ v) = span p u
 | [], v, hv => by
  cases v with
  | nil => rfl
  | cons c v =>
   have : p c = false := by rcases hv c rfl with rfl | rfl <;> assumption
   simp [span, this]
 | c :: u, v, hv => by
  rw [List.cons_append]
  unfold span
  rw [span_gap p h1 h2 u v hv]
theorem pre_gap : ∀ (p x v : List UInt8), (∀ c ∈ p, ¬ blankB c) → Gap v → p.isPrefixOf (x ++ v) = p.isPrefixOf x
 | [], x, v, _, _ => by simp
 | q :: p, [], v, hp, hv => by
  cases v with
  | nil => rfl
  | cons c v =>
   have hne : ¬ q = c := fun e => hp q (by simp) (e ▸ hv c rfl)
   simp [List.isPrefixOf, hne]
 | q :: p, e :: x, v, hp, hv => by
  rw [List.cons_append]
  simp only [List.isPrefixOf]
  rw [pre_gap p x v (fun c hc => hp c (List.mem_cons_of_mem _ hc)) hv]
theorem has_gap (p x v : List UInt8) (hp : ∀ c ∈ p, ¬ blankB c) (hv : Gap v) : Lib.hasPrefix (x ++ v) p = Lib.hasPrefix x p := by
 unfold Lib.hasPrefix
 exact pre_gap p x v hp hv
theorem cut_gap (p x v : List UInt8) (hp : ∀ c ∈ p, ¬ blankB c) (hv : Gap v) : Lib.trimPrefix (x ++ v) p = Lib.trimPrefix x p ++ v := by
 unfold Lib.trimPrefix
 rw [has_gap p x v hp hv]
 split
 · rename_i h
   have hl : p.length ≤ x.length := by
    unfold Lib.hasPrefix at h
    exact (List.isPrefixOf_iff_prefix.1 h).length_le
   rw [List.drop_append_of_le_length hl]
 · rfl
theorem p45 : ∀ c ∈ ([45] : List UInt8), ¬ blankB c := by intro c hc; simp at hc; subst hc; unfold blankB; decide
theorem p0x : ∀ c ∈ ([48, 120] : List UInt8), ¬ blankB c := by intro c hc; simp at hc; rcases hc with rfl | rfl <;> (unfold blankB; decide)
theorem hex_gap (u v : List UInt8) (hv : Gap v) : hex (u ++ v) = hex u := by
 unfold hex body; rw [cut_gap _ _ _ p45 hv, has_gap _ _ _ p0x hv]
theorem digits_gap (u v : List UInt8) (hv : Gap v) : digits (u ++ v) = digits u ++ v := by
 unfold digits body; rw [cut_gap _ _ _ p45 hv, cut_gap _ _ _ p0x hv]
theorem size_gap (u v : List UInt8) (hv : Gap v) : size (u ++ v) = size u := by
 unfold size
 rw [hex_gap u v hv, digits_gap u v hv]
 exact span_gap _ (val_none _ 32 (by decide)) (val_none _ 9 (by decide)) _ v hv
theorem size_le (u : List UInt8) : size u ≤ (digits u).length := span_le _ _
theorem digits_le (u : List UInt8) : (digits u).length ≤ u.length := by
 unfold digits body Lib.trimPrefix
 split <;> split <;> simp <;> omega
theorem noNum_gap (u v : List UInt8) (hv : Gap v) : noNum (u ++ v) = noNum u := by
 unfold noNum
 rw [size_gap u v hv, hex_gap u v hv, digits_gap u v hv]
 by_cases h0 : size u = 0
 · simp [h0]
 · have hl := size_le u
   have e1 : (digits u ++ v)[0]? = (digits u)[0]? := List.getElem?_append_left (by omega)
   rw [e1]
   have key : ∀ f : Option UInt8 → Bool, f none = false → f (some 32) = false → f (some 9) = false → f ((digits u ++ v)[size u]?) = f ((digits u)[size u]?) := by
    intro f f0 f1 f2
    by_cases hs : size u < (digits u).length
    · rw [List.getElem?_append_left hs]
    · have hs' : size u = (digits u).length := by omega
      rw [hs', List.getElem?_append_right (Nat.le_refl _), Nat.sub_self, List.getElem?_eq_none (Nat.le_refl _), f0]
      cases v with
      | nil => exact f0
      | cons c v => rcases hv c rfl with rfl | rfl <;> assumption
   have k := key (fun o => match o with | some c => letter c || digit c | none => false) rfl (by decide) (by decide)
   congr 1
theorem numLen_gap (u v : List UInt8) (hv : Gap v) : numLen (u ++ v) = numLen u := by
 have := digits_le u
 unfold numLen
 rw [size_gap u v hv, digits_gap u v hv, List.length_append, List.length_append]
 omega
theorem numVal_gap (u v : List UInt8) (hv : Gap v) : numVal (u ++ v) = numVal u := by
 have hl := size_le u
 unfold numVal numAbs minus
 rw [has_gap _ _ _ p45 hv, hex_gap u v hv, size_gap u v hv, digits_gap u v hv, List.take_append_of_le_length hl]
theorem tok_gap (c : UInt8) (u v : List UInt8) (hv : Gap v) : tok c (c :: u ++ v) = tok c (c :: u) := by
 have hw : span wordByte (c :: u ++ v) = span wordByte (c :: u) := span_gap _ (by decide) (by decide) _ v hv
 unfold tok
 split
 · rw [hw, List.take_append_of_le_length (span_le _ _)]
 · split
   · rw [noNum_gap _ v hv, numLen_gap _ v hv, numVal_gap _ v hv]
     cases hn : noNum (c :: u) with
     | true => rfl
     | false =>
      rw [List.take_append_of_le_length (numLen_pos _ hn).2]
   · rfl
inductive Bl : List UInt8 → List UInt8 → Prop
 | nil {b : List UInt8} (hb : ∀ c ∈ b, blankB c) : Bl b []
 | sp {f a' a : List UInt8} (hf : ∀ c ∈ f, blankB c) (hne : f ≠ []) (h : Bl a' a) : Bl (f ++ a') (32 :: a)
 | tb {a' a : List UInt8} (h : Bl a' a) : Bl (9 :: a') (9 :: a)
 | ch {c : UInt8} {a' a : List UInt8} (hc : ¬ blankB c) (h : Bl a' a) : Bl (c :: a') (c :: a)
theorem tk_blanks : ∀ (f s : List UInt8), (∀ c ∈ f, blankB c) → tk (f ++ s) = tk s
 | [], s, _ => rfl
 | c :: f, s, h => by
  have ih := tk_blanks f s (fun d hd => h d (List.mem_cons_of_mem _ hd))
  rw [List.cons_append]
  rcases h c (by simp) with rfl | rfl
  · rw [tk_blank, ih]
  · rw [tk_tab, ih]
theorem Bl.run {a' a : List UInt8} (h : Bl a' a) : ∃ u v v', a = u ++ v ∧ a' = u ++ v' ∧ Bl v' v ∧ Gap v ∧ Gap v' ∧ ∀ c ∈ u, ¬ blankB c := by
 induction h with
 | nil hb =>
  rename_i b
  refine ⟨[], [], b, rfl, rfl, .nil hb, (by intro c hc; cases hc), ?_, by intro c hc; cases hc⟩
  intro c hc
  cases b with
  | nil => cases hc
  | cons d b => simp at hc; exact hb c (by simp [hc])
 | sp hf hne h =>
  rename_i f a' a ih
  refine ⟨[], 32 :: a, f ++ a', rfl, rfl, .sp hf hne h, ?_, ?_, by intro c hc; cases hc⟩
  · intro c hc; simp at hc; exact .inl hc.symm
  · intro c hc
    cases f with
    | nil => exact absurd rfl hne
    | cons d f => simp at hc; exact hf c (by simp [hc])
 | tb h ih =>
  rename_i a' a
  exact ⟨[], 9 :: a, 9 :: a', rfl, rfl, .tb h, (by intro c hc; simp at hc; exact .inr hc.symm), (by intro c hc; simp at hc; exact .inr hc.symm), by intro c hc; cases hc⟩
 | ch hc h ih =>
  rename_i c a' a
  obtain ⟨u, v, v', e1, e2, h1, h2, h3, h4⟩ := ih
  exact ⟨c :: u, v, v', by rw [e1]; rfl, by rw [e2]; rfl, h1, h2, h3, by intro d hd; rcases List.mem_cons.1 hd with rfl | hd; exact hc; exact h4 d hd⟩
theorem Bl.pre : ∀ (u : List UInt8) {v v' : List UInt8}, (∀ c ∈ u, ¬ blankB c) → Bl v' v → Bl (u ++ v') (u ++ v)
 | [], _, _, _, h => h
 | c :: u, _, _, hu, h => .ch (hu c (by simp)) (Bl.pre u (fun d hd => hu d (List.mem_cons_of_mem _ hd)) h)
theorem tk_none {c : UInt8} {r : List UInt8} (h1 : c ≠ 32) (h2 : c ≠ 9) (hk : tok c (c :: r) = none) : tk (c :: r) = none := by
 unfold tk toks
 rw [trim_at r h1 h2]
 simp only [hk]
theorem tk_bl : ∀ (n : Nat) (a' a : List UInt8), a.length ≤ n → Bl a' a → tk a' = tk a := by
 intro n
 induction n with
 | zero =>
  intro a' a hn h
  have : a = [] := List.length_eq_zero_iff.1 (by omega)
  subst this
  cases h with
  | nil hb =>
   have := tk_blanks a' [] hb
   rwa [List.append_nil] at this
 | succ n ih =>
  intro a' a hn h
  cases h with
  | nil hb =>
   have := tk_blanks a' [] hb
   rwa [List.append_nil] at this
  | sp hf hne h =>
   rw [tk_blanks _ _ hf, tk_blank]
   exact ih _ _ (by simpa using hn) h
  | tb h =>
   rw [tk_tab, tk_tab]
   exact ih _ _ (by simpa using hn) h
  | ch hc h =>
   rename_i c r' r
   obtain ⟨u, v, v', rfl, rfl, h1, h2, h3, h4⟩ := h.run
   have n1 : c ≠ 32 := fun e => hc (.inl e)
   have n2 : c ≠ 9 := fun e => hc (.inr e)
   have t1 : tok c (c :: (u ++ v)) = tok c (c :: u) := tok_gap c u v h2
   have t2 : tok c (c :: (u ++ v')) = tok c (c :: u) := tok_gap c u v' h3
   cases hk : tok c (c :: u) with
   | none => rw [tk_none n1 n2 (t1.trans hk), tk_none n1 n2 (t2.trans hk)]
   | some t =>
    obtain ⟨l1, l2, _⟩ := tok_len c u t hk
    rw [tk_step n1 n2 (t1.trans hk), tk_step n1 n2 (t2.trans hk)]
    have e1 : (c :: (u ++ v)).drop t.bytes.length = (c :: u).drop t.bytes.length ++ v := by
     rw [← List.cons_append, List.drop_append_of_le_length (by simpa using l2)]
    have e2 : (c :: (u ++ v')).drop t.bytes.length = (c :: u).drop t.bytes.length ++ v' := by
     rw [← List.cons_append, List.drop_append_of_le_length (by simpa using l2)]
    rw [e1, e2]
    refine congrArg _ (ih _ _ ?_ (Bl.pre _ ?_ h1))
    · simp only [List.length_append, List.length_drop, List.length_cons] at hn ⊢
      omega
    · intro d hd
      have hd' := List.mem_of_mem_drop hd
      rcases List.mem_cons.1 hd' with rfl | hd'
      · exact hc
      · exact h4 d hd'
theorem Bl.tk {a' a : List UInt8} (h : Bl a' a) : tk a' = tk a := tk_bl a.length a' a (Nat.le_refl _) h
end Asm
end Go.Proofs.YtabmlbnnhhpaoaaGreatDoor
namespace Go.Proofs.YtabmlbnnhhpaoaaGreatDoor
open Go.RowKit Go.Shelf
namespace Asm
inductive Decos : List Ev → List (List UInt8) → Prop
 | nil : Decos [] []
 | ev {e : Ev} {l : List UInt8} {es : List Ev} {L : List (List UInt8)} (hl : l.length ≤ 1000000) (htk : tokens l = tokens (evLine e)) (k : Decos es L) : Decos (e :: es) (l :: L)
 | blank {b : List UInt8} {es : List Ev} {L : List (List UInt8)} (hl : b.length ≤ 1000000) (htk : tokens b = some []) (k : Decos es L) : Decos es (b :: L)
def EvOk : Nat → List (List UInt8) → Nat → List Ev → Prop
 | _, _, _, [] => True
 | a, seen, cnt, .lab n :: es => nameOk n = true ∧ n ∉ seen ∧ a < 4294967296 ∧ EvOk a (n :: seen) cnt es
 | a, seen, cnt, .wd x b :: es => b = a ∧ x < 4294967296 ∧ cnt < 4096 ∧ a + 4 ≤ 4294967296 ∧ EvOk (a + 4) seen (cnt + 1) es
def evLabs : Nat → List Ev → List (List UInt8 × Int)
 | _, [] => []
 | a, .lab n :: es => (n, (a : Int)) :: evLabs a es
 | a, .wd _ _ :: es => evLabs (a + 4) es
def evWords : List Ev → List Nat
 | [] => []
 | .lab _ :: es => evWords es
 | .wd x _ :: es => x :: evWords es
theorem lab_stepG {o : Nat} {S : PS} {a : Nat} {seen : List (List UInt8)} {m : Nat} (h : At o S a seen m) (ho : o ≤ 4294967296) (hm : m ≤ 900000) {n : List UInt8} (hn : nameOk n = true) (hs : n ∉ seen) (ha : a < 4294967296) {l : List UInt8} (hl : l.length ≤ 1000000) (htk : tokens l = tokens (n ++ [58])) :
 ∃ S1, OneOk S l S1 ∧ At o S1 a (n :: seen) (m + 1) ∧ S1.labels = S.labels ++ [(n, (a : Int))] ∧ S1.pieces = S.pieces ∧ S1.count = S.count := by
 have hb := h.bnd ho hm
 have hll := nameOk_len hn
 have hpos : ({ S with line := S.line + 1, toks := [], fresh := [n] } : PS).pos = (a : Int) := h.posI
 have hf : S.fresh ++ [n] = [n] := by rw [h.fresh]; rfl
 have hmk : markOk { S with line := S.line + 1, toks := [], fresh := S.fresh ++ [n] } = true := by
  rw [hf]
  show (decide (n.length ≤ 1000000) && !Maps.has S.places (.string n) && decide (({ S with line := S.line + 1, toks := [], fresh := [n] } : PS).pos < 4294967296)) = true
  rw [hpos, h.seen n hs]
  simp
  omega
 refine ⟨marked { S with line := S.line + 1, toks := [], fresh := S.fresh ++ [n] }, fun B w hP => ?_, ?_, ?_, ?_, ?_⟩
 · exact one_LBx l hl B S ⟨0, n, 0⟩ ⟨2, [58], 0⟩ rfl (by show n.length ≤ _; omega) hn ⟨rfl, rfl⟩ (htk.trans (lab_tokens hn)) hb (by rw [h.line]; omega) (by rw [h.fresh]; decide) hmk w hP
 · rw [hf]
   refine ⟨by show S.line + 1 = _; rw [h.line]; omega, rfl, rfl, h.origin, h.pos, by show S.count ≤ _; have := h.count; omega, by show S.puts + 1 ≤ _; have := h.puts; omega, ?_, by show S.pieces.length ≤ _; have := h.pieces; omega, ?_⟩
   · show (S.labels ++ _).length ≤ _
     have := h.labels
     simp
     omega
   · intro k hk
     show Maps.has (S.places.put (.string n) _) (.string k) = false
     rw [Maps.has_put_other (fun e => hk (by injection e with e; subst e; simp))]
     exact h.seen k (fun hh => hk (List.mem_cons_of_mem _ hh))
 · rw [hf]
   show S.labels ++ [(n, _)] = _
   rw [hpos]
 · rw [hf]; rfl
 · rw [hf]; rfl
theorem word_stepG {o : Nat} {S : PS} {a : Nat} {seen : List (List UInt8)} {m : Nat} (h : At o S a seen m) (ho : o ≤ 4294967296) (hm : m ≤ 900000) {x : Nat} (hx : x < 4294967296) (hc : S.count < 4096) (ha : a + 4 ≤ 4294967296) {l : List UInt8} (hl : l.length ≤ 1000000) (htk : tokens l = tokens (evLine (.wd x a))) :
 ∃ S1, OneOk S l S1 ∧ At o S1 (a + 4) seen (m + 1) ∧ S1.labels = S.labels ∧ S1.pieces = S.pieces ++ [wordPiece x ((m : Int) + 1) (a : Int)] ∧ S1.count = S.count + 1 := by
 have hb := h.bnd ho hm
 have h1 := line_one x a hx l hl (htk.trans (tab_tokens _)) S hb (by rw [h.line]; omega) h.fresh hc (by rw [h.posI]; omega)
 have hmk : marked { S with line := S.line + 1, toks := [] } = { S with line := S.line + 1, toks := [] } := by unfold marked; rw [show ({ S with line := S.line + 1, toks := [] } : PS).fresh = [] from h.fresh]
 have hpc := h.count; have h2 := h.puts; have h3 := h.labels; have h4 := h.pieces; have h5 := h.pos
 refine ⟨_, h1, ?_, ?_, ?_, rfl⟩
 · unfold pushedX
   rw [hmk]
   exact ⟨by show S.line + 1 = _; rw [h.line]; omega, rfl, h.fresh, h.origin, by show o + 4 * (S.count + 1) = _; omega, by show S.count + 1 ≤ _; omega, by show S.puts ≤ _; omega, by show S.labels.length ≤ _; omega, by show (S.pieces ++ [_]).length ≤ _; simp; omega, h.seen⟩
 · unfold pushedX; rw [hmk]
 · unfold pushedX; rw [hmk, h.line, h.posI]
theorem blank_step {o : Nat} {S : PS} {a : Nat} {seen : List (List UInt8)} {m : Nat} (h : At o S a seen m) (ho : o ≤ 4294967296) (hm : m ≤ 900000) {l : List UInt8} (hl : l.length ≤ 1000000) (htk : tokens l = some []) :
 ∃ S1, OneOk S l S1 ∧ At o S1 a seen (m + 1) ∧ S1.labels = S.labels ∧ S1.pieces = S.pieces ∧ S1.count = S.count := by
 have hb := h.bnd ho hm
 have hmk : marked { S with line := S.line + 1, toks := [], fresh := S.fresh } = { S with line := S.line + 1, toks := [] } := by
  unfold marked
  rw [show ({ S with line := S.line + 1, toks := [], fresh := S.fresh } : PS).fresh = [] from h.fresh]
 have hpc := h.count; have h2 := h.puts; have h3 := h.labels; have h4 := h.pieces; have h5 := h.pos
 refine ⟨{ S with line := S.line + 1, toks := [] }, fun B w hP => ?_, ⟨by show S.line + 1 = _; rw [h.line]; omega, rfl, h.fresh, h.origin, h.pos, by show S.count ≤ _; omega, by show S.puts ≤ _; omega, by show S.labels.length ≤ _; omega, by show S.pieces.length ≤ _; omega, h.seen⟩, rfl, rfl, rfl⟩
 have h := one_NBx l hl B S htk hb (by rw [h.line]; omega) (by rw [h.fresh]; decide) (by unfold markOk; rw [show ({ S with line := S.line + 1, toks := [], fresh := S.fresh } : PS).fresh = [] from h.fresh]) w hP
 rw [hmk] at h
 exact h
theorem deco_steps {o : Nat} (ho : o ≤ 4294967296) {es : List Ev} {L : List (List UInt8)} (hd : Decos es L) : ∀ {S : PS} {a : Nat} {seen : List (List UInt8)} {m : Nat}, At o S a seen m → EvOk a seen S.count es → m + L.length ≤ 900000 →
 ∃ S' a' seen' m', Steps S L S' ∧ At o S' a' seen' m' ∧ m' ≤ 900000 ∧ S'.labels = S.labels ++ evLabs a es ∧ ∃ ps, S'.pieces = S.pieces ++ ps ∧ (∀ S2 x, x ∈ ps → PieceOk S2 x) ∧ ∀ S2, ps.flatMap (wordsOf S2) = (evWords es).map (fun x : Nat => (x : Int)) := by
 induction hd with
 | nil =>
  intro S a seen m h _ hm
  exact ⟨S, a, seen, m, .nil S, h, by simpa using hm, by simp [evLabs], [], by simp, (by intro _ x hx; cases hx), fun _ => rfl⟩
 | ev hl htk hk ih =>
  rename_i e l es L
  intro S a seen m h hok hm
  simp only [List.length_cons] at hm
  cases e with
  | lab n =>
   obtain ⟨hn, hs, ha, hok⟩ := hok
   obtain ⟨S1, k1, k2, k3, k4, k5⟩ := lab_stepG h ho (by omega) hn hs ha hl htk
   obtain ⟨S', a', seen', m', i1, i2, i3, i4, ps, i5, i6, i7⟩ := ih k2 (by rw [k5]; exact hok) (by omega)
   exact ⟨S', a', seen', m', .cons k1 i1, i2, i3, by rw [i4, k3]; simp [evLabs], ps, by rw [i5, k4], i6, i7⟩
  | wd x b =>
   obtain ⟨rfl, hx, hc, ha, hok⟩ := hok
   obtain ⟨S1, k1, k2, k3, k4, k5⟩ := word_stepG h ho (by omega) hx hc ha hl htk
   obtain ⟨S', a', seen', m', i1, i2, i3, i4, ps, i5, i6, i7⟩ := ih k2 (by rw [k5]; exact hok) (by omega)
   have hpc := fun S2 => wordPiece_ok x hx ((m : Int) + 1) (b : Int) (by omega) (by omega) S2
   refine ⟨S', a', seen', m', .cons k1 i1, i2, i3, by rw [i4, k3]; simp [evLabs], wordPiece x ((m : Int) + 1) (b : Int) :: ps, by rw [i5, k4]; simp, ?_, ?_⟩
   · intro S2 y hy
     rcases List.mem_cons.1 hy with rfl | hy
     · exact (hpc S2).1
     · exact i6 S2 y hy
   · intro S2
     rw [List.flatMap_cons, (hpc S2).2, i7 S2]
     rfl
 | blank hl htk hk ih =>
  intro S a seen m h hok hm
  simp only [List.length_cons] at hm
  obtain ⟨S1, k1, k2, k3, k4, k5⟩ := blank_step h ho (by omega) hl htk
  obtain ⟨S', a', seen', m', i1, i2, i3, i4, ps, i5, i6, i7⟩ := ih k2 (by rw [k5]; exact hok) (by omega)
  exact ⟨S', a', seen', m', .cons k1 i1, i2, i3, by rw [i4, k3], ps, by rw [i5, k4], i6, i7⟩
theorem evOk_labs {o t a cnt : Nat} : ∀ (l : List Lab) {seen : List (List UInt8)} (rest : List Lab), labelsOk o t seen (l ++ rest) = true → (∀ x ∈ l, x.2 = a) → (∀ x ∈ l, x.2 < 4294967296) →
 ∃ seen', labelsOk o t seen' rest = true ∧ (∀ es, EvOk a seen' cnt es → EvOk a seen cnt ((l.map fun x => Ev.lab x.1) ++ es)) ∧ (∀ es, evLabs a ((l.map fun x => Ev.lab x.1) ++ es) = l.map (fun x => (x.1, (x.2 : Int))) ++ evLabs a es) ∧ ∀ es, evWords ((l.map fun x => Ev.lab x.1) ++ es) = evWords es
 | [], seen, rest, hk, _, _ => ⟨seen, hk, fun es h => h, fun es => rfl, fun es => rfl⟩
 | x :: l, seen, rest, hk, hx, hx2 => by
  rw [List.cons_append] at hk
  unfold labelsOk at hk
  simp only [Bool.and_eq_true, Bool.not_eq_true', decide_eq_true_eq] at hk
  obtain ⟨hn, hs, _, _, _, hr⟩ := hk
  have hxa := hx x (by simp)
  have hlt := hx2 x (by simp)
  obtain ⟨seen', k1, k2, k3, k4⟩ := evOk_labs (cnt := cnt) l rest hr (fun y hy => hx y (List.mem_cons_of_mem _ hy)) (fun y hy => hx2 y (List.mem_cons_of_mem _ hy))
  refine ⟨seen', k1, fun es h => ⟨hn, fun hc => (by rw [List.contains_iff_mem.2 hc] at hs; cases hs), by omega, k2 es h⟩, fun es => ?_, fun es => k4 es⟩
  show (x.1, (a : Int)) :: evLabs a ((l.map fun x => Ev.lab x.1) ++ es) = _
  rw [k3 es, List.map_cons, hxa]
  rfl
theorem evOk_body {o t : Nat} : ∀ (ws : List Nat) (a : Nat) (ls : List Lab) {seen : List (List UInt8)} {cnt : Nat}, labelsOk o t seen ls = true → rises ls = true → (∀ x ∈ ls, a ≤ x.2 ∧ x.2 < 4294967296) → a % 4 = 0 → t = a + 4 * ws.length → t ≤ 4294967296 → cnt + ws.length ≤ 4096 → (∀ x ∈ ws, x < 4294967296) →
 EvOk a seen cnt (evs a ws ls) ∧ evLabs a (evs a ws ls) = ls.map (fun x => (x.1, (x.2 : Int))) ∧ evWords (evs a ws ls) = ws
 | [], a, ls, seen, cnt, hk, hr, hl, ha, ht, ht2, hc, hws => by
  have hall : ∀ x ∈ ls, x.2 = a := fun x hx => by
   have h1 := (labelsOk_mem o t ls seen hk x hx).2.2.1
   have h2 := (hl x hx).1
   simp at ht
   omega
  have e : evs a [] ls = (ls.map fun x => Ev.lab x.1) ++ [] := by rw [evs, takeL_full a ls hall]; simp
  rw [e]
  obtain ⟨seen', k1, k2, k3, k4⟩ := evOk_labs (cnt := cnt) (o := o) (t := t) ls [] (by simpa using hk) hall (fun x hx => (hl x hx).2)
  exact ⟨k2 [] trivial, by rw [k3]; simp [evLabs], k4 []⟩
 | x :: ws, a, ls, seen, cnt, hk, hr, hl, ha, ht, ht2, hc, hws => by
  have e : evs a (x :: ws) ls = ((takeL a ls).1.map fun x => Ev.lab x.1) ++ Ev.wd x a :: evs (a + 4) ws (takeL a ls).2 := by rw [evs]
  rw [e]
  simp only [List.length_cons] at ht hc
  have hall := takeL_all a ls
  have hin1 : ∀ y ∈ (takeL a ls).1, y ∈ ls := fun y hy => by rw [← hall]; exact List.mem_append_left _ hy
  have hin2 : ∀ y ∈ (takeL a ls).2, y ∈ ls := fun y hy => by rw [← hall]; exact List.mem_append_right _ hy
  obtain ⟨seen1, k1, k2, k3, k4⟩ := evOk_labs (cnt := cnt) (o := o) (t := t) (takeL a ls).1 (takeL a ls).2 (by rw [hall]; exact hk) (takeL_is a ls) (fun y hy => (hl y (hin1 y hy)).2)
  obtain ⟨i1, i2, i3⟩ := evOk_body (cnt := cnt + 1) ws (a + 4) (takeL a ls).2 k1 (takeL_rises a ls hr) (fun y hy => by
   have h1 := takeL_rest a ls hr (fun z hz => (hl z hz).1) y hy
   have h2 := (labelsOk_mem o t ls seen hk y (hin2 y hy)).1
   exact ⟨by omega, (hl y (hin2 y hy)).2⟩) (by omega) (by omega) ht2 (by omega) (fun y hy => hws y (List.mem_cons_of_mem _ hy))
  refine ⟨k2 _ ⟨rfl, hws x (by simp), by omega, by omega, i1⟩, ?_, ?_⟩
  · rw [k3]
    show _ ++ evLabs (a + 4) _ = _
    rw [i2, ← List.map_append, hall]
  · rw [k4]
    show x :: evWords _ = _
    rw [i3]
theorem deco_image (o : Nat) (ws : List Nat) (ls : List Lab) (ho : o < 4294967296) (hws : ∀ x ∈ ws, x < 4294967296) (hx : ∀ x ∈ ls, x.2 < 4294967296) (hs : sound o ws.length ls = true) (src l0 : List UInt8) (L : List (List UInt8)) (hsrc : lines src = l0 :: L) (hlen : src.length ≤ 20000)
 (hl0 : l0.length ≤ 1000000) (ht0 : tokens l0 = tokens ([46, 111, 114, 103, 32] ++ Hex.eight o)) (hd : Decos (evs o ws ls) L) (hL : L.length ≤ 800000) :
 ∃ S, Steps init (lines src) S ∧ S.toks = [] ∧ Bnd S ∧ S.origin = (o : Int) ∧ S.labels = ls.map (fun x => (x.1, (x.2 : Int))) ∧ (∀ x ∈ S.pieces, PieceOk S x) ∧ wordsTo S S.pieces.length = ws.map wordCells := by
 unfold sound at hs
 simp only [Bool.and_eq_true, decide_eq_true_eq] at hs
 obtain ⟨h4, hn, ht, hk, hr⟩ := hs
 have hmem := labelsOk_mem o _ ls [] hk
 rw [hsrc]
 have hhd : OneOk init l0 { init with line := init.line + 1, toks := [], origin := (o : Int), placed := true } := fun B w hP =>
  one_NO _ hl0 ⟨0, [46, 111, 114, 103], 0⟩ ⟨1, Hex.eight o, (o : Int)⟩ (ht0.trans (head_tokens o ho)) rfl rfl rfl (by show (0 : Int) ≤ (o : Int); omega) (by show (o : Int) < 4294967296; omega) (by show (o : Int) % 4 = 0; omega) B init ⟨by decide, by decide, by decide, by decide, by decide, by decide, by decide, by decide⟩ (by decide) (by decide) rfl rfl w hP
 have hat : At o { init with line := init.line + 1, toks := [], origin := (o : Int), placed := true } o [] 1 :=
  ⟨rfl, rfl, rfl, rfl, by show o + 4 * 0 = o; omega, by show 0 ≤ 1; decide, by show 0 ≤ 1; decide, by show 0 ≤ 1; decide, by show 0 ≤ 1; decide, fun n _ => rfl⟩
 obtain ⟨e1, e2, e3⟩ := evOk_body (o := o) (t := o + 4 * ws.length) (seen := []) (cnt := 0) ws o ls hk hr (fun x hx' => ⟨(hmem x hx').2.1, hx x hx'⟩) h4 rfl ht (by omega) hws
 obtain ⟨S', a', seen', m', k1, k2, k3, k4, ps, k5, k6, k7⟩ := deco_steps (by omega) hd hat e1 (by omega)
 have hps : S'.pieces = ps := by rw [k5]; rfl
 refine ⟨S', .cons hhd k1, k2.toks, k2.bnd (by omega) k3, k2.origin, by rw [k4, e2]; rfl, ?_, ?_⟩
 · intro x hx'
   exact k6 _ x (by rw [← hps]; exact hx')
 · unfold wordsTo
   rw [List.take_length, hps, ← List.map_flatMap, k7, e3, List.map_map]
   rfl
end Asm
theorem deco_assemble (o : Nat) (ws : List Nat) (ls : List Asm.Lab) (ho : o < 4294967296) (hws : ∀ x ∈ ws, x < 4294967296) (hx : ∀ x ∈ ls, x.2 < 4294967296) (hs : Asm.sound o ws.length ls = true) (src l0 : List UInt8) (L : List (List UInt8)) (hsrc : Asm.lines src = l0 :: L) (hlen : src.length ≤ 20000)
 (hl0 : l0.length ≤ 1000000) (ht0 : Asm.tokens l0 = Asm.tokens ([46, 111, 114, 103, 32] ++ Hex.eight o)) (hd : Asm.Decos (Asm.evs o ws ls) L) (hL0 : L.length ≤ 800000) (w : World) (hL : Isa.Laid w) :
 Calls Tryz.prog 13 #[.string ⟨src.toArray⟩] w fun e w' => (∃ vW vL, e = .returned (.tuple #[.agg #[.int .u32 (o : Int), vW, vL], .int .i64 0, .int .i64 0]) ∧ w'.ownsRow w.heap.size 23 1 vW ws.length (ws.map Asm.wordCells) ∧ w'.ownsRow w.heap.size 42 2 vL ls.length (ls.flatMap Asm.labCells)) ∧ Below w.heap.size w w' := by
 obtain ⟨S, h1, h2, h3, h4, h5, h6, h7⟩ := Asm.deco_image o ws ls ho hws hx hs src l0 L hsrc hlen hl0 ht0 hd hL0
 obtain ⟨st, s0, s1, s2⟩ := h1.states
 refine (assemble_calls _ hlen st s0 s2 S s1 h2 h3 h6 w hL).mono ?_
 rintro e w' ⟨⟨vW, vL, rfl, k1, k2⟩, hb⟩
 have ho' : S.origin % 4294967296 = (o : Int) := by rw [h4]; omega
 rw [h7, List.length_map] at k1
 have hl1 : S.labels.length = ls.length := by rw [h5, List.length_map]
 have hl2 : S.labels.flatMap Asm.labelCells = ls.flatMap Asm.labCells := by
  rw [h5, List.flatMap_map]
  rfl
 rw [hl1, hl2] at k2
 exact ⟨⟨vW, vL, by rw [ho'], k1, k2⟩, hb⟩
end Go.Proofs.YtabmlbnnhhpaoaaGreatDoor
namespace Go.Proofs.YtabmlbnnhhpaoaaGreatDoor
open Go.RowKit Go.Shelf
namespace Asm
def fillOf (k : Nat) : List UInt8 := if k % 3 = 0 then [32] else if k % 3 = 1 then [9, 32] else [32, 32, 32]
def sfx (k : Nat) : List UInt8 := if k % 5 = 1 then [32, 35, 32, 104, 97, 108, 116] else if k % 5 = 3 then [9] else []
def ext (k : Nat) : List (List UInt8) := if k % 5 = 2 then [[]] else if k % 5 = 3 then [[35, 32, 0, 255, 58, 32, 110, 111, 112]] else if k % 5 = 4 then [[35]] else []
def endOf (k : Nat) : List UInt8 := sfx k ++ 10 :: (ext k).flatMap fun l => l ++ [10]
def cmNext (cm : Bool) (c : UInt8) : Bool := (cm && !decide (c = 10)) || decide (c = 35)
def blankT (K : Nat → Nat) : List UInt8 → Nat → Bool → List UInt8
 | [], _, _ => []
 | c :: s, n, cm =>
  if c = 32 ∧ cmNext cm c = false then fillOf (K n) ++ blankT K s (n + 1) (cmNext cm c)
  else if c = 10 then endOf (K n) ++ blankT K s (n + 1) (cmNext cm c)
  else c :: blankT K s n (cmNext cm c)
def tlT (K : Nat → Nat) : List UInt8 → Nat → Bool → List UInt8
 | [], _, _ => []
 | c :: s, n, cm => if c = 32 ∧ cmNext cm c = false then fillOf (K n) ++ tlT K s (n + 1) (cmNext cm c) else c :: tlT K s n (cmNext cm c)
def tlN (K : Nat → Nat) : List UInt8 → Nat → Bool → Nat
 | [], n, _ => n
 | c :: s, n, cm => if c = 32 ∧ cmNext cm c = false then tlN K s (n + 1) (cmNext cm c) else tlN K s n (cmNext cm c)
theorem blankT_cons (K : Nat → Nat) (c : UInt8) (s : List UInt8) (n : Nat) (cm : Bool) : blankT K (c :: s) n cm = if c = 32 ∧ cmNext cm c = false then fillOf (K n) ++ blankT K s (n + 1) (cmNext cm c) else if c = 10 then endOf (K n) ++ blankT K s (n + 1) (cmNext cm c) else c :: blankT K s n (cmNext cm c) := by rw [blankT]
theorem tlT_cons (K : Nat → Nat) (c : UInt8) (s : List UInt8) (n : Nat) (cm : Bool) : tlT K (c :: s) n cm = if c = 32 ∧ cmNext cm c = false then fillOf (K n) ++ tlT K s (n + 1) (cmNext cm c) else c :: tlT K s n (cmNext cm c) := by rw [tlT]
theorem tlN_cons (K : Nat → Nat) (c : UInt8) (s : List UInt8) (n : Nat) (cm : Bool) : tlN K (c :: s) n cm = if c = 32 ∧ cmNext cm c = false then tlN K s (n + 1) (cmNext cm c) else tlN K s n (cmNext cm c) := by rw [tlN]
theorem blank_line (K : Nat → Nat) : ∀ (l r : List UInt8) (n : Nat) (cm : Bool), (∀ c ∈ l, c ≠ 10) → blankT K (l ++ 10 :: r) n cm = tlT K l n cm ++ (endOf (K (tlN K l n cm)) ++ blankT K r (tlN K l n cm + 1) false)
 | [], r, n, cm, _ => by
  have e : cmNext cm 10 = false := by simp [cmNext]
  show blankT K (10 :: r) n cm = _
  rw [blankT_cons, if_neg (fun h => absurd h.1 (by decide)), if_pos rfl, e]
  rfl
 | c :: l, r, n, cm, h => by
  have ih := fun n cm => blank_line K l r n cm (fun d hd => h d (List.mem_cons_of_mem _ hd))
  rw [List.cons_append, blankT_cons, tlT_cons, tlN_cons]
  by_cases hc : c = 32 ∧ cmNext cm c = false
  · rw [if_pos hc, if_pos hc, if_pos hc, ih, List.append_assoc]
  · rw [if_neg hc, if_neg hc, if_neg hc, if_neg (h c (by simp)), ih]; rfl
theorem fill_blank (k : Nat) : (∀ c ∈ fillOf k, blankB c) ∧ fillOf k ≠ [] ∧ (fillOf k).length ≤ 3 := by
 unfold fillOf blankB
 split
 · exact ⟨by decide, by decide, by decide⟩
 · split
   · exact ⟨by decide, by decide, by decide⟩
   · exact ⟨by decide, by decide, by decide⟩
theorem tlT_len (K : Nat → Nat) : ∀ (l : List UInt8) (n : Nat) (cm : Bool), (tlT K l n cm).length ≤ 3 * l.length
 | [], _, _ => Nat.le_refl _
 | c :: l, n, cm => by
  have h1 := tlT_len K l (n + 1) (cmNext cm c)
  have h2 := tlT_len K l n (cmNext cm c)
  have h3 := (fill_blank (K n)).2.2
  unfold tlT
  split
  · rw [List.length_append, List.length_cons]; omega
  · rw [List.length_cons, List.length_cons]; omega
theorem tlT_mem (K : Nat → Nat) : ∀ (l : List UInt8) (n : Nat) (cm : Bool), ∀ c ∈ tlT K l n cm, blankB c ∨ c ∈ l
 | [], _, _ => by intro c hc; cases hc
 | d :: l, n, cm => by
  intro c hc
  unfold tlT at hc
  split at hc
  · rcases List.mem_append.1 hc with hc | hc
    · exact .inl ((fill_blank (K n)).1 c hc)
    · rcases tlT_mem K l _ _ c hc with h | h
      · exact .inl h
      · exact .inr (List.mem_cons_of_mem _ h)
  · rcases List.mem_cons.1 hc with rfl | hc
    · exact .inr (by simp)
    · rcases tlT_mem K l _ _ c hc with h | h
      · exact .inl h
      · exact .inr (List.mem_cons_of_mem _ h)
theorem tlT_comment (K : Nat → Nat) : ∀ (l : List UInt8) (n : Nat), (∀ c ∈ l, c ≠ 10) → tlT K l n true = l
 | [], _, _ => rfl
 | c :: l, n, h => by
  have e : cmNext true c = true := by simp [cmNext, h c (by simp)]
  unfold tlT
  rw [e, if_neg (by simp), tlT_comment K l n (fun d hd => h d (List.mem_cons_of_mem _ hd))]
theorem tlT_bl (K : Nat → Nat) (b : List UInt8) (hb : ∀ c ∈ b, blankB c) : ∀ (l : List UInt8) (n : Nat), (∀ c ∈ l, c ≠ 35) → Bl (tlT K l n false ++ b) l
 | [], _, _ => .nil hb
 | c :: l, n, h => by
  have ih := fun n => tlT_bl K b hb l n (fun d hd => h d (List.mem_cons_of_mem _ hd))
  have e : cmNext false c = false := by simp [cmNext, h c (by simp)]
  unfold tlT
  rw [e]
  by_cases hc : c = 32
  · subst hc
    rw [if_pos ⟨rfl, rfl⟩, List.append_assoc]
    exact .sp (fill_blank _).1 (fill_blank _).2.1 (ih _)
  · rw [if_neg (fun h => hc h.1), List.cons_append]
    by_cases h9 : c = 9
    · subst h9; exact .tb (ih _)
    · exact .ch (fun h => h.elim hc h9) (ih _)
theorem tlT_hash (K : Nat → Nat) : ∀ (a c : List UInt8) (n : Nat), (∀ d ∈ a, d ≠ 35) → (∀ d ∈ c, d ≠ 10) → tlT K (a ++ 35 :: c) n false = tlT K a n false ++ 35 :: c
 | [], c, n, _, hc => by
  show (if (35 : UInt8) = 32 ∧ cmNext false 35 = false then _ else 35 :: tlT K c n (cmNext false 35)) = _
  rw [if_neg (by decide), show cmNext false 35 = true from by decide, tlT_comment K c n hc]
  rfl
 | d :: a, c, n, h, hc => by
  have ih := fun n => tlT_hash K a c n (fun d hd => h d (List.mem_cons_of_mem _ hd)) hc
  have e : cmNext false d = false := by simp [cmNext, h d (by simp)]
  rw [List.cons_append]
  unfold tlT
  rw [e]
  split
  · rw [ih, List.append_assoc]
  · rw [ih]; rfl
theorem line_tokens (K : Nat → Nat) (l : List UInt8) (n k : Nat) (h10 : ∀ c ∈ l, c ≠ 10) : tokens (tlT K l n false ++ sfx k) = tokens l := by
 have hno : ∀ a : List UInt8, (∀ c ∈ a, c ≠ 35) → ∀ c ∈ tlT K a n false, c ≠ 35 := by
  intro a ha c hc
  rcases tlT_mem K a n false c hc with h | h
  · rintro rfl; exact absurd h (by unfold blankB; decide)
  · exact ha c h
 rcases hash_split l with h | ⟨a, b, rfl, h⟩
 · rw [tokens_plain l h]
   unfold sfx
   split
   · rw [show tlT K l n false ++ [32, 35, 32, 104, 97, 108, 116] = (tlT K l n false ++ [32]) ++ 35 :: [32, 104, 97, 108, 116] by simp]
     rw [tokens_hash _ _ (by
      intro c hc
      rcases List.mem_append.1 hc with hc | hc
      · exact hno l h c hc
      · simp at hc; subst hc; decide)]
     exact (tlT_bl K [32] (by intro c hc; simp at hc; exact .inl hc) l n h).tk
   · split
     · rw [tokens_plain _ (by
        intro c hc
        rcases List.mem_append.1 hc with hc | hc
        · exact hno l h c hc
        · simp at hc; subst hc; decide)]
       exact (tlT_bl K [9] (by intro c hc; simp at hc; exact .inr hc) l n h).tk
     · rw [List.append_nil, tokens_plain _ (hno l h)]
       have := (tlT_bl K [] (by intro c hc; cases hc) l n h).tk
       rwa [List.append_nil] at this
 · rw [tlT_hash K a b n h (fun d hd => h10 d (by simp [hd])), List.append_assoc, List.cons_append, tokens_hash _ _ (hno a h), tokens_hash _ _ h]
   have := (tlT_bl K [] (by intro c hc; cases hc) a n h).tk
   rwa [List.append_nil] at this
theorem sfx_nonl (k : Nat) : ∀ c ∈ sfx k, c ≠ 10 := by
 unfold sfx
 split
 · decide
 · split <;> decide
theorem ext_ok (k : Nat) : ∀ l ∈ ext k, (∀ c ∈ l, c ≠ 10) ∧ tokens l = some [] ∧ l.length ≤ 1000000 := by
 have h1 : (∀ c ∈ ([] : List UInt8), c ≠ 10) ∧ tokens [] = some [] ∧ ([] : List UInt8).length ≤ 1000000 := ⟨by decide, by decide +kernel, by decide⟩
 have h2 : (∀ c ∈ ([35, 32, 0, 255, 58, 32, 110, 111, 112] : List UInt8), c ≠ 10) ∧ tokens [35, 32, 0, 255, 58, 32, 110, 111, 112] = some [] ∧ ([35, 32, 0, 255, 58, 32, 110, 111, 112] : List UInt8).length ≤ 1000000 := ⟨by decide, by decide +kernel, by decide⟩
 have h3 : (∀ c ∈ ([35] : List UInt8), c ≠ 10) ∧ tokens [35] = some [] ∧ ([35] : List UInt8).length ≤ 1000000 := ⟨by decide, by decide +kernel, by decide⟩
 intro l hl
 unfold ext at hl
 split at hl
 · simp at hl; subst hl; exact h1
 · split at hl
   · simp at hl; subst hl; exact h2
   · split at hl
     · simp at hl; subst hl; exact h3
     · cases hl
theorem ext_lines : ∀ (E : List (List UInt8)) (r : List UInt8), (∀ l ∈ E, ∀ c ∈ l, c ≠ 10) → lines ((E.flatMap fun l => l ++ [10]) ++ r) = E ++ lines r
 | [], r, _ => rfl
 | l :: E, r, h => by
  rw [List.flatMap_cons, List.append_assoc, List.append_assoc, List.singleton_append, lines_cat _ _ (h l (by simp)), ext_lines E r (fun x hx => h x (List.mem_cons_of_mem _ hx))]
  rfl
theorem ext_decos : ∀ (E : List (List UInt8)) {es : List Ev} {L : List (List UInt8)}, (∀ l ∈ E, tokens l = some [] ∧ l.length ≤ 1000000) → Decos es L → Decos es (E ++ L)
 | [], _, _, _, h => h
 | l :: E, _, _, hE, h => .blank (hE l (by simp)).2 (hE l (by simp)).1 (ext_decos E (fun x hx => hE x (List.mem_cons_of_mem _ hx)) h)
theorem one_turned (K : Nat → Nat) (l r : List UInt8) (n : Nat) (h10 : ∀ c ∈ l, c ≠ 10) :
 lines (blankT K (l ++ 10 :: r) n false) = (tlT K l n false ++ sfx (K (tlN K l n false))) :: (ext (K (tlN K l n false)) ++ lines (blankT K r (tlN K l n false + 1) false)) := by
 rw [blank_line K l r n false h10]
 unfold endOf
 rw [List.append_assoc, List.cons_append, ← List.append_assoc, lines_cat _ _ (by
  intro c hc
  rcases List.mem_append.1 hc with hc | hc
  · rcases tlT_mem K l n false c hc with h | h
    · rintro rfl; exact absurd h (by unfold blankB; decide)
    · exact h10 c h
  · exact sfx_nonl _ c hc), ext_lines _ _ (fun l hl => (ext_ok _ l hl).1)]
theorem turned_decos (K : Nat → Nat) : ∀ (es : List Ev) (n : Nat), (∀ e ∈ es, (∀ c ∈ evLine e, c ≠ 10) ∧ (evLine e).length ≤ 1000) → Decos es (lines (blankT K (es.flatMap fun e => evLine e ++ [10]) n false))
 | [], n, _ => .blank (by decide) (by decide +kernel) .nil
 | e :: es, n, h => by
  obtain ⟨h1, h2⟩ := h e (by simp)
  rw [List.flatMap_cons, List.append_assoc, List.singleton_append, one_turned K _ _ n h1]
  have hs : (sfx (K (tlN K (evLine e) n false))).length ≤ 7 := by unfold sfx; split; decide; split <;> decide
  have hl := tlT_len K (evLine e) n false
  exact .ev (by rw [List.length_append]; omega) (line_tokens K _ n _ h1) (ext_decos _ (fun l hl => (ext_ok _ l hl).2) (turned_decos K es _ (fun x hx => h x (List.mem_cons_of_mem _ hx))))
theorem lines_count : ∀ s : List UInt8, (lines s).length ≤ s.length + 1
 | [] => by simp [lines]
 | c :: s => by
  have := lines_count s
  have hne := trivial
  unfold lines
  split
  · simp; omega
  · split
    · rename_i h t e
      rw [e] at this
      simp at this ⊢; omega
    · simp
theorem evs_small : ∀ (ws : List Nat) (a : Nat) (ls : List Lab), (∀ x ∈ ls, nameOk x.1 = true) → (∀ x ∈ ws, x < 4294967296) → a + 4 * ws.length ≤ 4294967296 → ∀ e ∈ evs a ws ls, (evLine e).length ≤ 1000 := by
 have hlab : ∀ n : List UInt8, nameOk n = true → (evLine (.lab n)).length ≤ 1000 := fun n hn => by
  have := nameOk_len hn
  simp only [evLine, List.length_append, List.length_cons, List.length_nil]
  omega
 intro ws
 induction ws with
 | nil =>
  intro a ls hl _ _ e he
  unfold evs at he
  obtain ⟨x, hx, rfl⟩ := List.mem_map.1 he
  exact hlab _ (hl x (by rw [← takeL_all a ls]; exact List.mem_append_left _ hx))
 | cons x ws ih =>
  intro a ls hl hws ha e he
  simp only [List.length_cons] at ha
  unfold evs at he
  rcases List.mem_append.1 he with he | he
  · obtain ⟨x, hx, rfl⟩ := List.mem_map.1 he
    exact hlab _ (hl x (by rw [← takeL_all a ls]; exact List.mem_append_left _ hx))
  · rcases List.mem_cons.1 he with rfl | he
    · have h := lineText_size x a (hws x (by simp)) (by omega)
      have e : (lineText x a).data.toList.length = (lineText x a).size := Array.length_toList
      simp only [evLine, List.length_cons, e]
      omega
    · exact ih (a + 4) _ (fun y hy => hl y (by rw [← takeL_all a ls]; exact List.mem_append_right _ hy)) (fun y hy => hws y (List.mem_cons_of_mem _ hy)) (by omega) e he
end Asm
theorem blank_assemble (K : Nat → Nat) (o : Nat) (ws : List Nat) (ls : List Asm.Lab) (ho : o < 4294967296) (hws : ∀ x ∈ ws, x < 4294967296) (hx : ∀ x ∈ ls, x.2 < 4294967296) (hs : Asm.sound o ws.length ls = true) (hlen : (Asm.blankT K (Asm.disText o ws ls) 0 false).length ≤ 20000) (w : World) (hL : Isa.Laid w) :
 Calls Tryz.prog 13 #[.string ⟨(Asm.blankT K (Asm.disText o ws ls) 0 false).toArray⟩] w fun e w' => (∃ vW vL, e = .returned (.tuple #[.agg #[.int .u32 (o : Int), vW, vL], .int .i64 0, .int .i64 0]) ∧ w'.ownsRow w.heap.size 23 1 vW ws.length (ws.map Asm.wordCells) ∧ w'.ownsRow w.heap.size 42 2 vL ls.length (ls.flatMap Asm.labCells)) ∧ Below w.heap.size w w' := by
 have hs' := hs
 unfold Asm.sound at hs'
 simp only [Bool.and_eq_true, decide_eq_true_eq] at hs'
 obtain ⟨h4, hn, ht, hk, hr⟩ := hs'
 have hmem := Asm.labelsOk_mem o _ ls [] hk
 have hnl := Asm.evs_nonl ws o ls (fun x hx => (hmem x hx).2.2.2) hws
 have hsm := Asm.evs_small ws o ls (fun x hx => (hmem x hx).2.2.2) hws ht
 have hh10 : ∀ c ∈ ([46, 111, 114, 103, 32] ++ Hex.eight o), c ≠ 10 := by
  intro c hc
  rcases List.mem_append.1 hc with hc | hc
  · have key : ∀ d ∈ ([46, 111, 114, 103, 32] : List UInt8), d ≠ 10 := by decide
    exact key c hc
  · exact Asm.eight_nonl o ho c hc
 have e : Asm.disText o ws ls = ([46, 111, 114, 103, 32] ++ Hex.eight o) ++ 10 :: (Asm.evs o ws ls).flatMap fun e => Asm.evLine e ++ [10] := by
  unfold Asm.disText Asm.disHead
  rw [Asm.body_evs]
  simp
 have hln := Asm.one_turned K ([46, 111, 114, 103, 32] ++ Hex.eight o) ((Asm.evs o ws ls).flatMap fun e => Asm.evLine e ++ [10]) 0 hh10
 rw [← e] at hln
 have hcnt := Asm.lines_count (Asm.blankT K (Asm.disText o ws ls) 0 false)
 rw [hln] at hcnt
 simp only [List.length_cons] at hcnt
 have hl0 := Asm.tlT_len K ([46, 111, 114, 103, 32] ++ Hex.eight o) 0 false
 have hsf : (Asm.sfx (K (Asm.tlN K ([46, 111, 114, 103, 32] ++ Hex.eight o) 0 false))).length ≤ 7 := by unfold Asm.sfx; split; decide; split <;> decide
 have hel := Hex.eight_len o ho
 exact deco_assemble o ws ls ho hws hx hs _ _ _ hln hlen (by
  simp only [List.length_append, List.length_cons, List.length_nil] at hl0 ⊢
  omega) (Asm.line_tokens K _ 0 _ hh10) (Asm.ext_decos _ (fun l hl => (Asm.ext_ok _ l hl).2) (Asm.turned_decos K _ _ (fun e he => ⟨hnl e he, hsm e he⟩))) (by omega) w hL
end Go.Proofs.YtabmlbnnhhpaoaaGreatDoor
