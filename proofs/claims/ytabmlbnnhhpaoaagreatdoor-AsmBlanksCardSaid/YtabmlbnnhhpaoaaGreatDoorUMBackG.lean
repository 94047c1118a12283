/- What this claim needs of BackLaw, BackSteps, BackAsm. -/
import Derived.Test.YtabmlbnnhhpaoaaGreatDoorUMAsmWordG
import Derived.Test.YtabmlbnnhhpaoaaGreatDoorEMAsmOnes
set_option linter.unusedSimpArgs false
set_option linter.unusedVariables false
namespace Go.Proofs.YtabmlbnnhhpaoaaGreatDoor
open Go.RowKit Go.Shelf
namespace Asm
inductive Steps : PS → List (List UInt8) → PS → Prop
 | nil (S : PS) : Steps S [] S
 | cons {S S1 S2 : PS} {l : List UInt8} {ls : List (List UInt8)} (h : OneOk S l S1) (k : Steps S1 ls S2) : Steps S (l :: ls) S2
theorem Steps.append {S S1 S2 : PS} {l1 l2 : List (List UInt8)} (h : Steps S l1 S1) (k : Steps S1 l2 S2) : Steps S (l1 ++ l2) S2 := by
 induction h with
 | nil S => exact k
 | cons h _ ih => exact .cons h (ih k)
theorem Steps.states {S S2 : PS} {ls : List (List UInt8)} (h : Steps S ls S2) : ∃ st : Nat → PS, st 0 = S ∧ st ls.length = S2 ∧ ∀ k (hk : k < ls.length), OneOk (st k) ls[k] (st (k + 1)) := by
 induction h with
 | nil S => exact ⟨fun _ => S, rfl, rfl, fun k hk => absurd hk (by simp)⟩
 | @cons S S1 S2 l ls h _ ih =>
  obtain ⟨st, h0, h1, h2⟩ := ih
  refine ⟨fun k => match k with | 0 => S | k + 1 => st k, rfl, h1, fun k hk => ?_⟩
  cases k with
  | zero =>
   show OneOk S l (st 0)
   rw [h0]
   exact h
  | succ k => exact h2 k (by simpa using hk)
theorem lines_cat : ∀ (a b : List UInt8), (∀ c ∈ a, c ≠ 10) → lines (a ++ 10 :: b) = a :: lines b
 | [], b, _ => by simp [lines]
 | c :: a, b, h => by
  have ih := lines_cat a b (fun d hd => h d (List.mem_cons_of_mem _ hd))
  rw [List.cons_append]
  conv => lhs; unfold lines
  rw [if_neg (h c (by simp)), ih]
def takeL (at_ : Nat) : List Lab → List Lab × List Lab
 | [] => ([], [])
 | x :: l => if x.2 = at_ then (x :: (takeL at_ l).1, (takeL at_ l).2) else ([], x :: l)
theorem takeL_at (at_ : Nat) : ∀ l, takeAt at_ l = (labText (takeL at_ l).1, (takeL at_ l).2)
 | [] => rfl
 | x :: l => by
  unfold takeAt takeL
  split
  · rw [takeL_at at_ l]; simp [labText]
  · rfl
theorem takeL_all (at_ : Nat) : ∀ l, (takeL at_ l).1 ++ (takeL at_ l).2 = l
 | [] => rfl
 | x :: l => by
  unfold takeL
  split
  · simp [takeL_all at_ l]
  · rfl
theorem takeL_is (at_ : Nat) : ∀ l, ∀ x ∈ (takeL at_ l).1, x.2 = at_
 | [] => by intro x hx; cases hx
 | y :: l => by
  unfold takeL
  split
  · rename_i h
    intro x hx
    rcases List.mem_cons.1 hx with rfl | hx
    · exact h
    · exact takeL_is at_ l x hx
  · intro x hx; cases hx
inductive Ev where
 | lab (n : List UInt8)
 | wd (x at_ : Nat)
def evLine : Ev → List UInt8
 | .lab n => n ++ [58]
 | .wd x a => 9 :: (lineText x a).data.toList
def evs : Nat → List Nat → List Lab → List Ev
 | at_, [], ls => (takeL at_ ls).1.map fun x => .lab x.1
 | at_, x :: ws, ls => ((takeL at_ ls).1.map fun x => .lab x.1) ++ .wd x at_ :: evs (at_ + 4) ws (takeL at_ ls).2
theorem labs_lines : ∀ (l : List Lab), labText l = (l.map fun x => Ev.lab x.1).flatMap fun e => evLine e ++ [10]
 | [] => rfl
 | x :: l => by
  have ih := labs_lines l
  simp only [List.map_cons, List.flatMap_cons, ← ih]
  simp [labText, evLine]
theorem body_evs : ∀ (ws : List Nat) (at_ : Nat) (ls : List Lab), disBody at_ ws ls = (evs at_ ws ls).flatMap fun e => evLine e ++ [10]
 | [], at_, ls => by
  unfold disBody evs
  rw [takeL_at]
  exact labs_lines _
 | x :: ws, at_, ls => by
  unfold disBody evs
  rw [takeL_at, List.flatMap_append, List.flatMap_cons, ← labs_lines, ← body_evs ws]
  simp [oneLine, evLine]
theorem evs_lines : ∀ (l : List Ev), (∀ e ∈ l, ∀ c ∈ evLine e, c ≠ 10) → lines (l.flatMap fun e => evLine e ++ [10]) = l.map evLine ++ [[]]
 | [], _ => rfl
 | e :: l, h => by
  rw [List.flatMap_cons, List.append_assoc, List.singleton_append, lines_cat _ _ (h e (by simp)), evs_lines l (fun e he => h e (List.mem_cons_of_mem _ he))]
  rfl
theorem span_full (p : UInt8 → Bool) : ∀ l : List UInt8, span p l = l.length → ∀ c ∈ l, p c = true
 | [], _ => by intro c hc; cases hc
 | c :: l, h => by
  unfold span at h
  by_cases hp : p c = true
  · rw [if_pos hp] at h
    have ih := span_full p l (by simpa using h)
    intro d hd
    rcases List.mem_cons.1 hd with rfl | hd
    · exact hp
    · exact ih d hd
  · rw [if_neg hp] at h
    simp at h
theorem name_bytes {n : List UInt8} (h : nameOk n = true) : ∃ c w, n = c :: w ∧ letter c = true ∧ (∀ d ∈ w, wordByte d = true) ∧ n.length ≤ 16 := by
 cases n with
 | nil => simp [nameOk] at h
 | cons c w =>
  have hl := nameOk_len h
  unfold nameOk at h
  simp only [Bool.and_eq_true, decide_eq_true_eq] at h
  obtain ⟨⟨⟨_, _⟩, hc⟩, hs⟩ := h
  have hall := span_full nameByte (c :: w) (by simpa using hs)
  refine ⟨c, w, rfl, hc, fun d hd => ?_, hl⟩
  have := hall d (List.mem_cons_of_mem _ hd)
  unfold nameByte at this
  simp only [Bool.and_eq_true] at this
  exact this.2
theorem hash_split : ∀ l : List UInt8, (∀ c ∈ l, c ≠ 35) ∨ ∃ a b, l = a ++ 35 :: b ∧ ∀ c ∈ a, c ≠ 35
 | [] => .inl (by intro c hc; cases hc)
 | c :: l => by
  by_cases h : c = 35
  · exact .inr ⟨[], l, by simp [h], by intro c hc; cases hc⟩
  · rcases hash_split l with h1 | ⟨a, b, rfl, h1⟩
    · exact .inl (by intro d hd; rcases List.mem_cons.1 hd with rfl | hd; exact h; exact h1 d hd)
    · exact .inr ⟨c :: a, b, rfl, by intro d hd; rcases List.mem_cons.1 hd with rfl | hd; exact h; exact h1 d hd⟩
theorem tk_tab (s : List UInt8) : tk (9 :: s) = tk s := by
 unfold tk
 have e : trim (9 :: s) = trim s := by simp [trim, Lib.trimLeftS, blanks]
 rw [toks_fuel (s.length + 1) (s.length + 1 + 1) s (by omega) (by omega)]
 simp only [List.length_cons]
 unfold toks
 rw [e]
theorem tab_tokens (l : List UInt8) : tokens (9 :: l) = tokens l := by
 have hc : ∀ a : List UInt8, (∀ c ∈ a, c ≠ 35) → ∀ c ∈ (9 :: a), c ≠ 35 := by
  intro a h c hc
  rcases List.mem_cons.1 hc with rfl | hc
  · decide
  · exact h c hc
 rcases hash_split l with h | ⟨a, b, rfl, h⟩
 · rw [tokens_plain _ h, tokens_plain _ (hc l h), tk_tab]
 · rw [tokens_hash _ _ h, ← List.cons_append, tokens_hash _ _ (hc a h), tk_tab]
theorem lab_tokens {n : List UInt8} (h : nameOk n = true) : tokens (n ++ [58]) = some [⟨0, n, 0⟩, ⟨2, [58], 0⟩] := by
 obtain ⟨c, w, rfl, hc, hw, _⟩ := name_bytes h
 rw [tokens_plain _ (by
  intro d hd
  have key : ∀ d, wordByte d = true → d ≠ 35 := by
   intro d hd e
   subst e
   exact absurd hd (by decide)
  rcases List.mem_append.1 hd with hd | hd
  · rcases List.mem_cons.1 hd with rfl | hd
    · exact key _ (by simp [wordByte, hc])
    · exact key _ (hw d hd)
  · simp at hd; subst hd; decide), tk_word c w [58] hc hw (ends_cons (by decide)), tk_sign 58 [] (by simp), tk_nil]
 rfl
theorem head_tokens (o : Nat) (ho : o < 4294967296) : tokens ([46, 111, 114, 103, 32] ++ Hex.eight o) = some [⟨0, [46, 111, 114, 103], 0⟩, ⟨1, Hex.eight o, (o : Int)⟩] := by
 rw [tokens_plain _ (by
  intro c hc
  rcases List.mem_append.1 hc with hc | hc
  · have key : ∀ d ∈ ([46, 111, 114, 103, 32] : List UInt8), d ≠ 35 := by decide
    exact key c hc
  · exact eight_nohash o ho c hc)]
 have h1 := tk_word 46 [111, 114, 103] (32 :: Hex.eight o) (by decide) (by decide) (ends_cons (by decide))
 rw [show ([46, 111, 114, 103, 32] : List UInt8) ++ Hex.eight o = 46 :: [111, 114, 103] ++ 32 :: Hex.eight o from rfl, h1, tk_blank]
 have h2 := tk_hex o (by omega) [] ends_nil
 rw [List.append_nil] at h2
 rw [h2, tk_nil]
 rfl
end Asm
end Go.Proofs.YtabmlbnnhhpaoaaGreatDoor
namespace Go.Proofs.YtabmlbnnhhpaoaaGreatDoor
open Go.RowKit Go.Shelf
namespace Asm
structure At (o : Nat) (S : PS) (a : Nat) (seen : List (List UInt8)) (m : Nat) : Prop where
 line : S.line = (m : Int)
 toks : S.toks = []
 fresh : S.fresh = []
 origin : S.origin = (o : Int)
 pos : o + 4 * S.count = a
 count : S.count ≤ m
 puts : S.puts ≤ m
 labels : S.labels.length ≤ m
 pieces : S.pieces.length ≤ m
 seen : ∀ n, n ∉ seen → Maps.has S.places (.string n) = false
theorem At.bnd {o : Nat} {S : PS} {a : Nat} {seen : List (List UInt8)} {m : Nat} (h : At o S a seen m) (ho : o ≤ 4294967296) (hm : m ≤ 900000) : Bnd S := by
 have h1 := h.count; have h2 := h.puts; have h3 := h.labels; have h4 := h.pieces
 exact ⟨by rw [h.origin]; omega, by rw [h.origin]; omega, by omega, by omega, by omega, by omega, by rw [h.line]; omega, by rw [h.line]; omega⟩
theorem At.posI {o : Nat} {S : PS} {a : Nat} {seen : List (List UInt8)} {m : Nat} (h : At o S a seen m) : S.pos = (a : Int) := by
 unfold PS.pos; rw [h.origin]; have := h.pos; omega
theorem lab_step {o : Nat} {S : PS} {a : Nat} {seen : List (List UInt8)} {m : Nat} (h : At o S a seen m) (ho : o ≤ 4294967296) (hm : m ≤ 900000) {n : List UInt8} (hn : nameOk n = true) (hs : n ∉ seen) (ha : a < 4294967296) :
 ∃ S1, OneOk S (n ++ [58]) S1 ∧ At o S1 a (n :: seen) (m + 1) ∧ S1.labels = S.labels ++ [(n, (a : Int))] ∧ S1.pieces = S.pieces := by
 have hb := h.bnd ho hm
 have hl := nameOk_len hn
 have hpos : ({ S with line := S.line + 1, toks := [], fresh := [n] } : PS).pos = (a : Int) := h.posI
 have hf : S.fresh ++ [n] = [n] := by rw [h.fresh]; rfl
 have hmk : markOk { S with line := S.line + 1, toks := [], fresh := S.fresh ++ [n] } = true := by
  rw [hf]
  show (decide (n.length ≤ 1000000) && !Maps.has S.places (.string n) && decide (({ S with line := S.line + 1, toks := [], fresh := [n] } : PS).pos < 4294967296)) = true
  rw [hpos, h.seen n hs]
  simp
  omega
 refine ⟨marked { S with line := S.line + 1, toks := [], fresh := S.fresh ++ [n] }, fun B w hP => ?_, ?_, ?_, ?_⟩
 · exact one_LBx (n ++ [58]) (by simp; omega) B S ⟨0, n, 0⟩ ⟨2, [58], 0⟩ rfl (by show n.length ≤ _; omega) hn ⟨rfl, rfl⟩ (lab_tokens hn) hb (by rw [h.line]; omega) (by rw [h.fresh]; decide) hmk w hP
 · rw [hf]
   refine ⟨by show S.line + 1 = _; rw [h.line]; omega, rfl, rfl, h.origin, h.pos, by show S.count ≤ _; have := h.count; omega, by show S.puts + 1 ≤ _; have := h.puts; omega, ?_, by show S.pieces.length ≤ _; have := h.pieces; omega, ?_⟩
   · show (S.labels ++ _).length ≤ _
     have := h.labels
     simp
     omega
   · intro k hk
     show Maps.has (S.places.put (.string n) _) (.string k) = false
     rw [Maps.has_put_other (fun e => hk (by injection e with e; subst e; simp))]
     exact h.seen k (fun hh => hk (List.mem_cons_of_mem _ hh))
 · rw [hf]
   show S.labels ++ [(n, _)] = _
   rw [hpos]
 · rw [hf]; rfl
theorem labs_steps {o t a : Nat} (ho : o ≤ 4294967296) : ∀ (l : List Lab) {S : PS} {seen : List (List UInt8)} {m : Nat} (rest : List Lab), At o S a seen m → m + l.length ≤ 900000 → labelsOk o t seen (l ++ rest) = true → (∀ x ∈ l, x.2 = a) → (∀ x ∈ l, x.2 < 4294967296) →
 ∃ S1 seen', Steps S (l.map fun x => evLine (.lab x.1)) S1 ∧ At o S1 a seen' (m + l.length) ∧ labelsOk o t seen' rest = true ∧ S1.labels = S.labels ++ l.map (fun x => (x.1, (x.2 : Int))) ∧ S1.pieces = S.pieces
 | [], S, seen, m, rest, h, _, hk, _, _ => ⟨S, seen, .nil S, h, hk, by simp, rfl⟩
 | x :: l, S, seen, m, rest, h, hm, hk, hx, hx2 => by
  rw [List.cons_append] at hk
  unfold labelsOk at hk
  simp only [Bool.and_eq_true, Bool.not_eq_true', decide_eq_true_eq] at hk
  obtain ⟨hn, hs, _, _, _, hr⟩ := hk
  have hxa := hx x (by simp)
  have hlt := hx2 x (by simp)
  simp only [List.length_cons] at hm
  obtain ⟨S1, h1, h2, h3, h4⟩ := lab_step h ho (by omega) hn (by intro hc; rw [List.contains_iff_mem.2 hc] at hs; cases hs) (by omega)
  obtain ⟨S2, seen', k1, k2, k3, k4, k5⟩ := labs_steps ho l rest h2 (by omega) hr (fun y hy => hx y (List.mem_cons_of_mem _ hy)) (fun y hy => hx2 y (List.mem_cons_of_mem _ hy))
  refine ⟨S2, seen', .cons h1 k1, by rw [List.length_cons, show m + (l.length + 1) = m + 1 + l.length by omega]; exact k2, k3, ?_, k5.trans h4⟩
  rw [k4, h3, List.map_cons, hxa]
  simp
theorem word_step {o : Nat} {S : PS} {a : Nat} {seen : List (List UInt8)} {m : Nat} (h : At o S a seen m) (ho : o ≤ 4294967296) (hm : m ≤ 900000) {x : Nat} (hx : x < 4294967296) (hc : S.count < 4096) (ha : a + 4 ≤ 4294967296) :
 ∃ S1, OneOk S (evLine (.wd x a)) S1 ∧ At o S1 (a + 4) seen (m + 1) ∧ S1.labels = S.labels ∧ S1.pieces = S.pieces ++ [wordPiece x ((m : Int) + 1) (a : Int)] ∧ S1.count = S.count + 1 := by
 have hb := h.bnd ho hm
 have hsz := lineText_size x a hx (by omega)
 have hll : (lineText x a).data.toList.length ≤ 220 := by rw [Array.length_toList]; exact hsz
 have h1 := line_one x a hx (9 :: (lineText x a).data.toList) (by simp only [List.length_cons]; omega) (tab_tokens _) S hb (by rw [h.line]; omega) h.fresh hc (by rw [h.posI]; omega)
 have hmk : marked { S with line := S.line + 1, toks := [] } = { S with line := S.line + 1, toks := [] } := by unfold marked; rw [show ({ S with line := S.line + 1, toks := [] } : PS).fresh = [] from h.fresh]
 have hpc := h.count; have h2 := h.puts; have h3 := h.labels; have h4 := h.pieces; have h5 := h.pos
 refine ⟨_, h1, ?_, ?_, ?_, rfl⟩
 · unfold pushedX
   rw [hmk]
   exact ⟨by show S.line + 1 = _; rw [h.line]; omega, rfl, h.fresh, h.origin, by show o + 4 * (S.count + 1) = _; omega, by show S.count + 1 ≤ _; omega, by show S.puts ≤ _; omega, by show S.labels.length ≤ _; omega, by show (S.pieces ++ [_]).length ≤ _; simp; omega, h.seen⟩
 · unfold pushedX; rw [hmk]
 · unfold pushedX; rw [hmk, h.line, h.posI]
theorem rises_le : ∀ (l : List Lab) (x : Lab), rises (x :: l) = true → ∀ y ∈ l, x.2 ≤ y.2
 | [], x, _ => by intro y hy; cases hy
 | z :: l, x, h => by
  have h' : (decide (x.2 ≤ z.2) && rises (z :: l)) = true := h
  simp only [Bool.and_eq_true, decide_eq_true_eq] at h'
  intro y hy
  rcases List.mem_cons.1 hy with rfl | hy
  · exact h'.1
  · exact Nat.le_trans h'.1 (rises_le l z h'.2 y hy)
theorem rises_tail {x : Lab} {l : List Lab} (h : rises (x :: l) = true) : rises l = true := by
 cases l with
 | nil => rfl
 | cons z l =>
  have h' : (decide (x.2 ≤ z.2) && rises (z :: l)) = true := h
  simp only [Bool.and_eq_true] at h'
  exact h'.2
theorem takeL_rises (a : Nat) : ∀ l : List Lab, rises l = true → rises (takeL a l).2 = true
 | [], _ => rfl
 | x :: l, h => by
  unfold takeL
  split
  · exact takeL_rises a l (rises_tail h)
  · exact h
theorem takeL_rest (a : Nat) : ∀ l : List Lab, rises l = true → (∀ x ∈ l, a ≤ x.2) → ∀ x ∈ (takeL a l).2, a < x.2
 | [], _, _ => by intro x hx; cases hx
 | y :: l, h, hl => by
  unfold takeL
  split
  · exact takeL_rest a l (rises_tail h) (fun x hx => hl x (List.mem_cons_of_mem _ hx))
  · rename_i hne
    have hy := hl y (by simp)
    intro x hx
    rcases List.mem_cons.1 hx with rfl | hx
    · omega
    · have := rises_le l y h x hx; omega
theorem takeL_full (a : Nat) : ∀ l : List Lab, (∀ x ∈ l, x.2 = a) → takeL a l = (l, [])
 | [], _ => rfl
 | y :: l, h => by
  unfold takeL
  rw [if_pos (h y (by simp)), takeL_full a l (fun x hx => h x (List.mem_cons_of_mem _ hx))]
theorem labelsOk_mem (o t : Nat) : ∀ (l : List Lab) (seen : List (List UInt8)), labelsOk o t seen l = true → ∀ x ∈ l, x.2 % 4 = 0 ∧ o ≤ x.2 ∧ x.2 ≤ t ∧ nameOk x.1 = true
 | [], _, _ => by intro x hx; cases hx
 | y :: l, seen, h => by
  unfold labelsOk at h
  simp only [Bool.and_eq_true, decide_eq_true_eq] at h
  intro x hx
  rcases List.mem_cons.1 hx with rfl | hx
  · exact ⟨h.2.2.1, h.2.2.2.1, h.2.2.2.2.1, h.1⟩
  · exact labelsOk_mem o t l _ h.2.2.2.2.2 x hx
theorem body_steps {o t : Nat} (ho : o ≤ 4294967296) : ∀ (ws : List Nat) (a : Nat) (ls : List Lab) {S : PS} {seen : List (List UInt8)} {m : Nat}, At o S a seen m → labelsOk o t seen ls = true → rises ls = true → (∀ x ∈ ls, a ≤ x.2 ∧ x.2 < 4294967296) → a % 4 = 0 → t = a + 4 * ws.length → t ≤ 4294967296 → S.count + ws.length ≤ 4096 → (∀ x ∈ ws, x < 4294967296) → m + (evs a ws ls).length ≤ 900000 →
 ∃ S' seen' m', Steps S ((evs a ws ls).map evLine) S' ∧ At o S' t seen' m' ∧ m' ≤ 900000 ∧ S'.labels = S.labels ++ ls.map (fun x => (x.1, (x.2 : Int))) ∧ ∃ ps, S'.pieces = S.pieces ++ ps ∧ (∀ S2 x, x ∈ ps → PieceOk S2 x) ∧ ∀ S2, ps.flatMap (wordsOf S2) = ws.map (fun x : Nat => (x : Int))
 | [], a, ls, S, seen, m, h, hk, hr, hl, ha, ht, ht2, hc, hws, hm => by
  have hall : ∀ x ∈ ls, x.2 = a := fun x hx => by
   have h1 := (labelsOk_mem o t ls seen hk x hx).2.2.1
   have h2 := (hl x hx).1
   simp at ht
   omega
  have e : evs a [] ls = ls.map fun x => .lab x.1 := by rw [evs, takeL_full a ls hall]
  rw [e] at hm ⊢
  obtain ⟨S1, seen', k1, k2, k3, k4, k5⟩ := labs_steps (t := t) ho ls [] h (by simpa using hm) (by simpa using hk) hall (fun x hx => (hl x hx).2)
  refine ⟨S1, seen', _, by rw [List.map_map]; exact k1, by simp at ht; rw [ht]; exact k2, by simpa using hm, k4, [], by simpa using k5, (by intro _ x hx; cases hx), fun _ => rfl⟩
 | x :: ws, a, ls, S, seen, m, h, hk, hr, hl, ha, ht, ht2, hc, hws, hm => by
  have e : evs a (x :: ws) ls = ((takeL a ls).1.map fun x => .lab x.1) ++ .wd x a :: evs (a + 4) ws (takeL a ls).2 := by rw [evs]
  rw [e] at hm ⊢
  simp only [List.length_append, List.length_map, List.length_cons] at hm
  simp only [List.length_cons] at ht hc
  have hall := takeL_all a ls
  have hin1 : ∀ y ∈ (takeL a ls).1, y ∈ ls := fun y hy => by rw [← hall]; exact List.mem_append_left _ hy
  have hin2 : ∀ y ∈ (takeL a ls).2, y ∈ ls := fun y hy => by rw [← hall]; exact List.mem_append_right _ hy
  obtain ⟨S1, seen1, k1, k2, k3, k4, k5⟩ := labs_steps (t := t) ho (takeL a ls).1 (takeL a ls).2 h (by omega) (by rw [hall]; exact hk) (takeL_is a ls) (fun y hy => (hl y (hin1 y hy)).2)
  have hcnt : S1.count = S.count := by have h1 := k2.pos; have h2 := h.pos; omega
  obtain ⟨S2, j1, j2, j3, j4, j5⟩ := word_step k2 ho (by omega) (hws x (by simp)) (by omega) (by omega)
  obtain ⟨S3, seen3, m3, i1, i2, i3, i4, ps, i5, i6, i7⟩ := body_steps ho ws (a + 4) (takeL a ls).2 j2 k3 (takeL_rises a ls hr) (fun y hy => by
   have h1 := takeL_rest a ls hr (fun z hz => (hl z hz).1) y hy
   have h2 := (labelsOk_mem o t ls seen hk y (hin2 y hy)).1
   exact ⟨by omega, (hl y (hin2 y hy)).2⟩) (by omega) (by omega) ht2 (by omega) (fun y hy => hws y (List.mem_cons_of_mem _ hy)) (by omega)
  have hpc := fun S2 => wordPiece_ok x (hws x (by simp)) ((((m + (takeL a ls).1.length : Nat)) : Int) + 1) (a : Int) (by omega) (by omega) S2
  refine ⟨S3, seen3, m3, ?_, i2, i3, ?_, wordPiece x (((m + (takeL a ls).1.length : Nat) : Int) + 1) (a : Int) :: ps, ?_, ?_, ?_⟩
  · rw [List.map_append, List.map_map, List.map_cons]
    exact k1.append (.cons j1 i1)
  · rw [i4, j3, k4, List.append_assoc, ← List.map_append, hall]
  · rw [i5, j4, k5]
    simp
  · intro S2 y hy
    rcases List.mem_cons.1 hy with rfl | hy
    · exact (hpc S2).1
    · exact i6 S2 y hy
  · intro S2
    rw [List.flatMap_cons, (hpc S2).2, i7 S2]
    rfl
theorem evs_len : ∀ l : List Ev, l.length ≤ (l.flatMap fun e => evLine e ++ [10]).length
 | [] => Nat.le_refl _
 | e :: l => by
  have := evs_len l
  rw [List.flatMap_cons, List.length_append, List.length_append]
  simp only [List.length_cons, List.length_nil]
  omega
theorem evs_nonl : ∀ (ws : List Nat) (a : Nat) (ls : List Lab), (∀ x ∈ ls, nameOk x.1 = true) → (∀ x ∈ ws, x < 4294967296) → ∀ e ∈ evs a ws ls, ∀ c ∈ evLine e, c ≠ 10 := by
 have hlab : ∀ n : List UInt8, nameOk n = true → ∀ c ∈ evLine (.lab n), c ≠ 10 := by
  intro n hn c hc
  obtain ⟨b, w, rfl, hb, hw, _⟩ := name_bytes hn
  have key : ∀ d, wordByte d = true → d ≠ 10 := by
   intro d hd e
   subst e
   exact absurd hd (by decide)
  rcases List.mem_append.1 hc with hc | hc
  · rcases List.mem_cons.1 hc with rfl | hc
    · exact key _ (by simp [wordByte, hb])
    · exact key _ (hw c hc)
  · simp at hc; subst hc; decide
 intro ws
 induction ws with
 | nil =>
  intro a ls hl _ e he
  unfold evs at he
  obtain ⟨x, hx, rfl⟩ := List.mem_map.1 he
  exact hlab _ (hl x (by rw [← takeL_all a ls]; exact List.mem_append_left _ hx))
 | cons x ws ih =>
  intro a ls hl hws e he
  unfold evs at he
  rcases List.mem_append.1 he with he | he
  · obtain ⟨x, hx, rfl⟩ := List.mem_map.1 he
    exact hlab _ (hl x (by rw [← takeL_all a ls]; exact List.mem_append_left _ hx))
  · rcases List.mem_cons.1 he with rfl | he
    · intro c hc
      rcases List.mem_cons.1 hc with rfl | hc
      · decide
      · exact line_nonl x a (hws x (by simp)) c hc
    · exact ih (a + 4) _ (fun y hy => hl y (by rw [← takeL_all a ls]; exact List.mem_append_right _ hy)) (fun y hy => hws y (List.mem_cons_of_mem _ hy)) e he
theorem text_lines (o : Nat) (ws : List Nat) (ls : List Lab) (ho : o < 4294967296) (hl : ∀ x ∈ ls, nameOk x.1 = true) (hws : ∀ x ∈ ws, x < 4294967296) :
 lines (disText o ws ls) = ([46, 111, 114, 103, 32] ++ Hex.eight o) :: ((evs o ws ls).map evLine ++ [[]]) := by
 unfold disText disHead
 rw [List.append_assoc ([46, 111, 114, 103, 32] ++ Hex.eight o), List.singleton_append, lines_cat _ _ (by
  intro c hc
  rcases List.mem_append.1 hc with hc | hc
  · have key : ∀ d ∈ ([46, 111, 114, 103, 32] : List UInt8), d ≠ 10 := by decide
    exact key c hc
  · exact eight_nonl o ho c hc), body_evs, evs_lines _ (evs_nonl ws o ls hl hws)]
end Asm
end Go.Proofs.YtabmlbnnhhpaoaaGreatDoor
namespace Go.Proofs.YtabmlbnnhhpaoaaGreatDoor
open Go.RowKit Go.Shelf
namespace Asm
theorem back_steps (o : Nat) (ws : List Nat) (ls : List Lab) (ho : o < 4294967296) (hws : ∀ x ∈ ws, x < 4294967296) (hx : ∀ x ∈ ls, x.2 < 4294967296) (hs : sound o ws.length ls = true) (hlen : (disText o ws ls).length ≤ 20000) :
 ∃ S, Steps init (lines (disText o ws ls)) S ∧ S.toks = [] ∧ Bnd S ∧ S.origin = (o : Int) ∧ S.labels = ls.map (fun x => (x.1, (x.2 : Int))) ∧ (∀ x ∈ S.pieces, PieceOk S x) ∧ wordsTo S S.pieces.length = ws.map wordCells := by
 unfold sound at hs
 simp only [Bool.and_eq_true, decide_eq_true_eq] at hs
 obtain ⟨h4, hn, ht, hk, hr⟩ := hs
 have hmem := labelsOk_mem o _ ls [] hk
 rw [text_lines o ws ls ho (fun x hx => (hmem x hx).2.2.2) hws]
 have hel : (evs o ws ls).length ≤ 20000 := by
  have h1 := evs_len (evs o ws ls)
  rw [← body_evs] at h1
  have h2 : (disText o ws ls).length = (disHead o).length + (disBody o ws ls).length := by unfold disText; rw [List.length_append]
  omega
 have hhd : OneOk init ([46, 111, 114, 103, 32] ++ Hex.eight o) { init with line := init.line + 1, toks := [], origin := (o : Int), placed := true } := fun B w hP =>
  one_NO _ (by rw [List.length_append, Hex.eight_len o ho]; decide) ⟨0, [46, 111, 114, 103], 0⟩ ⟨1, Hex.eight o, (o : Int)⟩ (head_tokens o ho) rfl rfl rfl (by show (0 : Int) ≤ (o : Int); omega) (by show (o : Int) < 4294967296; omega) (by show (o : Int) % 4 = 0; omega) B init ⟨by decide, by decide, by decide, by decide, by decide, by decide, by decide, by decide⟩ (by decide) (by decide) rfl rfl w hP
 have hat : At o { init with line := init.line + 1, toks := [], origin := (o : Int), placed := true } o [] 1 :=
  ⟨rfl, rfl, rfl, rfl, by show o + 4 * 0 = o; omega, by show 0 ≤ 1; decide, by show 0 ≤ 1; decide, by show 0 ≤ 1; decide, by show 0 ≤ 1; decide, fun n _ => rfl⟩
 obtain ⟨S', seen', m', k1, k2, k3, k4, ps, k5, k6, k7⟩ := body_steps (t := o + 4 * ws.length) (by omega) ws o ls hat hk hr (fun x hx' => ⟨(hmem x hx').2.1, hx x hx'⟩) h4 rfl ht (by show 0 + ws.length ≤ 4096; omega) hws (by omega)
 have hb := k2.bnd (by omega) k3
 have hmk : marked { S' with line := S'.line + 1, toks := [], fresh := S'.fresh } = { S' with line := S'.line + 1, toks := [] } := by
  unfold marked
  rw [show ({ S' with line := S'.line + 1, toks := [], fresh := S'.fresh } : PS).fresh = [] from k2.fresh]
 have hend : OneOk S' [] { S' with line := S'.line + 1, toks := [] } := fun B w hP => by
  have h := one_NBx [] (by decide) B S' (by decide +kernel) hb (by rw [k2.line]; omega) (by rw [k2.fresh]; decide) (by unfold markOk; rw [show ({ S' with line := S'.line + 1, toks := [], fresh := S'.fresh } : PS).fresh = [] from k2.fresh]) w hP
  rw [hmk] at h
  exact h
 have hps : S'.pieces = ps := by rw [k5]; rfl
 refine ⟨{ S' with line := S'.line + 1, toks := [] }, .cons hhd (k1.append (.cons hend (.nil _))), rfl, ⟨hb.o0, hb.o1, hb.c, hb.puts, hb.labels, hb.pieces, ?_, ?_⟩, k2.origin, k4, ?_, ?_⟩
 · show 0 ≤ S'.line + 1; rw [k2.line]; omega
 · show S'.line + 1 ≤ 1000000; rw [k2.line]; omega
 · intro x hx'
   exact k6 _ x (by rw [← hps]; exact hx')
 · unfold wordsTo
   show (S'.pieces.take S'.pieces.length).flatMap _ = _
   rw [List.take_length, hps, ← List.map_flatMap, k7, List.map_map]
   rfl
end Asm
theorem back_assemble (o : Nat) (ws : List Nat) (ls : List Asm.Lab) (ho : o < 4294967296) (hws : ∀ x ∈ ws, x < 4294967296) (hx : ∀ x ∈ ls, x.2 < 4294967296) (hs : Asm.sound o ws.length ls = true) (hlen : (Asm.disText o ws ls).length ≤ 20000) (w : World) (hL : Isa.Laid w) :
 Calls Tryz.prog 13 #[.string ⟨(Asm.disText o ws ls).toArray⟩] w fun e w' => (∃ vW vL, e = .returned (.tuple #[.agg #[.int .u32 (o : Int), vW, vL], .int .i64 0, .int .i64 0]) ∧ w'.ownsRow w.heap.size 23 1 vW ws.length (ws.map Asm.wordCells) ∧ w'.ownsRow w.heap.size 42 2 vL ls.length (ls.flatMap Asm.labCells)) ∧ Below w.heap.size w w' := by
 obtain ⟨S, h1, h2, h3, h4, h5, h6, h7⟩ := Asm.back_steps o ws ls ho hws hx hs hlen
 obtain ⟨st, s0, s1, s2⟩ := h1.states
 refine (assemble_calls _ hlen st s0 s2 S s1 h2 h3 h6 w hL).mono ?_
 rintro e w' ⟨⟨vW, vL, rfl, k1, k2⟩, hb⟩
 have ho' : S.origin % 4294967296 = (o : Int) := by rw [h4]; omega
 rw [h7, List.length_map] at k1
 have hl1 : S.labels.length = ls.length := by rw [h5, List.length_map]
 have hl2 : S.labels.flatMap Asm.labelCells = ls.flatMap Asm.labCells := by
  rw [h5, List.flatMap_map]
  rfl
 rw [hl1, hl2] at k2
 exact ⟨⟨vW, vL, by rw [ho'], k1, k2⟩, hb⟩
end Go.Proofs.YtabmlbnnhhpaoaaGreatDoor
