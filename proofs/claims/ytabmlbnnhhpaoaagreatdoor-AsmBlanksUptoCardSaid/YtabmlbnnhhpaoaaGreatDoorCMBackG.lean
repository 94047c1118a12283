/- What this claim needs of BackLaw, BackSteps. -/
import Derived.Test.YtabmlbnnhhpaoaaGreatDoorBMAsmWordG
import Derived.Test.YtabmlbnnhhpaoaaGreatDoorTMAsmOnes
set_option linter.unusedSimpArgs false
set_option linter.unusedVariables false
namespace Go.Proofs.YtabmlbnnhhpaoaaGreatDoor
open Go.RowKit Go.Shelf
namespace Asm
inductive Steps : PS → List (List UInt8) → PS → Prop
 | nil (S : PS) : Steps S [] S
 | cons {S S1 S2 : PS} {l : List UInt8} {ls : List (List UInt8)} (h : OneOk S l S1) (k : Steps S1 ls S2) : Steps S (l :: ls) S2
theorem Steps.states {S S2 : PS} {ls : List (List UInt8)} (h : Steps S ls S2) : ∃ st : Nat → PS, st 0 = S ∧ st ls.length = S2 ∧ ∀ k (hk : k < ls.length), OneOk (st k) ls[k] (st (k + 1)) := by
 induction h with
 | nil S => exact ⟨fun _ => S, rfl, rfl, fun k hk => absurd hk (by simp)⟩
 | @cons S S1 S2 l ls h _ ih =>
  obtain ⟨st, h0, h1, h2⟩ := ih
  refine ⟨fun k => match k with | 0 => S | k + 1 => st k, rfl, h1, fun k hk => ?_⟩
  cases k with
  | zero =>
   show OneOk S l (st 0)
   rw [h0]
   exact h
  | succ k => exact h2 k (by simpa using hk)
theorem lines_cat : ∀ (a b : List UInt8), (∀ c ∈ a, c ≠ 10) → lines (a ++ 10 :: b) = a :: lines b
 | [], b, _ => by simp [lines]
 | c :: a, b, h => by
  have ih := lines_cat a b (fun d hd => h d (List.mem_cons_of_mem _ hd))
  rw [List.cons_append]
  conv => lhs; unfold lines
  rw [if_neg (h c (by simp)), ih]
def takeL (at_ : Nat) : List Lab → List Lab × List Lab
 | [] => ([], [])
 | x :: l => if x.2 = at_ then (x :: (takeL at_ l).1, (takeL at_ l).2) else ([], x :: l)
theorem takeL_at (at_ : Nat) : ∀ l, takeAt at_ l = (labText (takeL at_ l).1, (takeL at_ l).2)
 | [] => rfl
 | x :: l => by
  unfold takeAt takeL
  split
  · rw [takeL_at at_ l]; simp [labText]
  · rfl
theorem takeL_all (at_ : Nat) : ∀ l, (takeL at_ l).1 ++ (takeL at_ l).2 = l
 | [] => rfl
 | x :: l => by
  unfold takeL
  split
  · simp [takeL_all at_ l]
  · rfl
theorem takeL_is (at_ : Nat) : ∀ l, ∀ x ∈ (takeL at_ l).1, x.2 = at_
 | [] => by intro x hx; cases hx
 | y :: l => by
  unfold takeL
  split
  · rename_i h
    intro x hx
    rcases List.mem_cons.1 hx with rfl | hx
    · exact h
    · exact takeL_is at_ l x hx
  · intro x hx; cases hx
inductive Ev where
 | lab (n : List UInt8)
 | wd (x at_ : Nat)
def evLine : Ev → List UInt8
 | .lab n => n ++ [58]
 | .wd x a => 9 :: (lineText x a).data.toList
def evs : Nat → List Nat → List Lab → List Ev
 | at_, [], ls => (takeL at_ ls).1.map fun x => .lab x.1
 | at_, x :: ws, ls => ((takeL at_ ls).1.map fun x => .lab x.1) ++ .wd x at_ :: evs (at_ + 4) ws (takeL at_ ls).2
theorem labs_lines : ∀ (l : List Lab), labText l = (l.map fun x => Ev.lab x.1).flatMap fun e => evLine e ++ [10]
 | [] => rfl
 | x :: l => by
  have ih := labs_lines l
  simp only [List.map_cons, List.flatMap_cons, ← ih]
  simp [labText, evLine]
theorem body_evs : ∀ (ws : List Nat) (at_ : Nat) (ls : List Lab), disBody at_ ws ls = (evs at_ ws ls).flatMap fun e => evLine e ++ [10]
 | [], at_, ls => by
  unfold disBody evs
  rw [takeL_at]
  exact labs_lines _
 | x :: ws, at_, ls => by
  unfold disBody evs
  rw [takeL_at, List.flatMap_append, List.flatMap_cons, ← labs_lines, ← body_evs ws]
  simp [oneLine, evLine]
theorem span_full (p : UInt8 → Bool) : ∀ l : List UInt8, span p l = l.length → ∀ c ∈ l, p c = true
 | [], _ => by intro c hc; cases hc
 | c :: l, h => by
  unfold span at h
  by_cases hp : p c = true
  · rw [if_pos hp] at h
    have ih := span_full p l (by simpa using h)
    intro d hd
    rcases List.mem_cons.1 hd with rfl | hd
    · exact hp
    · exact ih d hd
  · rw [if_neg hp] at h
    simp at h
theorem name_bytes {n : List UInt8} (h : nameOk n = true) : ∃ c w, n = c :: w ∧ letter c = true ∧ (∀ d ∈ w, wordByte d = true) ∧ n.length ≤ 16 := by
 cases n with
 | nil => simp [nameOk] at h
 | cons c w =>
  have hl := nameOk_len h
  unfold nameOk at h
  simp only [Bool.and_eq_true, decide_eq_true_eq] at h
  obtain ⟨⟨⟨_, _⟩, hc⟩, hs⟩ := h
  have hall := span_full nameByte (c :: w) (by simpa using hs)
  refine ⟨c, w, rfl, hc, fun d hd => ?_, hl⟩
  have := hall d (List.mem_cons_of_mem _ hd)
  unfold nameByte at this
  simp only [Bool.and_eq_true] at this
  exact this.2
theorem hash_split : ∀ l : List UInt8, (∀ c ∈ l, c ≠ 35) ∨ ∃ a b, l = a ++ 35 :: b ∧ ∀ c ∈ a, c ≠ 35
 | [] => .inl (by intro c hc; cases hc)
 | c :: l => by
  by_cases h : c = 35
  · exact .inr ⟨[], l, by simp [h], by intro c hc; cases hc⟩
  · rcases hash_split l with h1 | ⟨a, b, rfl, h1⟩
    · exact .inl (by intro d hd; rcases List.mem_cons.1 hd with rfl | hd; exact h; exact h1 d hd)
    · exact .inr ⟨c :: a, b, rfl, by intro d hd; rcases List.mem_cons.1 hd with rfl | hd; exact h; exact h1 d hd⟩
theorem tk_tab (s : List UInt8) : tk (9 :: s) = tk s := by
 unfold tk
 have e : trim (9 :: s) = trim s := by simp [trim, Lib.trimLeftS, blanks]
 rw [toks_fuel (s.length + 1) (s.length + 1 + 1) s (by omega) (by omega)]
 simp only [List.length_cons]
 unfold toks
 rw [e]
theorem tab_tokens (l : List UInt8) : tokens (9 :: l) = tokens l := by
 have hc : ∀ a : List UInt8, (∀ c ∈ a, c ≠ 35) → ∀ c ∈ (9 :: a), c ≠ 35 := by
  intro a h c hc
  rcases List.mem_cons.1 hc with rfl | hc
  · decide
  · exact h c hc
 rcases hash_split l with h | ⟨a, b, rfl, h⟩
 · rw [tokens_plain _ h, tokens_plain _ (hc l h), tk_tab]
 · rw [tokens_hash _ _ h, ← List.cons_append, tokens_hash _ _ (hc a h), tk_tab]
theorem lab_tokens {n : List UInt8} (h : nameOk n = true) : tokens (n ++ [58]) = some [⟨0, n, 0⟩, ⟨2, [58], 0⟩] := by
 obtain ⟨c, w, rfl, hc, hw, _⟩ := name_bytes h
 rw [tokens_plain _ (by
  intro d hd
  have key : ∀ d, wordByte d = true → d ≠ 35 := by
   intro d hd e
   subst e
   exact absurd hd (by decide)
  rcases List.mem_append.1 hd with hd | hd
  · rcases List.mem_cons.1 hd with rfl | hd
    · exact key _ (by simp [wordByte, hc])
    · exact key _ (hw d hd)
  · simp at hd; subst hd; decide), tk_word c w [58] hc hw (ends_cons (by decide)), tk_sign 58 [] (by simp), tk_nil]
 rfl
theorem head_tokens (o : Nat) (ho : o < 4294967296) : tokens ([46, 111, 114, 103, 32] ++ Hex.eight o) = some [⟨0, [46, 111, 114, 103], 0⟩, ⟨1, Hex.eight o, (o : Int)⟩] := by
 rw [tokens_plain _ (by
  intro c hc
  rcases List.mem_append.1 hc with hc | hc
  · have key : ∀ d ∈ ([46, 111, 114, 103, 32] : List UInt8), d ≠ 35 := by decide
    exact key c hc
  · exact eight_nohash o ho c hc)]
 have h1 := tk_word 46 [111, 114, 103] (32 :: Hex.eight o) (by decide) (by decide) (ends_cons (by decide))
 rw [show ([46, 111, 114, 103, 32] : List UInt8) ++ Hex.eight o = 46 :: [111, 114, 103] ++ 32 :: Hex.eight o from rfl, h1, tk_blank]
 have h2 := tk_hex o (by omega) [] ends_nil
 rw [List.append_nil] at h2
 rw [h2, tk_nil]
 rfl
end Asm
end Go.Proofs.YtabmlbnnhhpaoaaGreatDoor
namespace Go.Proofs.YtabmlbnnhhpaoaaGreatDoor
open Go.RowKit Go.Shelf
namespace Asm
structure At (o : Nat) (S : PS) (a : Nat) (seen : List (List UInt8)) (m : Nat) : Prop where
 line : S.line = (m : Int)
 toks : S.toks = []
 fresh : S.fresh = []
 origin : S.origin = (o : Int)
 pos : o + 4 * S.count = a
 count : S.count ≤ m
 puts : S.puts ≤ m
 labels : S.labels.length ≤ m
 pieces : S.pieces.length ≤ m
 seen : ∀ n, n ∉ seen → Maps.has S.places (.string n) = false
theorem At.bnd {o : Nat} {S : PS} {a : Nat} {seen : List (List UInt8)} {m : Nat} (h : At o S a seen m) (ho : o ≤ 4294967296) (hm : m ≤ 900000) : Bnd S := by
 have h1 := h.count; have h2 := h.puts; have h3 := h.labels; have h4 := h.pieces
 exact ⟨by rw [h.origin]; omega, by rw [h.origin]; omega, by omega, by omega, by omega, by omega, by rw [h.line]; omega, by rw [h.line]; omega⟩
theorem At.posI {o : Nat} {S : PS} {a : Nat} {seen : List (List UInt8)} {m : Nat} (h : At o S a seen m) : S.pos = (a : Int) := by
 unfold PS.pos; rw [h.origin]; have := h.pos; omega
theorem rises_le : ∀ (l : List Lab) (x : Lab), rises (x :: l) = true → ∀ y ∈ l, x.2 ≤ y.2
 | [], x, _ => by intro y hy; cases hy
 | z :: l, x, h => by
  have h' : (decide (x.2 ≤ z.2) && rises (z :: l)) = true := h
  simp only [Bool.and_eq_true, decide_eq_true_eq] at h'
  intro y hy
  rcases List.mem_cons.1 hy with rfl | hy
  · exact h'.1
  · exact Nat.le_trans h'.1 (rises_le l z h'.2 y hy)
theorem rises_tail {x : Lab} {l : List Lab} (h : rises (x :: l) = true) : rises l = true := by
 cases l with
 | nil => rfl
 | cons z l =>
  have h' : (decide (x.2 ≤ z.2) && rises (z :: l)) = true := h
  simp only [Bool.and_eq_true] at h'
  exact h'.2
theorem takeL_rises (a : Nat) : ∀ l : List Lab, rises l = true → rises (takeL a l).2 = true
 | [], _ => rfl
 | x :: l, h => by
  unfold takeL
  split
  · exact takeL_rises a l (rises_tail h)
  · exact h
theorem takeL_rest (a : Nat) : ∀ l : List Lab, rises l = true → (∀ x ∈ l, a ≤ x.2) → ∀ x ∈ (takeL a l).2, a < x.2
 | [], _, _ => by intro x hx; cases hx
 | y :: l, h, hl => by
  unfold takeL
  split
  · exact takeL_rest a l (rises_tail h) (fun x hx => hl x (List.mem_cons_of_mem _ hx))
  · rename_i hne
    have hy := hl y (by simp)
    intro x hx
    rcases List.mem_cons.1 hx with rfl | hx
    · omega
    · have := rises_le l y h x hx; omega
theorem takeL_full (a : Nat) : ∀ l : List Lab, (∀ x ∈ l, x.2 = a) → takeL a l = (l, [])
 | [], _ => rfl
 | y :: l, h => by
  unfold takeL
  rw [if_pos (h y (by simp)), takeL_full a l (fun x hx => h x (List.mem_cons_of_mem _ hx))]
theorem labelsOk_mem (o t : Nat) : ∀ (l : List Lab) (seen : List (List UInt8)), labelsOk o t seen l = true → ∀ x ∈ l, x.2 % 4 = 0 ∧ o ≤ x.2 ∧ x.2 ≤ t ∧ nameOk x.1 = true
 | [], _, _ => by intro x hx; cases hx
 | y :: l, seen, h => by
  unfold labelsOk at h
  simp only [Bool.and_eq_true, decide_eq_true_eq] at h
  intro x hx
  rcases List.mem_cons.1 hx with rfl | hx
  · exact ⟨h.2.2.1, h.2.2.2.1, h.2.2.2.2.1, h.1⟩
  · exact labelsOk_mem o t l _ h.2.2.2.2.2 x hx
theorem evs_nonl : ∀ (ws : List Nat) (a : Nat) (ls : List Lab), (∀ x ∈ ls, nameOk x.1 = true) → (∀ x ∈ ws, x < 4294967296) → ∀ e ∈ evs a ws ls, ∀ c ∈ evLine e, c ≠ 10 := by
 have hlab : ∀ n : List UInt8, nameOk n = true → ∀ c ∈ evLine (.lab n), c ≠ 10 := by
  intro n hn c hc
  obtain ⟨b, w, rfl, hb, hw, _⟩ := name_bytes hn
  have key : ∀ d, wordByte d = true → d ≠ 10 := by
   intro d hd e
   subst e
   exact absurd hd (by decide)
  rcases List.mem_append.1 hc with hc | hc
  · rcases List.mem_cons.1 hc with rfl | hc
    · exact key _ (by simp [wordByte, hb])
    · exact key _ (hw c hc)
  · simp at hc; subst hc; decide
 intro ws
 induction ws with
 | nil =>
  intro a ls hl _ e he
  unfold evs at he
  obtain ⟨x, hx, rfl⟩ := List.mem_map.1 he
  exact hlab _ (hl x (by rw [← takeL_all a ls]; exact List.mem_append_left _ hx))
 | cons x ws ih =>
  intro a ls hl hws e he
  unfold evs at he
  rcases List.mem_append.1 he with he | he
  · obtain ⟨x, hx, rfl⟩ := List.mem_map.1 he
    exact hlab _ (hl x (by rw [← takeL_all a ls]; exact List.mem_append_left _ hx))
  · rcases List.mem_cons.1 he with rfl | he
    · intro c hc
      rcases List.mem_cons.1 hc with rfl | hc
      · decide
      · exact line_nonl x a (hws x (by simp)) c hc
    · exact ih (a + 4) _ (fun y hy => hl y (by rw [← takeL_all a ls]; exact List.mem_append_right _ hy)) (fun y hy => hws y (List.mem_cons_of_mem _ hy)) e he
end Asm
end Go.Proofs.YtabmlbnnhhpaoaaGreatDoor
