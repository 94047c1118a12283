/- What this claim needs of BackLaw. -/
import Derived.Test.YtabmlbnnhhpaoaaGreatDoorDMAsmWordG
import Derived.Test.YtabmlbnnhhpaoaaGreatDoorDMAsmOnes
set_option linter.unusedSimpArgs false
set_option linter.unusedVariables false
namespace Go.Proofs.YtabmlbnnhhpaoaaGreatDoor
open Go.RowKit Go.Shelf
namespace Asm
inductive Steps : PS → List (List UInt8) → PS → Prop
 | nil (S : PS) : Steps S [] S
 | cons {S S1 S2 : PS} {l : List UInt8} {ls : List (List UInt8)} (h : OneOk S l S1) (k : Steps S1 ls S2) : Steps S (l :: ls) S2
theorem Steps.append {S S1 S2 : PS} {l1 l2 : List (List UInt8)} (h : Steps S l1 S1) (k : Steps S1 l2 S2) : Steps S (l1 ++ l2) S2 := by
 induction h with
 | nil S => exact k
 | cons h _ ih => exact .cons h (ih k)
theorem Steps.states {S S2 : PS} {ls : List (List UInt8)} (h : Steps S ls S2) : ∃ st : Nat → PS, st 0 = S ∧ st ls.length = S2 ∧ ∀ k (hk : k < ls.length), OneOk (st k) ls[k] (st (k + 1)) := by
 induction h with
 | nil S => exact ⟨fun _ => S, rfl, rfl, fun k hk => absurd hk (by simp)⟩
 | @cons S S1 S2 l ls h _ ih =>
  obtain ⟨st, h0, h1, h2⟩ := ih
  refine ⟨fun k => match k with | 0 => S | k + 1 => st k, rfl, h1, fun k hk => ?_⟩
  cases k with
  | zero =>
   show OneOk S l (st 0)
   rw [h0]
   exact h
  | succ k => exact h2 k (by simpa using hk)
theorem lines_cat : ∀ (a b : List UInt8), (∀ c ∈ a, c ≠ 10) → lines (a ++ 10 :: b) = a :: lines b
 | [], b, _ => by simp [lines]
 | c :: a, b, h => by
  have ih := lines_cat a b (fun d hd => h d (List.mem_cons_of_mem _ hd))
  rw [List.cons_append]
  conv => lhs; unfold lines
  rw [if_neg (h c (by simp)), ih]
theorem span_full (p : UInt8 → Bool) : ∀ l : List UInt8, span p l = l.length → ∀ c ∈ l, p c = true
 | [], _ => by intro c hc; cases hc
 | c :: l, h => by
  unfold span at h
  by_cases hp : p c = true
  · rw [if_pos hp] at h
    have ih := span_full p l (by simpa using h)
    intro d hd
    rcases List.mem_cons.1 hd with rfl | hd
    · exact hp
    · exact ih d hd
  · rw [if_neg hp] at h
    simp at h
theorem name_bytes {n : List UInt8} (h : nameOk n = true) : ∃ c w, n = c :: w ∧ letter c = true ∧ (∀ d ∈ w, wordByte d = true) ∧ n.length ≤ 16 := by
 cases n with
 | nil => simp [nameOk] at h
 | cons c w =>
  have hl := nameOk_len h
  unfold nameOk at h
  simp only [Bool.and_eq_true, decide_eq_true_eq] at h
  obtain ⟨⟨⟨_, _⟩, hc⟩, hs⟩ := h
  have hall := span_full nameByte (c :: w) (by simpa using hs)
  refine ⟨c, w, rfl, hc, fun d hd => ?_, hl⟩
  have := hall d (List.mem_cons_of_mem _ hd)
  unfold nameByte at this
  simp only [Bool.and_eq_true] at this
  exact this.2
theorem lab_tokens {n : List UInt8} (h : nameOk n = true) : tokens (n ++ [58]) = some [⟨0, n, 0⟩, ⟨2, [58], 0⟩] := by
 obtain ⟨c, w, rfl, hc, hw, _⟩ := name_bytes h
 rw [tokens_plain _ (by
  intro d hd
  have key : ∀ d, wordByte d = true → d ≠ 35 := by
   intro d hd e
   subst e
   exact absurd hd (by decide)
  rcases List.mem_append.1 hd with hd | hd
  · rcases List.mem_cons.1 hd with rfl | hd
    · exact key _ (by simp [wordByte, hc])
    · exact key _ (hw d hd)
  · simp at hd; subst hd; decide), tk_word c w [58] hc hw (ends_cons (by decide)), tk_sign 58 [] (by simp), tk_nil]
 rfl
end Asm
end Go.Proofs.YtabmlbnnhhpaoaaGreatDoor
