/- What this claim needs of TokLaw, TokLine. -/
import Derived.Test.YtabmlbnnhhpaoaaGreatDoorTMAsmTok
import Derived.Test.YtabmlbnnhhpaoaaGreatDoorBMAsmHexG
import Derived.Test.YtabmlbnnhhpaoaaGreatDoorTMIsaTextB
import Derived.Test.YtabmlbnnhhpaoaaGreatDoorBMAsmDisG
set_option linter.unusedSimpArgs false
set_option linter.unusedVariables false
namespace Go.Proofs.YtabmlbnnhhpaoaaGreatDoor
open Go.RowKit Go.Shelf
namespace Asm
def tk (s : List UInt8) : Option (List Tok) := toks (s.length + 1) s
def Ends (r : List UInt8) : Prop := ∀ c, r.head? = some c → wordByte c = false
theorem ends_cons {c : UInt8} {r : List UInt8} (h : wordByte c = false) : Ends (c :: r) := by intro d hd; simp at hd; exact hd ▸ h
theorem span_all (p : UInt8 → Bool) : ∀ (l r : List UInt8), (∀ c ∈ l, p c = true) → (∀ c, r.head? = some c → p c = false) → span p (l ++ r) = l.length
 | [], [], _, _ => rfl
 | [], c :: r, _, h => by simp [span, h c rfl]
 | c :: l, r, h, hr => by
  rw [List.cons_append, span, if_pos (h c (by simp)), span_all p l r (fun d hd => h d (by simp [hd])) hr]
  rfl
theorem tk_nil : tk [] = some [] := by simp [tk, toks, trim, Lib.trimLeftS]
theorem trim_at {c : UInt8} (r : List UInt8) (h1 : c ≠ 32) (h2 : c ≠ 9) : trim (c :: r) = c :: r := by
 simp [trim, Lib.trimLeftS, blanks, h1, h2]
theorem tk_step {c : UInt8} {r : List UInt8} {t : Tok} (h1 : c ≠ 32) (h2 : c ≠ 9) (hk : tok c (c :: r) = some t) : tk (c :: r) = (tk ((c :: r).drop t.bytes.length)).map (t :: ·) :=
 toks_step (trim_at r h1 h2) hk
theorem letter_not {c : UInt8} (h : letter c = true) : c ≠ 32 ∧ c ≠ 9 := by
 constructor <;> (rintro rfl; simp [letter] at h)
theorem tk_word (c : UInt8) (w r : List UInt8) (h0 : letter c = true) (hw : ∀ d ∈ w, wordByte d = true) (hr : Ends r) : tk (c :: w ++ r) = (tk r).map (⟨0, c :: w, 0⟩ :: ·) := by
 have hs : span wordByte (c :: w ++ r) = (c :: w).length := span_all _ _ _ (fun d hd => by
  rcases List.mem_cons.1 hd with rfl | h
  · simp [wordByte, h0]
  · exact hw d h) hr
 have hk : tok c (c :: (w ++ r)) = some ⟨0, c :: w, 0⟩ := by
  unfold tok
  rw [if_pos h0, ← List.cons_append, hs, List.take_left]
 obtain ⟨n1, n2⟩ := letter_not h0
 rw [List.cons_append, tk_step n1 n2 hk, ← List.cons_append, List.drop_left]
theorem tk_sign (c : UInt8) (r : List UInt8) (h : c = 44 ∨ c = 58 ∨ c = 40 ∨ c = 41) : tk (c :: r) = (tk r).map (⟨2, [c], 0⟩ :: ·) := by
 rcases h with rfl | rfl | rfl | rfl
 all_goals
  exact tk_step (by decide) (by decide) (by rfl)
end Asm
end Go.Proofs.YtabmlbnnhhpaoaaGreatDoor
namespace Go.Proofs.YtabmlbnnhhpaoaaGreatDoor
open Go.RowKit Go.Shelf
namespace Asm
theorem hash_none : ∀ (l : List UInt8), (∀ c ∈ l, c ≠ 35) → Lib.indexByte l 35 = -1
 | [], _ => rfl
 | c :: l, h => by
  have hc := h c (by simp)
  have ih := hash_none l (fun d hd => h d (by simp [hd]))
  simp [Lib.indexByte, hc, ih]
theorem tokens_plain (l : List UInt8) (h : ∀ c ∈ l, c ≠ 35) : tokens l = tk l := by
 unfold tokens beforeHash
 rw [hash_none l h, if_pos (by decide)]
 rfl
end Asm
end Go.Proofs.YtabmlbnnhhpaoaaGreatDoor
