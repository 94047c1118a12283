/- What this claim needs of TokLaw, TokLine, TokNl. -/
import Derived.Test.YtabmlbnnhhpaoaaGreatDoorEMAsmTok
import Derived.Test.YtabmlbnnhhpaoaaGreatDoorEMAsmHexG
import Derived.Test.YtabmlbnnhhpaoaaGreatDoorEMIsaTextB
import Derived.Test.YtabmlbnnhhpaoaaGreatDoorEMAsmDisG
import Derived.Test.YtabmlbnnhhpaoaaGreatDoorUMAsmSplitG
set_option linter.unusedSimpArgs false
set_option linter.unusedVariables false
namespace Go.Proofs.YtabmlbnnhhpaoaaGreatDoor
open Go.RowKit Go.Shelf
namespace Asm
def tk (s : List UInt8) : Option (List Tok) := toks (s.length + 1) s
def Ends (r : List UInt8) : Prop := ∀ c, r.head? = some c → wordByte c = false
theorem ends_nil : Ends [] := by intro c h; cases h
theorem ends_cons {c : UInt8} {r : List UInt8} (h : wordByte c = false) : Ends (c :: r) := by intro d hd; simp at hd; exact hd ▸ h
theorem span_all (p : UInt8 → Bool) : ∀ (l r : List UInt8), (∀ c ∈ l, p c = true) → (∀ c, r.head? = some c → p c = false) → span p (l ++ r) = l.length
 | [], [], _, _ => rfl
 | [], c :: r, _, h => by simp [span, h c rfl]
 | c :: l, r, h, hr => by
  rw [List.cons_append, span, if_pos (h c (by simp)), span_all p l r (fun d hd => h d (by simp [hd])) hr]
  rfl
theorem tk_nil : tk [] = some [] := by simp [tk, toks, trim, Lib.trimLeftS]
theorem tk_blank (s : List UInt8) : tk (32 :: s) = tk s := by
 unfold tk
 have e : trim (32 :: s) = trim s := by simp [trim, Lib.trimLeftS, blanks]
 rw [toks_fuel (s.length + 1) (s.length + 1 + 1) s (by omega) (by omega)]
 simp only [List.length_cons]
 unfold toks
 rw [e]
theorem trim_at {c : UInt8} (r : List UInt8) (h1 : c ≠ 32) (h2 : c ≠ 9) : trim (c :: r) = c :: r := by
 simp [trim, Lib.trimLeftS, blanks, h1, h2]
theorem tk_step {c : UInt8} {r : List UInt8} {t : Tok} (h1 : c ≠ 32) (h2 : c ≠ 9) (hk : tok c (c :: r) = some t) : tk (c :: r) = (tk ((c :: r).drop t.bytes.length)).map (t :: ·) :=
 toks_step (trim_at r h1 h2) hk
theorem letter_not {c : UInt8} (h : letter c = true) : c ≠ 32 ∧ c ≠ 9 := by
 constructor <;> (rintro rfl; simp [letter] at h)
theorem digit_not {c : UInt8} (h : digit c = true) : c ≠ 32 ∧ c ≠ 9 ∧ letter c = false := by
 refine ⟨?_, ?_, ?_⟩
 · rintro rfl; simp [digit] at h
 · rintro rfl; simp [digit] at h
 · simp only [digit, Bool.and_eq_true, decide_eq_true_eq] at h
   simp only [letter, Bool.or_eq_false_iff, Bool.and_eq_false_iff, decide_eq_false_iff_not]
   omega
theorem tk_word (c : UInt8) (w r : List UInt8) (h0 : letter c = true) (hw : ∀ d ∈ w, wordByte d = true) (hr : Ends r) : tk (c :: w ++ r) = (tk r).map (⟨0, c :: w, 0⟩ :: ·) := by
 have hs : span wordByte (c :: w ++ r) = (c :: w).length := span_all _ _ _ (fun d hd => by
  rcases List.mem_cons.1 hd with rfl | h
  · simp [wordByte, h0]
  · exact hw d h) hr
 have hk : tok c (c :: (w ++ r)) = some ⟨0, c :: w, 0⟩ := by
  unfold tok
  rw [if_pos h0, ← List.cons_append, hs, List.take_left]
 obtain ⟨n1, n2⟩ := letter_not h0
 rw [List.cons_append, tk_step n1 n2 hk, ← List.cons_append, List.drop_left]
theorem tk_sign (c : UInt8) (r : List UInt8) (h : c = 44 ∨ c = 58 ∨ c = 40 ∨ c = 41) : tk (c :: r) = (tk r).map (⟨2, [c], 0⟩ :: ·) := by
 rcases h with rfl | rfl | rfl | rfl
 all_goals
  exact tk_step (by decide) (by decide) (by rfl)
theorem no_hex (l r : List UInt8) (hl : l ≠ []) (hd : ∀ c ∈ l, digit c = true) (hr : Ends r) : Lib.hasPrefix (l ++ r) [48, 120] = false := by
 match l, hl, hd with
 | [c], _, hd =>
  match r, hr with
  | [], _ => simp [Lib.hasPrefix, List.isPrefixOf]
  | d :: r, hr =>
   have hx : d ≠ 120 := by rintro rfl; have := hr 120 rfl; simp [wordByte, letter] at this
   simp [Lib.hasPrefix, List.isPrefixOf]
   intro _ e
   exact absurd e.symm hx
 | c :: d :: l, _, hd =>
  have h2 := hd d (by simp)
  have hx : d ≠ 120 := by rintro rfl; simp [digit] at h2
  simp [Lib.hasPrefix, List.isPrefixOf]
  intro _ e
  exact absurd e.symm hx
theorem val_digit : ∀ u : Fin 10, val false (UInt8.ofNat (48 + u.1)) = (u.1 : Int) := by decide +kernel
theorem val_hex : ∀ u : Fin 16, val true (Hex.dig u.1) = (u.1 : Int) := by decide +kernel
theorem val_none (hex : Bool) (c : UInt8) (h : wordByte c = false) : decide (0 ≤ val hex c) = false := by
 have key : ∀ (b : Bool) (n : Fin 256), wordByte (UInt8.ofNat n.1) = false → decide (0 ≤ val b (UInt8.ofNat n.1)) = false := by decide +kernel
 have := key hex ⟨c.toNat, c.toNat_lt⟩
 simp only [UInt8.ofNat_toNat] at this
 exact this h
theorem dec_facts : ∀ (k u : Nat), u ≤ k → (∀ c ∈ Lib.decDigits u, digit c = true ∧ decide (0 ≤ val false c) = true) ∧ Lib.decDigits u ≠ [] ∧ (1 < (Lib.decDigits u).length → (Lib.decDigits u)[0]? ≠ some 48) ∧ (1 ≤ u → (Lib.decDigits u)[0]? ≠ some 48) ∧ (u < 1099511627776 → fold false (Lib.decDigits u) = (u : Int)) := by
 intro k
 induction k with
 | zero =>
  intro u hu
  obtain rfl : u = 0 := by omega
  refine ⟨by decide +kernel, by decide +kernel, by decide +kernel, by omega, fun _ => by decide +kernel⟩
 | succ k ih =>
  intro u hu
  have hdg : ∀ v : Fin 10, digit (UInt8.ofNat (48 + v.1)) = true ∧ decide (0 ≤ val false (UInt8.ofNat (48 + v.1))) = true ∧ (1 ≤ v.1 → UInt8.ofNat (48 + v.1) ≠ 48) := by decide +kernel
  by_cases h : u < 10
  · rw [Lib.decDigits_one h]
    have hv := hdg ⟨u, h⟩
    refine ⟨fun c hc => ?_, by simp, by simp, fun h1 => ?_, fun _ => ?_⟩
    · rw [List.mem_singleton] at hc; subst hc; exact ⟨hv.1, hv.2.1⟩
    · simpa using hv.2.2 h1
    · have := val_digit ⟨u, h⟩
      simp only at this
      simp only [fold, List.foldl_cons, List.foldl_nil, step, this, base, hugest]
      simp
      omega
  · have e : Lib.decDigits u = Lib.decDigits (u / 10) ++ [UInt8.ofNat (48 + u % 10)] := by rw [Lib.decDigits, dif_neg h]
    obtain ⟨i1, i2, i3, i4, i5⟩ := ih (u / 10) (by omega)
    have hv := hdg ⟨u % 10, by omega⟩
    have i6 := i4 (by omega)
    have i7 : (Lib.decDigits u)[0]? ≠ some 48 := by
     rw [e]
     cases hd : Lib.decDigits (u / 10) with
     | nil => exact absurd hd i2
     | cons a l => rw [hd] at i6; simpa using i6
    refine ⟨fun c hc => ?_, by rw [e]; simp, fun _ => i7, fun _ => i7, fun hb => ?_⟩
    · rw [e] at hc
      rcases List.mem_append.1 hc with hc | hc
      · exact i1 c hc
      · rw [List.mem_singleton] at hc; subst hc; exact ⟨hv.1, hv.2.1⟩
    · have := val_digit ⟨u % 10, by omega⟩
      simp only at this
      rw [e, fold_snoc, i5 (by omega)]
      simp only [step, this, base, hugest]
      simp
      omega
theorem ends_val {hex : Bool} {r : List UInt8} (hr : Ends r) : ∀ c, r.head? = some c → decide (0 ≤ val hex c) = false := fun c h => val_none hex c (hr c h)
theorem ends_at (l r : List UInt8) : (l ++ r)[l.length]? = r.head? := by
 rw [List.getElem?_append_right (Nat.le_refl _), Nat.sub_self, List.head?_eq_getElem?]
theorem noNum_false {s r l : List UInt8} (hr : Ends r) (hd : digits s = l ++ r) (hs : size s = l.length) (hl : 0 < l.length) (hz : hex s = true ∨ (1 < l.length → l[0]? ≠ some 48)) : noNum s = false := by
 unfold noNum
 rw [hs, hd, ends_at, List.getElem?_append_left hl]
 have h3 : (match r.head? with | some c => letter c || digit c | none => false) = false := by
  cases h : r.head? with
  | none => rfl
  | some c => exact hr c h
 simp only [Bool.or_eq_false_iff, decide_eq_false_iff_not]
 refine ⟨⟨by omega, ?_⟩, h3⟩
 rcases hz with hz | hz
 · simp [hz]
 · by_cases h1 : 1 < l.length
   · have := hz h1
     simp [this]
   · simp [h1]
theorem tok_num {c : UInt8} {r : List UInt8} (h : letter c = false) (h2 : (digit c || decide (c.toNat = 45)) = true) (hn : noNum (c :: r) = false) : tok c (c :: r) = some ⟨1, (c :: r).take (numLen (c :: r)), numVal (c :: r)⟩ := by
 unfold tok
 rw [if_neg (by simp [h]), if_pos h2, if_neg (by simp [hn])]
theorem num_facts (n : Int) (h0 : -1099511627776 < n) (h1 : n < 1099511627776) (r : List UInt8) (hr : Ends r) : noNum (Lib.itoa n ++ r) = false ∧ numLen (Lib.itoa n ++ r) = (Lib.itoa n).length ∧ numVal (Lib.itoa n ++ r) = n := by
 have main : ∀ (u : Nat) (s : List UInt8), u < 1099511627776 → body s = Lib.decDigits u ++ r → noNum s = false ∧ numLen s = s.length - (Lib.decDigits u ++ r).length + (Lib.decDigits u).length ∧ numAbs s = (u : Int) := by
  intro u s hu hb
  obtain ⟨f1, f2, f3, _, f5⟩ := dec_facts u u (Nat.le_refl _)
  have hx : hex s = false := by
   unfold hex
   rw [hb]
   exact no_hex _ _ f2 (fun c hc => (f1 c hc).1) hr
  have hd : digits s = Lib.decDigits u ++ r := by
   have hx2 := hx
   unfold hex at hx2
   unfold digits Lib.trimPrefix
   rw [hx2, hb]
   simp
  have hs : size s = (Lib.decDigits u).length := by
   unfold size
   rw [hx, hd]
   exact span_all _ _ _ (fun c hc => (f1 c hc).2) (ends_val hr)
  have hpos : 0 < (Lib.decDigits u).length := List.length_pos_iff.2 f2
  refine ⟨?_, ?_, ?_⟩
  · exact noNum_false hr hd hs hpos (.inr f3)
  · unfold numLen
    rw [hd, hs]
  · unfold numAbs
    rw [hx, hd, hs, List.take_left]
    exact f5 hu
 by_cases hn : n < 0
 · obtain ⟨u, hu⟩ : ∃ u : Nat, n = -(u : Int) := ⟨n.natAbs, by omega⟩
   have e : Lib.itoa n = 45 :: Lib.decDigits u := by
    unfold Lib.itoa
    rw [if_pos hn, show n.natAbs = u by omega]
   have hb : body (Lib.itoa n ++ r) = Lib.decDigits u ++ r := by rw [e]; simp [body, Lib.trimPrefix, Lib.hasPrefix, List.isPrefixOf]
   obtain ⟨g1, g2, g3⟩ := main u _ (by omega) hb
   refine ⟨g1, ?_, ?_⟩
   · rw [g2, e]; simp; omega
   · unfold numVal
     rw [g3, show minus (Lib.itoa n ++ r) = true by rw [e]; simp [minus, Lib.hasPrefix, List.isPrefixOf], if_pos rfl, hu]
 · obtain ⟨u, rfl⟩ : ∃ u : Nat, n = (u : Int) := ⟨n.toNat, by omega⟩
   have e : Lib.itoa (u : Int) = Lib.decDigits u := by rw [Lib.itoa_nonneg]
   obtain ⟨f1, f2, _⟩ := dec_facts u u (Nat.le_refl _)
   have hm : Lib.hasPrefix (Lib.itoa (u : Int) ++ r) [45] = false := by
    rw [e]
    cases hd : Lib.decDigits u with
    | nil => exact absurd hd f2
    | cons a l =>
     have ha := (f1 a (by rw [hd]; simp)).1
     have hx : a ≠ 45 := by rintro rfl; simp [digit] at ha
     simp [Lib.hasPrefix, List.isPrefixOf]
     exact fun e => hx e.symm
   have hb : body (Lib.itoa (u : Int) ++ r) = Lib.decDigits u ++ r := by
    unfold body Lib.trimPrefix
    rw [hm, e]
    simp
   obtain ⟨g1, g2, g3⟩ := main u _ (by omega) hb
   refine ⟨g1, ?_, ?_⟩
   · rw [g2, e]; simp
   · unfold numVal minus
     rw [g3, hm]
     simp
theorem tk_num (n : Int) (h0 : -1099511627776 < n) (h1 : n < 1099511627776) (r : List UInt8) (hr : Ends r) : tk (Lib.itoa n ++ r) = (tk r).map (⟨1, Lib.itoa n, n⟩ :: ·) := by
 obtain ⟨g1, g2, g3⟩ := num_facts n h0 h1 r hr
 have hc : ∃ c l, Lib.itoa n = c :: l ∧ letter c = false ∧ (digit c || decide (c.toNat = 45)) = true ∧ c ≠ 32 ∧ c ≠ 9 := by
  by_cases hn : n < 0
  · exact ⟨45, Lib.decDigits n.natAbs, by unfold Lib.itoa; rw [if_pos hn], by decide, by decide, by decide, by decide⟩
  · obtain ⟨u, rfl⟩ : ∃ u : Nat, n = (u : Int) := ⟨n.toNat, by omega⟩
    obtain ⟨f1, f2, _⟩ := dec_facts u u (Nat.le_refl _)
    rw [Lib.itoa_nonneg]
    cases hd : Lib.decDigits u with
    | nil => exact absurd hd f2
    | cons a l =>
     have ha := (f1 a (by rw [hd]; simp)).1
     obtain ⟨x1, x2, x3⟩ := digit_not ha
     exact ⟨a, l, rfl, x3, by simp [ha], x1, x2⟩
 obtain ⟨c, l, e, hl, hd, n1, n2⟩ := hc
 have hk : tok c (c :: (l ++ r)) = some ⟨1, Lib.itoa n, n⟩ := by
  rw [e, List.cons_append] at g1 g2 g3
  rw [tok_num hl hd g1, g2, g3, ← List.cons_append, List.take_left, ← e]
 rw [e, List.cons_append, tk_step n1 n2 hk]
 simp only
 rw [e, ← List.cons_append, List.drop_left]
theorem hex_facts : ∀ (k n : Nat), n ≤ k → (∀ c ∈ Hex.text n, decide (0 ≤ val true c) = true) ∧ (n < 1099511627776 → fold true (Hex.text n) = (n : Int)) := by
 intro k
 induction k with
 | zero =>
  intro n hn
  obtain rfl : n = 0 := by omega
  exact ⟨by decide +kernel, fun _ => by decide +kernel⟩
 | succ k ih =>
  intro n hn
  by_cases h : n < 16
  · rw [Hex.text_small n h]
    have hv := val_hex ⟨n, h⟩
    simp only at hv
    refine ⟨fun c hc => ?_, fun _ => ?_⟩
    · rw [List.mem_singleton] at hc; subst hc; rw [hv]; simp
    · simp only [fold, List.foldl_cons, List.foldl_nil, step, hv, base, hugest]
      simp
      omega
  · obtain ⟨i1, i2⟩ := ih (n / 16) (by omega)
    have hv := val_hex ⟨n % 16, by omega⟩
    simp only at hv
    rw [Hex.text_big n h]
    refine ⟨fun c hc => ?_, fun hb => ?_⟩
    · rcases List.mem_append.1 hc with hc | hc
      · exact i1 c hc
      · rw [List.mem_singleton] at hc; subst hc; rw [hv]; simp; omega
    · rw [fold_snoc, i2 (by omega)]
      simp only [step, hv, base, hugest]
      simp
      omega
theorem fold_zeros (l : List UInt8) : ∀ z, fold true (List.replicate z 48 ++ l) = fold true l
 | 0 => rfl
 | z + 1 => by
  have h0 : step true 0 48 = 0 := by decide +kernel
  rw [List.replicate_succ, List.cons_append]
  show List.foldl (step true) (step true 0 48) (List.replicate z 48 ++ l) = _
  rw [h0]
  exact fold_zeros l z
theorem hexnum_facts (n : Nat) (h1 : n < 1099511627776) (r : List UInt8) (hr : Ends r) : noNum (Hex.eight n ++ r) = false ∧ numLen (Hex.eight n ++ r) = (Hex.eight n).length ∧ numVal (Hex.eight n ++ r) = (n : Int) := by
 obtain ⟨l, hl⟩ : ∃ l, List.replicate (8 - (Hex.text n).length) (48 : UInt8) ++ Hex.text n = l := ⟨_, rfl⟩
 have e : Hex.eight n = [48, 120] ++ l := by rw [Hex.eight, List.append_assoc, hl]
 obtain ⟨f1, f2⟩ := hex_facts n n (Nat.le_refl _)
 have hm : Lib.hasPrefix (Hex.eight n ++ r) [45] = false := by rw [e]; simp [Lib.hasPrefix, List.isPrefixOf]
 have hb : body (Hex.eight n ++ r) = [48, 120] ++ (l ++ r) := by
  unfold body Lib.trimPrefix
  rw [hm, e, List.append_assoc]
  simp
 have hx : hex (Hex.eight n ++ r) = true := by unfold hex; rw [hb]; simp [Lib.hasPrefix, List.isPrefixOf]
 have hd : digits (Hex.eight n ++ r) = l ++ r := by
  have hx2 := hx
  unfold hex at hx2
  unfold digits Lib.trimPrefix
  rw [hx2, hb]
  simp
 have hs : size (Hex.eight n ++ r) = l.length := by
  unfold size
  rw [hx, hd]
  refine span_all _ _ _ (fun c hc => ?_) (ends_val hr)
  rw [← hl] at hc
  rcases List.mem_append.1 hc with hc | hc
  · obtain rfl := List.eq_of_mem_replicate hc
    decide +kernel
  · exact f1 c hc
 have hp := Hex.text_pos n
 have hll : 0 < l.length := by rw [← hl]; simp; omega
 refine ⟨noNum_false hr hd hs hll (.inl hx), ?_, ?_⟩
 · unfold numLen
   rw [hd, hs, e]
   simp
   omega
 · unfold numVal numAbs minus
   rw [hm, hx, hd, hs, List.take_left, ← hl, fold_zeros]
   simp only [Bool.false_eq_true, if_false]
   exact f2 h1
theorem tk_hex (n : Nat) (h1 : n < 1099511627776) (r : List UInt8) (hr : Ends r) : tk (Hex.eight n ++ r) = (tk r).map (⟨1, Hex.eight n, (n : Int)⟩ :: ·) := by
 obtain ⟨g1, g2, g3⟩ := hexnum_facts n h1 r hr
 obtain ⟨l, e⟩ : ∃ l, Hex.eight n = 48 :: l := ⟨_, rfl⟩
 have hk : tok 48 (48 :: (l ++ r)) = some ⟨1, Hex.eight n, (n : Int)⟩ := by
  rw [e, List.cons_append] at g1 g2 g3
  rw [tok_num (by decide) (by decide) g1, g2, g3, ← List.cons_append, List.take_left, ← e]
 rw [e, List.cons_append, tk_step (by decide) (by decide) hk]
 simp only
 rw [e, ← List.cons_append, List.drop_left]
end Asm
end Go.Proofs.YtabmlbnnhhpaoaaGreatDoor
namespace Go.Proofs.YtabmlbnnhhpaoaaGreatDoor
open Go.RowKit Go.Shelf
namespace Isa
def tailL (f nu s : Nat) (d a b m : Int) : List UInt8 :=
 if s = 1 then 32 :: ((reg (if 0 ≤ atB f then b else d)).data.toList ++ 44 :: 32 :: ((num m).data.toList ++ 40 :: ((reg a).data.toList ++ [41])))
 else if parts f nu d a b m = [] then [] else 32 :: Lib.join ((parts f nu d a b m).map (·.data.toList)) [44, 32]
theorem textF_list (f nu s : Nat) (nm : ByteArray) (d a b m : Int) : (textF f nu s nm d a b m).data.toList = nm.data.toList ++ tailL f nu s d a b m := by
 unfold textF tailL
 split
 · simp [ByteArray.data_append]
 · split
   · simp
   · simp [ByteArray.data_append, joined]
end Isa
namespace Asm
def tR (n : Int) : Tok := ⟨0, 114 :: Lib.itoa n, 0⟩
def tN (n : Int) : Tok := ⟨1, Lib.itoa n, n⟩
def tS (c : UInt8) : Tok := ⟨2, [c], 0⟩
theorem itoa_words (n : Int) (h : 0 ≤ n) : ∀ c ∈ Lib.itoa n, wordByte c = true := by
 obtain ⟨u, rfl⟩ : ∃ u : Nat, n = (u : Int) := ⟨n.toNat, by omega⟩
 rw [Lib.itoa_nonneg]
 intro c hc
 simp [wordByte, ((dec_facts u u (Nat.le_refl _)).1 c hc).1]
theorem tk_reg (n : Int) (h : 0 ≤ n) (r : List UInt8) (hr : Ends r) : tk ((Isa.reg n).data.toList ++ r) = (tk r).map (tR n :: ·) :=
 tk_word 114 (Lib.itoa n) r (by decide) (itoa_words n h) hr
theorem tk_numT (n : Int) (h0 : -1099511627776 < n) (h1 : n < 1099511627776) (r : List UInt8) (hr : Ends r) : tk ((Isa.num n).data.toList ++ r) = (tk r).map (tN n :: ·) := tk_num n h0 h1 r hr
theorem name_word : ∀ n : Fin 49, 1 ≤ n.1 → (match (Isa.nameOf n.1).data.toList with | c :: w => letter c && w.all wordByte | [] => false) = true := by decide +kernel
theorem tk_name (n : Nat) (h1 : 1 ≤ n) (h2 : n < 49) (r : List UInt8) (hr : Ends r) : tk ((Isa.nameOf n).data.toList ++ r) = (tk r).map (⟨0, (Isa.nameOf n).data.toList, 0⟩ :: ·) := by
 have h := name_word ⟨n, h2⟩ h1
 simp only at h
 cases e : (Isa.nameOf n).data.toList with
 | nil => rw [e] at h; simp at h
 | cons c w =>
  rw [e] at h
  simp only [Bool.and_eq_true, List.all_eq_true] at h
  exact tk_word c w r h.1 h.2 hr
def tailToks (f nu s : Nat) (d a b m : Int) : List Tok :=
 if s = 1 then [tR (if 0 ≤ Isa.atB f then b else d), tS 44, tN m, tS 40, tR a, tS 41]
 else if f = 1 then [tR d, tS 44, tR a, tS 44, tR b] else if f = 2 then [tR d, tS 44, tR a, tS 44, tN m] else if f = 3 then [tR a, tS 44, tR b, tS 44, tN m]
 else if f = 4 then [tR d, tS 44, tN m] else if f = 5 then [tR d] else if f = 6 then [tR a] else if f = 7 then [tN m] else []
theorem shapes_in : ∀ n : Fin 49, 1 ≤ n.1 → ((Isa.formOf n.1 = 1 ∧ Isa.shapeOf n.1 = 0 ∧ Isa.numOf n.1 = 0) ∨ (Isa.formOf n.1 = 2 ∧ Isa.shapeOf n.1 = 0 ∧ Isa.numOf n.1 ≠ 0) ∨ (Isa.formOf n.1 = 2 ∧ Isa.shapeOf n.1 = 1 ∧ Isa.numOf n.1 ≠ 0) ∨ (Isa.formOf n.1 = 3 ∧ Isa.shapeOf n.1 = 0 ∧ Isa.numOf n.1 ≠ 0) ∨ (Isa.formOf n.1 = 3 ∧ Isa.shapeOf n.1 = 1 ∧ Isa.numOf n.1 ≠ 0) ∨ (Isa.formOf n.1 = 4 ∧ Isa.shapeOf n.1 = 0 ∧ Isa.numOf n.1 ≠ 0) ∨ (Isa.formOf n.1 = 5 ∧ Isa.shapeOf n.1 = 0 ∧ Isa.numOf n.1 = 0) ∨ (Isa.formOf n.1 = 6 ∧ Isa.shapeOf n.1 = 0 ∧ Isa.numOf n.1 = 0) ∨ (Isa.formOf n.1 = 7 ∧ Isa.shapeOf n.1 = 0 ∧ Isa.numOf n.1 ≠ 0) ∨ (Isa.formOf n.1 = 8 ∧ Isa.shapeOf n.1 = 0 ∧ Isa.numOf n.1 = 0)) := by decide +kernel
theorem tk_tail (f nu s : Nat) (d a b m : Int) (hc : (f = 1 ∧ s = 0 ∧ nu = 0) ∨ (f = 2 ∧ s = 0 ∧ nu ≠ 0) ∨ (f = 2 ∧ s = 1 ∧ nu ≠ 0) ∨ (f = 3 ∧ s = 0 ∧ nu ≠ 0) ∨ (f = 3 ∧ s = 1 ∧ nu ≠ 0) ∨ (f = 4 ∧ s = 0 ∧ nu ≠ 0) ∨ (f = 5 ∧ s = 0 ∧ nu = 0) ∨ (f = 6 ∧ s = 0 ∧ nu = 0) ∨ (f = 7 ∧ s = 0 ∧ nu ≠ 0) ∨ (f = 8 ∧ s = 0 ∧ nu = 0))
 (hd : 0 ≤ d) (ha : 0 ≤ a) (hb : 0 ≤ b) (h0 : -1099511627776 < m) (h1 : m < 1099511627776) (r : List UInt8) (hr : Ends r) : tk (Isa.tailL f nu s d a b m ++ r) = (tk r).map (tailToks f nu s d a b m ++ ·) := by
 have e44 : ∀ l : List UInt8, Ends (44 :: l) := fun l => ends_cons (by decide)
 have e40 : ∀ l : List UInt8, Ends (40 :: l) := fun l => ends_cons (by decide)
 have e41 : ∀ l : List UInt8, Ends (41 :: l) := fun l => ends_cons (by decide)
 rcases hc with ⟨rfl, rfl, e⟩ | ⟨rfl, rfl, e⟩ | ⟨rfl, rfl, e⟩ | ⟨rfl, rfl, e⟩ | ⟨rfl, rfl, e⟩ | ⟨rfl, rfl, e⟩ | ⟨rfl, rfl, e⟩ | ⟨rfl, rfl, e⟩ | ⟨rfl, rfl, e⟩ | ⟨rfl, rfl, e⟩
 all_goals simp [Isa.tailL, Isa.parts, Isa.atD, Isa.atA, Isa.atB, Isa.layD, Isa.layA, Isa.layB, e, Lib.join, List.intercalate, List.intersperse, tailToks]
 · rw [tk_blank, tk_reg d hd _ (e44 _), tk_sign 44 _ (by simp), tk_blank, tk_reg a ha _ (e44 _), tk_sign 44 _ (by simp), tk_blank, tk_reg b hb r hr]
   cases tk r <;> simp [tS]
 · rw [tk_blank, tk_reg d hd _ (e44 _), tk_sign 44 _ (by simp), tk_blank, tk_reg a ha _ (e44 _), tk_sign 44 _ (by simp), tk_blank, tk_numT m h0 h1 r hr]
   cases tk r <;> simp [tS]
 · rw [tk_blank, tk_reg d hd _ (e44 _), tk_sign 44 _ (by simp), tk_blank, tk_numT m h0 h1 _ (e40 _), tk_sign 40 _ (by simp), tk_reg a ha _ (e41 _), tk_sign 41 _ (by simp)]
   cases tk r <;> simp [tS]
 · rw [tk_blank, tk_reg a ha _ (e44 _), tk_sign 44 _ (by simp), tk_blank, tk_reg b hb _ (e44 _), tk_sign 44 _ (by simp), tk_blank, tk_numT m h0 h1 r hr]
   cases tk r <;> simp [tS]
 · rw [tk_blank, tk_reg b hb _ (e44 _), tk_sign 44 _ (by simp), tk_blank, tk_numT m h0 h1 _ (e40 _), tk_sign 40 _ (by simp), tk_reg a ha _ (e41 _), tk_sign 41 _ (by simp)]
   cases tk r <;> simp [tS]
 · rw [tk_blank, tk_reg d hd _ (e44 _), tk_sign 44 _ (by simp), tk_blank, tk_numT m h0 h1 r hr]
   cases tk r <;> simp [tS]
 · rw [tk_blank, tk_reg d hd r hr]
 · rw [tk_blank, tk_reg a ha r hr]
 · rw [tk_blank, tk_numT m h0 h1 r hr]
theorem hash_none : ∀ (l : List UInt8), (∀ c ∈ l, c ≠ 35) → Lib.indexByte l 35 = -1
 | [], _ => rfl
 | c :: l, h => by
  have hc := h c (by simp)
  have ih := hash_none l (fun d hd => h d (by simp [hd]))
  simp [Lib.indexByte, hc, ih]
theorem hash_at : ∀ (l r : List UInt8), (∀ c ∈ l, c ≠ 35) → Lib.indexByte (l ++ 35 :: r) 35 = (l.length : Int)
 | [], r, _ => by simp [Lib.indexByte]
 | c :: l, r, h => by
  have hc := h c (by simp)
  have ih := hash_at l r (fun d hd => h d (by simp [hd]))
  rw [List.cons_append, Lib.indexByte, ih]
  have e1 : (c == 35) = false := by simp [hc]
  have e2 : (((l.length : Nat) : Int) == -1) = false := by first | (simp; done) | (simp; omega)
  rw [e1, e2]
  simp
theorem tokens_plain (l : List UInt8) (h : ∀ c ∈ l, c ≠ 35) : tokens l = tk l := by
 unfold tokens beforeHash
 rw [hash_none l h, if_pos (by decide)]
 rfl
theorem tokens_hash (l r : List UInt8) (h : ∀ c ∈ l, c ≠ 35) : tokens (l ++ 35 :: r) = tk l := by
 unfold tokens beforeHash
 rw [hash_at l r h, if_neg (by omega)]
 simp only [Int.toNat_natCast, List.take_left]
 rfl
theorem itoa_nohash (n : Int) : ∀ c ∈ Lib.itoa n, c ≠ 35 := by
 have hd : ∀ u : Nat, ∀ c ∈ Lib.decDigits u, c ≠ 35 := by
  intro u c hc
  have := ((dec_facts u u (Nat.le_refl _)).1 c hc).1
  rintro rfl
  simp [digit] at this
 intro c hc
 unfold Lib.itoa at hc
 split at hc
 · rcases List.mem_cons.1 hc with rfl | h
   · decide
   · exact hd _ c h
 · exact hd _ c hc
theorem reg_nohash (n : Int) : ∀ c ∈ (Isa.reg n).data.toList, c ≠ 35 := by
 intro c hc
 rcases List.mem_cons.1 (show c ∈ 114 :: Lib.itoa n from hc) with rfl | h
 · decide
 · exact itoa_nohash n c h
theorem num_nohash (n : Int) : ∀ c ∈ (Isa.num n).data.toList, c ≠ 35 := itoa_nohash n
theorem join_nohash : ∀ (ps : List (List UInt8)), (∀ p ∈ ps, ∀ c ∈ p, c ≠ 35) → ∀ c ∈ Lib.join ps [44, 32], c ≠ 35 := by
 intro ps h c hc
 unfold Lib.join at hc
 have key : ∀ (qs : List (List UInt8)), (∀ p ∈ qs, ∀ c ∈ p, c ≠ 35) → ∀ c ∈ (List.intersperse [44, 32] qs).flatten, c ≠ 35 := by
  intro qs
  induction qs with
  | nil => simp
  | cons q qs ih =>
   cases qs with
   | nil => intro hq c hc; simp at hc; exact hq q (by simp) c hc
   | cons q2 qs =>
    intro hq c hc
    simp only [List.intersperse, List.flatten_cons, List.mem_append] at hc
    rcases hc with hc | hc | hc
    · exact hq q (by simp) c hc
    · simp at hc; rcases hc with rfl | rfl <;> decide
    · exact ih (fun p hp => hq p (by simp [hp])) c (by simpa using hc)
 exact key ps h c (by simpa [List.intercalate] using hc)
theorem tail_nohash (f nu s : Nat) (d a b m : Int) : ∀ c ∈ Isa.tailL f nu s d a b m, c ≠ 35 := by
 intro c hc
 unfold Isa.tailL at hc
 split at hc
 · simp only [List.mem_cons, List.mem_append] at hc
   rcases hc with rfl | hc | rfl | rfl | hc | rfl | hc | hc
   · decide
   · exact reg_nohash _ c hc
   · decide
   · decide
   · exact num_nohash _ c hc
   · decide
   · exact reg_nohash _ c hc
   · simp at hc; subst hc; decide
 · split at hc
   · cases hc
   · rcases List.mem_cons.1 hc with rfl | hc
     · decide
     · refine join_nohash _ (fun p hp => ?_) c hc
       obtain ⟨q, hq, rfl⟩ := List.mem_map.1 hp
       unfold Isa.parts at hq
       simp only [List.mem_append] at hq
       rcases hq with ((h | h) | h) | h
       all_goals (split at h <;> simp at h)
       all_goals subst h
       · exact reg_nohash _
       · exact reg_nohash _
       · exact reg_nohash _
       · exact num_nohash _
theorem name_nohash : ∀ n : Fin 49, (Isa.nameOf n.1).data.toList.all (fun c => c != 35) = true := by decide +kernel
theorem tail_ends (f nu s : Nat) (d a b m : Int) (r : List UInt8) (hr : Ends r) : Ends (Isa.tailL f nu s d a b m ++ r) := by
 unfold Isa.tailL
 split
 · exact ends_cons (by decide)
 · split
   · exact hr
   · exact ends_cons (by decide)
theorem eight_nohash (n : Nat) (hn : n < 4294967296) : ∀ c ∈ Hex.eight n, c ≠ 35 := by
 intro c hc
 unfold Hex.eight at hc
 simp only [List.mem_append] at hc
 rcases hc with (hc | hc) | hc
 · simp at hc; rcases hc with rfl | rfl <;> decide
 · rw [List.eq_of_mem_replicate hc]; decide
 · have h := (hex_facts n n (Nat.le_refl _)).1 c hc
   rintro rfl
   exact absurd h (by decide +kernel)
theorem line_word (x at_ : Nat) (hx : x < 4294967296) (h : (Isa.dec x).2.2.2.2.2 ≠ 0) : tokens (lineText x at_).data.toList = some [⟨0, [46, 119, 111, 114, 100], 0⟩, ⟨1, Hex.eight x, (x : Int)⟩] := by
 have e : (lineText x at_).data.toList = [46, 119, 111, 114, 100, 32] ++ Hex.eight x := by
  unfold lineText
  rw [if_neg h]
  simp [ByteArray.data_append]
 rw [e, tokens_plain _ (by
  intro c hc
  rcases List.mem_append.1 hc with hc | hc
  · have key : ∀ d ∈ ([46, 119, 111, 114, 100, 32] : List UInt8), d ≠ 35 := by decide
    exact key c hc
  · exact eight_nohash x hx c hc)]
 have h1 := tk_word 46 [119, 111, 114, 100] (32 :: Hex.eight x) (by decide) (by decide) (ends_cons (by decide))
 rw [show ([46, 119, 111, 114, 100, 32] : List UInt8) ++ Hex.eight x = 46 :: [119, 111, 114, 100] ++ 32 :: Hex.eight x from rfl, h1, tk_blank]
 have h2 := tk_hex x (by omega) [] ends_nil
 rw [List.append_nil] at h2
 rw [h2, tk_nil]
 rfl
theorem line_ins (x at_ : Nat) (hx : x < 4294967296) (h : (Isa.dec x).2.2.2.2.2 = 0) : ∃ (n : Nat) (d a b m : Int), Isa.dec x = ((n : Int), d, a, b, m, 0) ∧ 1 ≤ n ∧ n < 49 ∧ (0 ≤ d ∧ d ≤ 15) ∧ (0 ≤ a ∧ a ≤ 15) ∧ (0 ≤ b ∧ b ≤ 15) ∧ (-2147483648 ≤ m ∧ m ≤ 2147483647) ∧ Isa.enc (n : Int) d a b m = ((x : Int), 0) ∧
 tokens (lineText x at_).data.toList = some (⟨0, (Isa.nameOf n).data.toList, 0⟩ :: tailToks (Isa.formOf n) (Isa.numOf n) (Isa.shapeOf n) d a b m) := by
 obtain ⟨op, d, a, b, m, hd, he, h1, h2, g1, g2, g3, g4, g5, g6, g7, g8⟩ := Isa.enc_dec (x := (x : Int)) (by omega) (by omega) h
 obtain ⟨n, rfl⟩ : ∃ n : Nat, op = (n : Int) := ⟨op.toNat, by omega⟩
 refine ⟨n, d, a, b, m, hd, by omega, by omega, ⟨g1, g2⟩, ⟨g3, g4⟩, ⟨g5, g6⟩, ⟨g7, g8⟩, he, ?_⟩
 have ht : Isa.text (n : Int) d a b m = Isa.textF (Isa.formOf n) (Isa.numOf n) (Isa.shapeOf n) (Isa.nameOf n) d a b m := by
  unfold Isa.text
  rw [if_neg (by rw [he]; simp)]
  rfl
 obtain ⟨T, hT⟩ : ∃ T, (Isa.nameOf n).data.toList ++ Isa.tailL (Isa.formOf n) (Isa.numOf n) (Isa.shapeOf n) d a b m = T := ⟨_, rfl⟩
 have hnh : ∀ c ∈ T, c ≠ 35 := by
  intro c hc
  rw [← hT] at hc
  rcases List.mem_append.1 hc with hc | hc
  · have := name_nohash ⟨n, by omega⟩
    simp only [List.all_eq_true] at this
    simpa using this c hc
  · exact tail_nohash _ _ _ _ _ _ _ c hc
 have hk : ∀ r, Ends r → tk (T ++ r) = (tk r).map (⟨0, (Isa.nameOf n).data.toList, 0⟩ :: tailToks (Isa.formOf n) (Isa.numOf n) (Isa.shapeOf n) d a b m ++ ·) := by
  intro r hr
  rw [← hT, List.append_assoc, tk_name n (by omega) (by omega) _ (tail_ends _ _ _ _ _ _ _ r hr), tk_tail _ _ _ d a b m (shapes_in ⟨n, by omega⟩ (by simp only; omega)) g1 g3 g5 (by omega) (by omega) r hr]
  cases tk r <;> simp
 unfold lineText
 rw [hd]
 simp only [if_true]
 split
 · have e : (Isa.text (n : Int) d a b m ++ ⟨#[32, 35, 32]⟩ ++ ⟨(Hex.eight (((at_ : Int) + 4 * (m % 4294967296)) % 4294967296).toNat).toArray⟩ : ByteArray).data.toList = (T ++ [32]) ++ 35 :: (32 :: Hex.eight (((at_ : Int) + 4 * (m % 4294967296)) % 4294967296).toNat) := by
    rw [ByteArray.data_append, ByteArray.data_append, Array.toList_append, Array.toList_append, ht, Isa.textF_list, hT]
    simp
   rw [e, tokens_hash _ _ (by
    intro c hc
    rcases List.mem_append.1 hc with hc | hc
    · exact hnh c hc
    · simp at hc; subst hc; decide), hk [32] (ends_cons (by decide)), tk_blank, tk_nil]
   simp
 · rw [ht, Isa.textF_list, hT, tokens_plain _ hnh]
   have h3 := hk [] ends_nil
   rw [List.append_nil] at h3
   rw [h3, tk_nil]
   simp
end Asm
end Go.Proofs.YtabmlbnnhhpaoaaGreatDoor
namespace Go.Proofs.YtabmlbnnhhpaoaaGreatDoor
open Go.RowKit Go.Shelf
namespace Asm
theorem itoa_nonl (n : Int) : ∀ c ∈ Lib.itoa n, c ≠ 10 := by
 have hd : ∀ u : Nat, ∀ c ∈ Lib.decDigits u, c ≠ 10 := by
  intro u c hc
  have := ((dec_facts u u (Nat.le_refl _)).1 c hc).1
  rintro rfl
  simp [digit] at this
 intro c hc
 unfold Lib.itoa at hc
 split at hc
 · rcases List.mem_cons.1 hc with rfl | h
   · decide
   · exact hd _ c h
 · exact hd _ c hc
theorem reg_nonl (n : Int) : ∀ c ∈ (Isa.reg n).data.toList, c ≠ 10 := by
 intro c hc
 rcases List.mem_cons.1 (show c ∈ 114 :: Lib.itoa n from hc) with rfl | h
 · decide
 · exact itoa_nonl n c h
theorem num_nonl (n : Int) : ∀ c ∈ (Isa.num n).data.toList, c ≠ 10 := itoa_nonl n
theorem join_nonl : ∀ (ps : List (List UInt8)), (∀ p ∈ ps, ∀ c ∈ p, c ≠ 10) → ∀ c ∈ Lib.join ps [44, 32], c ≠ 10 := by
 intro ps h c hc
 unfold Lib.join at hc
 have key : ∀ (qs : List (List UInt8)), (∀ p ∈ qs, ∀ c ∈ p, c ≠ 10) → ∀ c ∈ (List.intersperse [44, 32] qs).flatten, c ≠ 10 := by
  intro qs
  induction qs with
  | nil => simp
  | cons q qs ih =>
   cases qs with
   | nil => intro hq c hc; simp at hc; exact hq q (by simp) c hc
   | cons q2 qs =>
    intro hq c hc
    simp only [List.intersperse, List.flatten_cons, List.mem_append] at hc
    rcases hc with hc | hc | hc
    · exact hq q (by simp) c hc
    · simp at hc; rcases hc with rfl | rfl <;> decide
    · exact ih (fun p hp => hq p (by simp [hp])) c (by simpa using hc)
 exact key ps h c (by simpa [List.intercalate] using hc)
theorem tail_nonl (f nu s : Nat) (d a b m : Int) : ∀ c ∈ Isa.tailL f nu s d a b m, c ≠ 10 := by
 intro c hc
 unfold Isa.tailL at hc
 split at hc
 · simp only [List.mem_cons, List.mem_append] at hc
   rcases hc with rfl | hc | rfl | rfl | hc | rfl | hc | hc
   · decide
   · exact reg_nonl _ c hc
   · decide
   · decide
   · exact num_nonl _ c hc
   · decide
   · exact reg_nonl _ c hc
   · simp at hc; subst hc; decide
 · split at hc
   · cases hc
   · rcases List.mem_cons.1 hc with rfl | hc
     · decide
     · refine join_nonl _ (fun p hp => ?_) c hc
       obtain ⟨q, hq, rfl⟩ := List.mem_map.1 hp
       unfold Isa.parts at hq
       simp only [List.mem_append] at hq
       rcases hq with ((h | h) | h) | h
       all_goals (split at h <;> simp at h)
       all_goals subst h
       · exact reg_nonl _
       · exact reg_nonl _
       · exact reg_nonl _
       · exact num_nonl _
theorem name_nonl : ∀ n : Fin 49, (Isa.nameOf n.1).data.toList.all (fun c => c != 10) = true := by decide +kernel
theorem eight_nonl (n : Nat) (hn : n < 4294967296) : ∀ c ∈ Hex.eight n, c ≠ 10 := by
 intro c hc
 unfold Hex.eight at hc
 simp only [List.mem_append] at hc
 rcases hc with (hc | hc) | hc
 · simp at hc; rcases hc with rfl | rfl <;> decide
 · rw [List.eq_of_mem_replicate hc]; decide
 · have h := (hex_facts n n (Nat.le_refl _)).1 c hc
   rintro rfl
   exact absurd h (by decide +kernel)
theorem line_nonl (x at_ : Nat) (hx : x < 4294967296) : ∀ c ∈ (lineText x at_).data.toList, c ≠ 10 := by
 unfold lineText
 by_cases h : (Isa.dec x).2.2.2.2.2 = 0
 · obtain ⟨op, d, a, b, m, hd, he, h1, h2, g1, g2, g3, g4, g5, g6, g7, g8⟩ := Isa.enc_dec (x := (x : Int)) (by omega) (by omega) h
   obtain ⟨n, rfl⟩ : ∃ n : Nat, op = (n : Int) := ⟨op.toNat, by omega⟩
   have ht : Isa.text (n : Int) d a b m = Isa.textF (Isa.formOf n) (Isa.numOf n) (Isa.shapeOf n) (Isa.nameOf n) d a b m := by
    unfold Isa.text
    rw [if_neg (by rw [he]; simp)]
    rfl
   have hT : ∀ c ∈ (Isa.text (n : Int) d a b m).data.toList, c ≠ 10 := by
    intro c hc
    rw [ht, Isa.textF_list] at hc
    rcases List.mem_append.1 hc with hc | hc
    · have := name_nonl ⟨n, by omega⟩
      simp only [List.all_eq_true] at this
      simpa using this c hc
    · exact tail_nonl _ _ _ _ _ _ _ c hc
   rw [hd]
   simp only [if_true]
   split
   · intro c hc
     rw [ByteArray.data_append, ByteArray.data_append, Array.toList_append, Array.toList_append] at hc
     rcases List.mem_append.1 hc with hc | hc
     · rcases List.mem_append.1 hc with hc | hc
       · exact hT c hc
       · have key : ∀ d ∈ ([32, 35, 32] : List UInt8), d ≠ 10 := by decide
         exact key c (by simpa using hc)
     · exact eight_nonl (((at_ : Int) + 4 * (m % 4294967296)) % 4294967296).toNat (by omega) c (by simpa using hc)
   · exact hT
 · rw [if_neg h]
   intro c hc
   rw [ByteArray.data_append, Array.toList_append] at hc
   rcases List.mem_append.1 hc with hc | hc
   · have key : ∀ d ∈ ([46, 119, 111, 114, 100, 32] : List UInt8), d ≠ 10 := by decide
     exact key c (by simpa using hc)
   · exact eight_nonl _ hx c (by simpa using hc)
end Asm
end Go.Proofs.YtabmlbnnhhpaoaaGreatDoor
