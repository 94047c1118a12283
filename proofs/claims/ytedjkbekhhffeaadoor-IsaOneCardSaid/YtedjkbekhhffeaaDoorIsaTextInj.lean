/- Two instructions with one text are the same: plain lists. -/
import Derived.Test.YtedjkbekhhffeaaDoorIsaBackWalk
namespace Go.Proofs.YtedjkbekhhffeaaDoor
set_option linter.unusedSimpArgs false
set_option linter.unusedVariables false
namespace Isa
theorem split_at {c : UInt8} : ∀ {xs ys us vs : List UInt8}, c ∉ xs → c ∉ us → xs ++ c :: ys = us ++ c :: vs → xs = us ∧ ys = vs
  | [], ys, [], vs, _, _, h => by simpa using h
  | [], ys, u :: us, vs, _, h2, h => by
    simp only [List.nil_append, List.cons_append, List.cons.injEq] at h
    exact absurd (by simp [h.1]) h2
  | x :: xs, ys, [], vs, h1, _, h => by
    simp only [List.nil_append, List.cons_append, List.cons.injEq] at h
    exact absurd (by simp [h.1]) h1
  | x :: xs, ys, u :: us, vs, h1, h2, h => by
    simp only [List.cons_append, List.cons.injEq] at h
    obtain ⟨e, h⟩ := h
    simp only [List.mem_cons, not_or] at h1 h2
    obtain ⟨e1, e2⟩ := split_at h1.2 h2.2 h
    exact ⟨by rw [e, e1], e2⟩
theorem split_end {c : UInt8} {xs us vs : List UInt8} (h1 : c ∉ xs) (h : xs = us ++ c :: vs) : False := h1 (by rw [h]; simp)
theorem dec_digits : ∀ (n u : Nat), u ≤ n → ∀ c ∈ Lib.decDigits u, 48 ≤ c.toNat ∧ c.toNat ≤ 57
  | 0, u, hu, c, hc => by
    rw [Lib.decDigits_one (by omega)] at hc
    simp only [List.mem_singleton] at hc
    subst hc
    have : u = 0 := by omega
    subst this
    decide
  | n + 1, u, hu, c, hc => by
    by_cases h : u < 10
    · rw [Lib.decDigits_one h] at hc
      simp only [List.mem_singleton] at hc
      subst hc
      simp only [UInt8.toNat_ofNat']
      omega
    · rw [Lib.decDigits, dif_neg h] at hc
      simp only [List.mem_append, List.mem_singleton] at hc
      rcases hc with hc | hc
      · exact dec_digits n (u / 10) (by omega) c hc
      · subst hc
        simp only [UInt8.toNat_ofNat']
        omega
def val (l : List UInt8) : Nat := l.foldl (fun acc c => acc * 10 + (c.toNat - 48)) 0
theorem val_snoc (l : List UInt8) (c : UInt8) : val (l ++ [c]) = val l * 10 + (c.toNat - 48) := by simp [val]
theorem val_dec : ∀ (n u : Nat), u ≤ n → val (Lib.decDigits u) = u
  | 0, u, hu => by
    rw [Lib.decDigits_one (by omega)]
    have : u = 0 := by omega
    subst this
    decide
  | n + 1, u, hu => by
    by_cases h : u < 10
    · rw [Lib.decDigits_one h]
      simp only [val, List.foldl_cons, List.foldl_nil, UInt8.toNat_ofNat']
      omega
    · rw [Lib.decDigits, dif_neg h, val_snoc, val_dec n (u / 10) (by omega)]
      simp only [UInt8.toNat_ofNat']
      omega
theorem dec_inj {u v : Nat} (h : Lib.decDigits u = Lib.decDigits v) : u = v := by
  rw [← val_dec u u (Nat.le_refl _), h, val_dec v v (Nat.le_refl _)]
theorem itoa_mem {n : Int} {c : UInt8} (h : c ∈ Lib.itoa n) : c.toNat = 45 ∨ (48 ≤ c.toNat ∧ c.toNat ≤ 57) := by
  unfold Lib.itoa at h
  split at h
  · simp only [List.mem_cons] at h
    rcases h with rfl | h
    · left; rfl
    · right; exact dec_digits _ _ (Nat.le_refl _) c h
  · right; exact dec_digits _ _ (Nat.le_refl _) c h
theorem itoa_inj {n m : Int} (h : Lib.itoa n = Lib.itoa m) : n = m := by
  have no45 : ∀ (u : Nat) (l : List UInt8), Lib.decDigits u = 45 :: l → False := by
    intro u l hu
    have := dec_digits u u (Nat.le_refl _) 45 (by rw [hu]; simp)
    exact absurd this (by decide)
  unfold Lib.itoa at h
  split at h <;> split at h
  · simp only [List.cons.injEq, true_and] at h
    have := dec_inj h
    omega
  · exact (no45 _ _ h.symm).elim
  · exact (no45 _ _ h).elim
  · have := dec_inj h
    omega
theorem not_mem_itoa {n : Int} {c : UInt8} (h : c.toNat ≠ 45 ∧ (c.toNat < 48 ∨ 57 < c.toNat)) : c ∉ Lib.itoa n := fun hc => by
  have := itoa_mem hc
  omega
theorem num_list (n : Int) : (num n).data.toList = Lib.itoa n := rfl
theorem reg_list (n : Int) : (reg n).data.toList = 114 :: Lib.itoa n := rfl
theorem not_mem_num {n : Int} {c : UInt8} (h : c.toNat ≠ 45 ∧ (c.toNat < 48 ∨ 57 < c.toNat)) : c ∉ (num n).data.toList := not_mem_itoa h
theorem not_mem_reg {n : Int} {c : UInt8} (h : c.toNat ≠ 45 ∧ (c.toNat < 48 ∨ 57 < c.toNat)) (h2 : c ≠ 114) : c ∉ (reg n).data.toList := by
  rw [reg_list]
  simp only [List.mem_cons, not_or]
  exact ⟨h2, not_mem_itoa h⟩
theorem num_inj {n m : Int} (h : (num n).data.toList = (num m).data.toList) : n = m := itoa_inj h
theorem reg_inj {n m : Int} (h : (reg n).data.toList = (reg m).data.toList) : n = m := by
  rw [reg_list, reg_list] at h
  exact itoa_inj (List.cons.inj h).2
theorem names_blank : ∀ n : Fin 49, (32 : UInt8) ∉ (nameOf n.1).data.toList := by decide +kernel
theorem name_inj {n m : Nat} (h1 : 1 ≤ n) (h2 : n < 49) (h3 : 1 ≤ m) (h4 : m < 49) (h : (nameOf n).data.toList = (nameOf m).data.toList) : n = m := by
  have e : nameOf n = nameOf m := by
    apply ByteArray.ext
    exact Array.toList_inj.1 h
  have a := named_name ⟨n, h2⟩ h1
  have b := named_name ⟨m, h4⟩ h3
  simp only at a b
  rw [e, b] at a
  have := (Prod.mk.inj a).1
  omega
/-- A text as a list: the name, and what lies behind it. -/
def tailL (f nu s : Nat) (d a b m : Int) : List UInt8 :=
  if s = 1 then 32 :: ((reg (if 0 ≤ atB f then b else d)).data.toList ++ 44 :: 32 :: ((num m).data.toList ++ 40 :: ((reg a).data.toList ++ [41])))
  else if parts f nu d a b m = [] then [] else 32 :: Lib.join ((parts f nu d a b m).map (·.data.toList)) [44, 32]
theorem textF_list (f nu s : Nat) (nm : ByteArray) (d a b m : Int) : (textF f nu s nm d a b m).data.toList = nm.data.toList ++ tailL f nu s d a b m := by
  unfold textF tailL
  split
  · simp [ByteArray.data_append]
  · split
    · simp
    · simp [ByteArray.data_append, joined]
/-- What lies behind the name tells the fields that the form has. -/
theorem tail_inj {f nu s : Nat} {d a b m d' a' b' m' : Int} (hc : (f = 1 ∧ s = 0 ∧ nu = 0) ∨ (f = 2 ∧ s = 0 ∧ nu ≠ 0) ∨ (f = 2 ∧ s = 1 ∧ nu ≠ 0) ∨ (f = 3 ∧ s = 0 ∧ nu ≠ 0) ∨ (f = 3 ∧ s = 1 ∧ nu ≠ 0) ∨ (f = 4 ∧ s = 0 ∧ nu ≠ 0) ∨ (f = 5 ∧ s = 0 ∧ nu = 0) ∨ (f = 6 ∧ s = 0 ∧ nu = 0) ∨ (f = 7 ∧ s = 0 ∧ nu ≠ 0) ∨ (f = 8 ∧ s = 0 ∧ nu = 0))
    (h : tailL f nu s d a b m = tailL f nu s d' a' b' m') : (0 ≤ atD f → d = d') ∧ (0 ≤ atA f → a = a') ∧ (0 ≤ atB f → b = b') ∧ (nu ≠ 0 → m = m') := by
  have r44 : ∀ n : Int, (44 : UInt8) ∉ (reg n).data.toList := fun n => not_mem_reg (by decide) (by decide)
  have n44 : ∀ n : Int, (44 : UInt8) ∉ (num n).data.toList := fun n => not_mem_num (by decide)
  have n40 : ∀ n : Int, (40 : UInt8) ∉ (num n).data.toList := fun n => not_mem_num (by decide)
  have r41 : ∀ n : Int, (41 : UInt8) ∉ (reg n).data.toList := fun n => not_mem_reg (by decide) (by decide)
  rcases hc with ⟨rfl, rfl, e⟩ | ⟨rfl, rfl, e⟩ | ⟨rfl, rfl, e⟩ | ⟨rfl, rfl, e⟩ | ⟨rfl, rfl, e⟩ | ⟨rfl, rfl, e⟩ | ⟨rfl, rfl, e⟩ | ⟨rfl, rfl, e⟩ | ⟨rfl, rfl, e⟩ | ⟨rfl, rfl, e⟩ <;>
    simp [tailL, parts, atD, atA, atB, layD, layA, layB, e, Lib.join, List.intercalate, List.intersperse] at h ⊢
  · obtain ⟨h1, h2⟩ := split_at (r44 _) (r44 _) h
    obtain ⟨h3, h4⟩ := split_at (r44 _) (r44 _) (List.cons.inj h2).2
    exact ⟨reg_inj h1, reg_inj h3, reg_inj (List.cons.inj h4).2⟩
  · obtain ⟨h1, h2⟩ := split_at (r44 _) (r44 _) h
    obtain ⟨h3, h4⟩ := split_at (r44 _) (r44 _) (List.cons.inj h2).2
    exact ⟨reg_inj h1, reg_inj h3, num_inj (List.cons.inj h4).2⟩
  · obtain ⟨h1, h2⟩ := split_at (r44 _) (r44 _) h
    obtain ⟨h3, h4⟩ := split_at (n40 _) (n40 _) (List.cons.inj h2).2
    obtain ⟨h5, _⟩ := split_at (r41 _) (r41 _) h4
    exact ⟨reg_inj h1, reg_inj h5, num_inj h3⟩
  · obtain ⟨h1, h2⟩ := split_at (r44 _) (r44 _) h
    obtain ⟨h3, h4⟩ := split_at (r44 _) (r44 _) (List.cons.inj h2).2
    exact ⟨reg_inj h1, reg_inj h3, num_inj (List.cons.inj h4).2⟩
  · obtain ⟨h1, h2⟩ := split_at (r44 _) (r44 _) h
    obtain ⟨h3, h4⟩ := split_at (n40 _) (n40 _) (List.cons.inj h2).2
    obtain ⟨h5, _⟩ := split_at (r41 _) (r41 _) h4
    exact ⟨reg_inj h5, reg_inj h1, num_inj h3⟩
  · obtain ⟨h1, h2⟩ := split_at (r44 _) (r44 _) h
    exact ⟨reg_inj h1, num_inj (List.cons.inj h2).2⟩
  · exact reg_inj (by rw [h])
  · exact reg_inj (by rw [h])
  · exact num_inj (by rw [h])
theorem fits_none {f : Nat} {m : Int} (h : fits f 0 m = true) : m = 0 := by
  simpa [fits] using h
theorem tail_head (f nu s : Nat) (d a b m : Int) : tailL f nu s d a b m = [] ∨ ∃ l, tailL f nu s d a b m = 32 :: l := by
  unfold tailL
  split
  · exact .inr ⟨_, rfl⟩
  · split
    · exact .inl rfl
    · exact .inr ⟨_, rfl⟩
theorem text_ok {op d a b m : Int} (h : (enc op d a b m).2 = 0) : text op d a b m = textF (formOf op.toNat) (numOf op.toNat) (shapeOf op.toNat) (nameOf op.toNat) d a b m := by
  unfold text
  rw [if_neg (fun hh => hh h)]
theorem text_full {op d a b m : Int} (h : (enc op d a b m).2 = 0) : (!(text op d a b m).toList.isEmpty) = true := by
  obtain ⟨ho, _⟩ := enc_ok h
  rw [text_ok h, ByteArray.toList_eq, textF_list]
  have := name_some ⟨op.toNat, by omega⟩ (by simp only; omega)
  simp only [Bool.not_eq_true', List.isEmpty_eq_false_iff] at this ⊢
  simp only [ne_eq, List.append_eq_nil_iff, not_and]
  intro hh
  exact absurd hh this
theorem text_none' {op d a b m : Int} (h : (enc op d a b m).2 ≠ 0) : text op d a b m = ⟨#[]⟩ := if_pos h
/-- Two instructions that may be, with one text, are the same. -/
theorem text_inj {op d a b m op' d' a' b' m' : Int} (h : (enc op d a b m).2 = 0) (h' : (enc op' d' a' b' m').2 = 0) (hd : 0 ≤ d) (ha : 0 ≤ a) (hb : 0 ≤ b) (hd' : 0 ≤ d') (ha' : 0 ≤ a') (hb' : 0 ≤ b')
    (he : text op d a b m = text op' d' a' b' m') : op = op' ∧ d = d' ∧ a = a' ∧ b = b' ∧ m = m' := by
  obtain ⟨ho, g1, g2, g3, g4, _⟩ := enc_ok h
  obtain ⟨ho', g1', g2', g3', g4', _⟩ := enc_ok h'
  rw [text_ok h, text_ok h'] at he
  have hl := congrArg (fun s : ByteArray => s.data.toList) he
  simp only [textF_list] at hl
  obtain ⟨n, rfl⟩ : ∃ n : Nat, op = (n : Int) := ⟨op.toNat, by omega⟩
  obtain ⟨n', rfl⟩ : ∃ n : Nat, op' = (n : Int) := ⟨op'.toNat, by omega⟩
  simp only [Int.toNat_natCast] at *
  have b1 := names_blank ⟨n, by omega⟩
  have b2 := names_blank ⟨n', by omega⟩
  have key : (nameOf n).data.toList = (nameOf n').data.toList ∧ tailL (formOf n) (numOf n) (shapeOf n) d a b m = tailL (formOf n') (numOf n') (shapeOf n') d' a' b' m' := by
    rcases tail_head (formOf n) (numOf n) (shapeOf n) d a b m with t1 | ⟨l1, t1⟩ <;> rcases tail_head (formOf n') (numOf n') (shapeOf n') d' a' b' m' with t2 | ⟨l2, t2⟩ <;> rw [t1, t2] at hl ⊢
    · simpa using hl
    · exact (split_end b1 (by simpa using hl)).elim
    · exact (split_end b2 (by simpa using hl.symm)).elim
    · obtain ⟨e1, e2⟩ := split_at b1 b2 hl
      exact ⟨e1, by rw [e2]⟩
  have hn : n = n' := name_inj (by omega) (by omega) (by omega) (by omega) key.1
  subst hn
  have hc := text_combos ⟨n, by omega⟩ (by simp only; omega)
  simp only at hc
  obtain ⟨k1, k2, k3, k4⟩ := tail_inj hc key.2
  have c1 := badAt_le g1
  have c2 := badAt_le g2
  have c3 := badAt_le g3
  have c1' := badAt_le g1'
  have c2' := badAt_le g2'
  have c3' := badAt_le g3'
  refine ⟨rfl, ?_, ?_, ?_, ?_⟩
  · by_cases hh : 0 ≤ atD (formOf n)
    · exact k1 hh
    · have := c1.2 (by omega); have := c1'.2 (by omega); omega
  · by_cases hh : 0 ≤ atA (formOf n)
    · exact k2 hh
    · have := c2.2 (by omega); have := c2'.2 (by omega); omega
  · by_cases hh : 0 ≤ atB (formOf n)
    · exact k3 hh
    · have := c3.2 (by omega); have := c3'.2 (by omega); omega
  · by_cases hh : numOf n = 0
    · rw [hh] at g4 g4'
      rw [fits_none g4, fits_none g4']
    · exact k4 hh
end Isa
end Go.Proofs.YtedjkbekhhffeaaDoor
