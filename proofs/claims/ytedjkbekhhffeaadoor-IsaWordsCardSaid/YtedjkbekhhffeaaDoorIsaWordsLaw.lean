/- IsaWords: the plain law: the reference's Decode answers as Isa.dec does. No memory, no walk. -/
import Derived.Test.YtedjkbekhhffeaaDoorIsaDecAll
import Derived.Test.YtedjkbekhhffeaaDoorPDecodex2
namespace Go.Proofs.YtedjkbekhhffeaaDoor
open Go.RowKit Go.Proofs.YtedjkbekhhffeaaDoorW.PrintWords PDecode
set_option linter.unusedSimpArgs false
set_option linter.unusedVariables false
namespace RefD
def immC (nu : Nat) : Int := if nu = 1 then 115 else if nu = 2 then 117 else if nu = 3 then 110 else 45
def shC (f s : Nat) : Int := if s = 1 then 109 else if f = 1 then 51 else if f = 5 ∨ f = 6 then 49 else if f = 7 then 106 else if f = 8 then 45 else 105
theorem of_20 : ∀ n : Fin 64, cloisterref10_Of.f 20 (n.1 : Int) = some (if 1 ≤ n.1 ∧ n.1 < 49 then (Isa.nameOf n.1, (Isa.formOf n.1 : Int), immC (Isa.numOf n.1), shC (Isa.formOf n.1) (Isa.shapeOf n.1), true) else (⟨#[]⟩, 0, 0, 0, false)) := by
  decide +kernel
theorem pow_30 : ∀ n : Fin 27, cloisterref10_power.f 30 (n.1 : Int) = some (2 ^ n.1) := by decide +kernel
theorem pow_ge (k : Nat) (hk : 30 ≤ k) (n : Nat) (hn : n < 27) : cloisterref10_power.f k (n : Int) = some (2 ^ n) :=
  at_rounds (cloisterref10_power.mono (n : Int)) hk (pow_30 ⟨n, hn⟩)
theorem of_ge (k : Nat) (hk : 30 ≤ k) (n : Nat) (hn : n < 64) : cloisterref10_Of.f k (n : Int) = some (if 1 ≤ n ∧ n < 49 then (Isa.nameOf n, (Isa.formOf n : Int), immC (Isa.numOf n), shC (Isa.formOf n) (Isa.shapeOf n), true) else (⟨#[]⟩, 0, 0, 0, false)) :=
  at_rounds (cloisterref10_Of.mono (n : Int)) (Nat.le_trans (by decide) hk) (of_20 ⟨n, hn⟩)
theorem w64 (n : Int) (h0 : -9223372036854775808 ≤ n) (h1 : n ≤ 9223372036854775807) : wrap64 n = n := by unfold wrap64; omega
/-- The letters of a form's fields. -/
def letters (f : Nat) : ByteArray := if f = 1 then ⟨#[68, 65, 66]⟩ else if f = 2 then ⟨#[68, 65]⟩ else if f = 3 then ⟨#[65, 66]⟩ else if f = 4 then ⟨#[68]⟩ else if f = 5 then ⟨#[68]⟩ else if f = 6 then ⟨#[65]⟩ else ⟨#[]⟩
theorem fields : ∀ f : Fin 9, cloisterref10_Fields.f (f.1 : Int) = some (letters f.1, (Isa.bits f.1 : Int)) := by decide +kernel
theorem takes_eq (k : Nat) (hk : 30 ≤ k) (f nu : Nat) (hnu : nu < 4) (hs : nu = 1 → f = 2 ∨ f = 3 ∨ f = 4) (v : Int) : cloisterref10_takes.f k (immC nu) (Isa.bits f : Int) v = some (Isa.fits f nu v) := by
  match nu, hnu, hs with
  | 0, _, _ =>
    unfold cloisterref10_takes.f
    rw [if_neg (by decide), if_neg (by decide), if_neg (by decide)]
    simp [Isa.fits]
    rfl
  | 1, _, hs =>
    have go : ∀ b : Nat, 1 ≤ b → b ≤ 26 → cloisterref10_takes.f k (immC 1) (b : Int) v = some (decide (-(2 ^ (b - 1) : Int) ≤ v) && decide (v < 2 ^ (b - 1))) := by
      intro b hb hb2
      have e : wrap64 ((b : Int) - 1) = ((b - 1 : Nat) : Int) := by rw [w64 _ (by omega) (by omega)]; omega
      have hp : (2 : Int) ^ (b - 1) ≤ 2 ^ 25 := by exact_mod_cast Nat.pow_le_pow_right (by decide) (by omega)
      have hp0 : (0 : Int) ≤ 2 ^ (b - 1) := by exact_mod_cast Nat.zero_le _
      unfold cloisterref10_takes.f
      rw [if_pos (by decide), e, pow_ge k hk (b - 1) (by omega)]
      simp only [Option.bind_some]
      rw [w64 _ (by omega) (by omega)]
      by_cases h : v ≥ -2 ^ (b - 1)
      · rw [if_pos h]; simp [h]
      · rw [if_neg h]; simp; omega
    rcases hs rfl with rfl | rfl | rfl
    · exact (go 18 (by decide) (by decide)).trans (by simp [Isa.fits, Isa.bits, Isa.layN])
    · exact (go 18 (by decide) (by decide)).trans (by simp [Isa.fits, Isa.bits, Isa.layN])
    · exact (go 22 (by decide) (by decide)).trans (by simp [Isa.fits, Isa.bits, Isa.layN])
  | 2, _, _ =>
    unfold cloisterref10_takes.f
    rw [if_neg (by decide), if_pos (by decide)]
    by_cases h : v ≥ 0
    · rw [if_pos h, show (18 : Int) = ((18 : Nat) : Int) from rfl, pow_ge k hk 18 (by decide)]
      simp [Isa.fits, h]
      omega
    · rw [if_neg h]
      simp [Isa.fits]
      omega
  | 3, _, _ =>
    unfold cloisterref10_takes.f
    rw [if_neg (by decide), if_neg (by decide), if_pos (by decide)]
    by_cases h : v ≥ 0
    · rw [if_pos h]
      simp [Isa.fits, h]
      omega
    · rw [if_neg h]
      simp [Isa.fits]
      omega
  | n + 4, h, _ => exact absurd h (by omega)
theorem j1_eq (k : Nat) (hk : 31 ≤ k) (f nu : Nat) (hnu : nu < 4) (hs : nu = 1 → f = 2 ∨ f = 3 ∨ f = 4) (hb : Isa.bits f < 27) (y op d a b fo sh : Int) (nm : ByteArray) (h0 : 0 ≤ y) (h1 : y ≤ 67108863) (neg : Bool) (hy : y < 2 ^ Isa.bits f) :
    cloisterref10_Decode.j1 k y (Isa.bits f : Int) neg op d a b 0 nm fo (immC nu) sh = some (if neg = true then (if Isa.fits f nu (y - 2 ^ Isa.bits f) = true then (op, d, a, b, y - 2 ^ Isa.bits f, 0) else (0, 0, 0, 0, 0, 102)) else if Isa.fits f nu y = true then (op, d, a, b, y, 0) else (0, 0, 0, 0, 0, 102)) := by
  obtain ⟨k, rfl⟩ : ∃ m, k = m + 1 := ⟨k - 1, by omega⟩
  have hp : (2 : Int) ^ Isa.bits f ≤ 2 ^ 26 := by exact_mod_cast Nat.pow_le_pow_right (by decide) (by omega)
  have hp0 : (0 : Int) < 2 ^ Isa.bits f := by exact_mod_cast Nat.two_pow_pos _
  have w32 : ∀ n : Int, -2147483648 ≤ n → n ≤ 2147483647 → wrap32 n = n := fun n a b => by unfold wrap32; omega
  rw [cloisterref10_Decode.j1]
  cases neg with
  | true =>
    rw [if_pos rfl, if_pos rfl, pow_ge k (by omega) _ hb]
    simp only [Option.bind_some]
    rw [w64 _ (by omega) (by omega), takes_eq k (by omega) f nu hnu hs]
    simp only [Option.bind_some]
    rw [w32 _ (by omega) (by omega)]
    split <;> rfl
  | false =>
    rw [if_neg (by decide), if_neg (by decide), takes_eq k (by omega) f nu hnu hs]
    simp only [Option.bind_some]
    rw [w32 _ (by omega) (by omega)]
    split <;> rfl
theorem tail_eq (k : Nat) (hk : 32 ≤ k) (f nu : Nat) (hnu : nu < 4) (hs : nu = 1 → f = 2 ∨ f = 3 ∨ f = 4) (hb : Isa.bits f < 27) (s : ByteArray) (u i : Int) (hi : ¬ i < (s.size : Int)) (y op d a b fo sh : Int) (nm : ByteArray) (h0 : 0 ≤ y) (h1 : y ≤ 67108863) :
    cloisterref10_Decode.l0 k y s (Isa.bits f : Int) u i op d a b 0 nm fo (immC nu) sh = some (Isa.decOut op f nu d a b y) := by
  obtain ⟨k, rfl⟩ : ∃ m, k = m + 1 := ⟨k - 1, by omega⟩
  rw [cloisterref10_Decode.l0, if_neg hi, pow_ge k (by omega) _ hb]
  simp only [Option.bind_some]
  unfold Isa.decOut
  by_cases h2 : y ≥ 2 ^ Isa.bits f
  · rw [if_pos h2, if_pos h2]
  · rw [if_neg h2, if_neg h2]
    by_cases h3 : nu = 1
    · have hb1 : 1 ≤ Isa.bits f := by rcases hs h3 with rfl | rfl | rfl <;> decide
      have e : wrap64 ((Isa.bits f : Int) - 1) = ((Isa.bits f - 1 : Nat) : Int) := by rw [w64 _ (by omega) (by omega)]; omega
      rw [if_pos (by rw [h3]; rfl), e, pow_ge k (by omega) _ (by omega)]
      simp only [Option.bind_some]
      rw [j1_eq k (by omega) f nu hnu hs hb _ _ _ _ _ _ _ _ h0 h1 _ (by omega)]
      by_cases h4 : (2 : Int) ^ (Isa.bits f - 1) ≤ y
      · rw [if_pos (show decide (y ≥ (2 : Int) ^ (Isa.bits f - 1)) = true by simpa using h4), if_pos (show nu = 1 ∧ (2 : Int) ^ (Isa.bits f - 1) ≤ y from ⟨h3, h4⟩)]
      · rw [if_neg (show ¬ decide (y ≥ (2 : Int) ^ (Isa.bits f - 1)) = true by simpa using h4), if_neg (show ¬ (nu = 1 ∧ (2 : Int) ^ (Isa.bits f - 1) ≤ y) from fun hh => h4 hh.2)]
    · have e : ¬ (immC nu = 115) := by
        match nu, hnu, h3 with
        | 0, _, _ => decide
        | 2, _, _ => decide
        | 3, _, _ => decide
        | n + 4, h, _ => exact absurd h (by omega)
      rw [if_neg e, j1_eq k (by omega) f nu hnu hs hb _ _ _ _ _ _ _ _ h0 h1 _ (by omega), if_neg (show ¬ (false = true) by decide), if_neg (show ¬ (nu = 1 ∧ (2 : Int) ^ (Isa.bits f - 1) ≤ y) from fun hh => h3 hh.1)]
/-- One round of the loop over the letters. -/
theorem step_eq (k : Nat) (s : ByteArray) (bb u i : Int) (x op d a b im fo is sh : Int) (nm : ByteArray) (c : Int) (h0 : 0 ≤ i) (h1 : i < (s.size : Int)) (h2 : bt s i = c) (hx0 : 0 ≤ x) (hx1 : x ≤ 67108863) (hu0 : 0 < u) (hu1 : u ≤ 4194304) (hq : x / u ≤ 15) (hs : s.size ≤ 100) :
    cloisterref10_Decode.l0 (k + 1) x s bb u i op d a b im nm fo is sh =
      if c = 68 then cloisterref10_Decode.l0 k (x % u) s bb (u / 16) (i + 1) op (x / u) a b im nm fo is sh
      else if c = 65 then cloisterref10_Decode.l0 k (x % u) s bb (u / 16) (i + 1) op d (x / u) b im nm fo is sh
      else cloisterref10_Decode.l0 k (x % u) s bb (u / 16) (i + 1) op d a (x / u) im nm fo is sh := by
  have q0 : 0 ≤ x / u := Int.ediv_nonneg hx0 (by omega)
  have e1 : Int.tmod x u = x % u := Int.tmod_eq_emod_of_nonneg hx0
  have e2 : Int.tdiv x u = x / u := Int.tdiv_eq_ediv_of_nonneg hx0
  have e3 : Int.tdiv u 16 = u / 16 := Int.tdiv_eq_ediv_of_nonneg (by omega)
  rw [cloisterref10_Decode.l0, if_pos h1, if_neg (by omega), if_pos h0, h2, e1, e2, e3, w64 (u / 16) (by omega) (by omega), w64 (i + 1) (by omega) (by omega), w64 (x / u) (by omega) (by omega), Int.emod_eq_of_lt q0 (by omega)]
/-- The three layouts of letters, from the first letter on: what the loop makes of a rest. -/
theorem loop_eq (k : Nat) (hk : 36 ≤ k) (f nu : Nat) (hf1 : 1 ≤ f) (hf : f < 9) (hnu : nu < 4) (hs : nu = 1 → f = 2 ∨ f = 3 ∨ f = 4) (y op fo sh : Int) (nm : ByteArray) (h0 : 0 ≤ y) (h1 : y ≤ 67108863) :
    cloisterref10_Decode.l0 k y (letters f) (Isa.bits f : Int) 4194304 0 op 0 0 0 0 nm fo (immC nu) sh = some (Isa.decF f nu op y) := by
  have hb : Isa.bits f < 27 := by
    have : ∀ g : Fin 9, Isa.bits g.1 < 27 := by decide
    exact this ⟨f, hf⟩
  obtain ⟨k, rfl⟩ : ∃ m, k = m + 3 := ⟨k - 3, by omega⟩
  unfold Isa.decF
  have T := tail_eq
  match f, hf1, hf, hs, hb with
  | 1, _, _, hs, hb =>
    rw [show letters 1 = ⟨#[68, 65, 66]⟩ from rfl, step_eq (k + 2) _ _ 4194304 0 y op 0 0 0 0 fo _ sh nm 68 (by decide) (by decide) (by decide) h0 h1 (by decide) (by decide) (by omega) (by decide), if_pos rfl,
      step_eq (k + 1) _ _ (4194304 / 16) (0 + 1) (y % 4194304) op (y / 4194304) 0 0 0 fo _ sh nm 65 (by decide) (by decide) (by decide) (by omega) (by omega) (by decide) (by decide) (by omega) (by decide), if_neg (by decide), if_pos rfl,
      step_eq k _ _ (4194304 / 16 / 16) (0 + 1 + 1) (y % 4194304 % (4194304 / 16)) op (y / 4194304) (y % 4194304 / (4194304 / 16)) 0 0 fo _ sh nm 66 (by decide) (by decide) (by decide) (by omega) (by omega) (by decide) (by decide) (by omega) (by decide), if_neg (by decide), if_neg (by decide),
      tail_eq k (by omega) 1 nu hnu hs hb _ _ _ (by decide) _ _ _ _ _ _ _ _ (by omega) (by omega)]
    rfl
  | 2, _, _, hs, hb =>
    rw [show letters 2 = ⟨#[68, 65]⟩ from rfl, step_eq (k + 2) _ _ 4194304 0 y op 0 0 0 0 fo _ sh nm 68 (by decide) (by decide) (by decide) h0 h1 (by decide) (by decide) (by omega) (by decide), if_pos rfl,
      step_eq (k + 1) _ _ (4194304 / 16) (0 + 1) (y % 4194304) op (y / 4194304) 0 0 0 fo _ sh nm 65 (by decide) (by decide) (by decide) (by omega) (by omega) (by decide) (by decide) (by omega) (by decide), if_neg (by decide), if_pos rfl,
      tail_eq (k + 1) (by omega) 2 nu hnu hs hb _ _ _ (by decide) _ _ _ _ _ _ _ _ (by omega) (by omega)]
    rfl
  | 3, _, _, hs, hb =>
    rw [show letters 3 = ⟨#[65, 66]⟩ from rfl, step_eq (k + 2) _ _ 4194304 0 y op 0 0 0 0 fo _ sh nm 65 (by decide) (by decide) (by decide) h0 h1 (by decide) (by decide) (by omega) (by decide), if_neg (by decide), if_pos rfl,
      step_eq (k + 1) _ _ (4194304 / 16) (0 + 1) (y % 4194304) op 0 (y / 4194304) 0 0 fo _ sh nm 66 (by decide) (by decide) (by decide) (by omega) (by omega) (by decide) (by decide) (by omega) (by decide), if_neg (by decide), if_neg (by decide),
      tail_eq (k + 1) (by omega) 3 nu hnu hs hb _ _ _ (by decide) _ _ _ _ _ _ _ _ (by omega) (by omega)]
    rfl
  | 4, _, _, hs, hb =>
    rw [show letters 4 = ⟨#[68]⟩ from rfl, step_eq (k + 2) _ _ 4194304 0 y op 0 0 0 0 fo _ sh nm 68 (by decide) (by decide) (by decide) h0 h1 (by decide) (by decide) (by omega) (by decide), if_pos rfl,
      tail_eq (k + 2) (by omega) 4 nu hnu hs hb _ _ _ (by decide) _ _ _ _ _ _ _ _ (by omega) (by omega)]
    rfl
  | 5, _, _, hs, hb =>
    rw [show letters 5 = ⟨#[68]⟩ from rfl, step_eq (k + 2) _ _ 4194304 0 y op 0 0 0 0 fo _ sh nm 68 (by decide) (by decide) (by decide) h0 h1 (by decide) (by decide) (by omega) (by decide), if_pos rfl,
      tail_eq (k + 2) (by omega) 5 nu hnu hs hb _ _ _ (by decide) _ _ _ _ _ _ _ _ (by omega) (by omega)]
    rfl
  | 6, _, _, hs, hb =>
    rw [show letters 6 = ⟨#[65]⟩ from rfl, step_eq (k + 2) _ _ 4194304 0 y op 0 0 0 0 fo _ sh nm 65 (by decide) (by decide) (by decide) h0 h1 (by decide) (by decide) (by omega) (by decide), if_neg (by decide), if_pos rfl,
      tail_eq (k + 2) (by omega) 6 nu hnu hs hb _ _ _ (by decide) _ _ _ _ _ _ _ _ (by omega) (by omega)]
    rfl
  | 7, _, _, hs, hb =>
    rw [show letters 7 = ⟨#[]⟩ from rfl, tail_eq (k + 3) (by omega) 7 nu hnu hs hb _ _ _ (by decide) _ _ _ _ _ _ _ _ h0 h1]
    rfl
  | 8, _, _, hs, hb =>
    rw [show letters 8 = ⟨#[]⟩ from rfl, tail_eq (k + 3) (by omega) 8 nu hnu hs hb _ _ _ (by decide) _ _ _ _ _ _ _ _ h0 h1]
    rfl
  | n + 9, _, h, _, _ => exact absurd h (by omega)
/-- THE LAW: the reference's answer at every word. -/
theorem decode_eq (x : Int) (hx0 : 0 ≤ x) (hx1 : x ≤ 4294967295) (k : Nat) (hk : 36 ≤ k) : cloisterref10_Decode.f k x = some (Isa.dec x) := by
  have e1 : Int.tdiv x 67108864 = x / 67108864 := Int.tdiv_eq_ediv_of_nonneg hx0
  have e2 : Int.tmod x 67108864 = x % 67108864 := Int.tmod_eq_emod_of_nonneg hx0
  obtain ⟨n, hn⟩ : ∃ n : Nat, x / 67108864 = (n : Int) := ⟨(x / 67108864).toNat, by omega⟩
  have hn64 : n < 64 := by omega
  unfold cloisterref10_Decode.f
  rw [show (26 : Int) = ((26 : Nat) : Int) from rfl, pow_ge k (by omega) 26 (by decide)]
  simp only [Option.bind_some]
  rw [if_neg (by decide), w64 x (by omega) (by omega), show ((2 : Int) ^ 26) = 67108864 from rfl, e1, e2, hn, w64 (n : Int) (by omega) (by omega), of_ge k (by omega) n hn64]
  simp only [Option.bind_some]
  unfold Isa.dec
  rw [hn]
  by_cases h : 1 ≤ n ∧ n < 49
  · rw [if_pos h, if_neg (show ¬ ((n : Int) < 1 ∨ 49 ≤ (n : Int)) by omega)]
    simp only [if_true]
    rw [if_neg (by decide)]
    have tf := Isa.table_facts ⟨n, h.2⟩
    simp only at tf
    rw [fields ⟨Isa.formOf n, tf.2.2.1⟩]
    simp only [Option.bind_some]
    rw [show (22 : Int) = ((22 : Nat) : Int) from rfl, pow_ge k (by omega) 22 (by decide)]
    simp only [Option.bind_some]
    exact loop_eq k hk _ _ (tf.2.2.2.1 h.1) tf.2.2.1 tf.1 tf.2.1 _ _ _ _ _ (by omega) (by omega)
  · rw [if_neg h, if_pos (show (n : Int) < 1 ∨ 49 ≤ (n : Int) by omega)]
    simp
end RefD
end Go.Proofs.YtedjkbekhhffeaaDoor
