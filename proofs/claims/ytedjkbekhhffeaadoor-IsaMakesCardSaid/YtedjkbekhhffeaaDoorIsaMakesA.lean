/- IsaMakes: the plain law: the reference's Encode, Text and Uses answer as Isa.enc, Isa.text and Isa.uses do. IsaMakes: the plain law: the reference's Uses answers as Isa.uses does; its decimal writes as strconv.Itoa does. What the walks of the reference's Text share. -/
import Derived.Test.YtedjkbekhhffeaaDoorIsaTop
import Derived.Test.YtedjkbekhhffeaaDoorIsaUses
import Derived.Test.YtedjkbekhhffeaaDoorPIsaMakesx41
import Derived.Test.YtedjkbekhhffeaaDoorIsaUsesWalk
import Derived.Test.YtedjkbekhhffeaaDoorPIsaMakesx42
import Derived.Test.YtedjkbekhhffeaaDoorIsaText0
import Derived.Deep.RegionHeld3

namespace Go.Proofs.YtedjkbekhhffeaaDoor
open Go.RowKit Go.Proofs.YtedjkbekhhffeaaDoorW.PrintWords PIsaMakes
set_option linter.unusedSimpArgs false
set_option linter.unusedVariables false
namespace RefM
def immC (nu : Nat) : Int := if nu = 1 then 115 else if nu = 2 then 117 else if nu = 3 then 110 else 45
def shC (f s : Nat) : Int := if s = 1 then 109 else if f = 1 then 51 else if f = 5 ∨ f = 6 then 49 else if f = 7 then 106 else if f = 8 then 45 else 105
theorem of_20 : ∀ n : Fin 64, cloisterref10_Of.f 20 (n.1 : Int) = some (if 1 ≤ n.1 ∧ n.1 < 49 then (Isa.nameOf n.1, (Isa.formOf n.1 : Int), immC (Isa.numOf n.1), shC (Isa.formOf n.1) (Isa.shapeOf n.1), true) else (⟨#[]⟩, 0, 0, 0, false)) := by
  decide +kernel
theorem pow_30 : ∀ n : Fin 27, cloisterref10_power.f 30 (n.1 : Int) = some (2 ^ n.1) := by decide +kernel
theorem pow_ge (k : Nat) (hk : 30 ≤ k) (n : Nat) (hn : n < 27) : cloisterref10_power.f k (n : Int) = some (2 ^ n) :=
  at_rounds (cloisterref10_power.mono (n : Int)) hk (pow_30 ⟨n, hn⟩)
theorem of_ge (k : Nat) (hk : 30 ≤ k) (n : Nat) (hn : n < 64) : cloisterref10_Of.f k (n : Int) = some (if 1 ≤ n ∧ n < 49 then (Isa.nameOf n, (Isa.formOf n : Int), immC (Isa.numOf n), shC (Isa.formOf n) (Isa.shapeOf n), true) else (⟨#[]⟩, 0, 0, 0, false)) :=
  at_rounds (cloisterref10_Of.mono (n : Int)) (Nat.le_trans (by decide) hk) (of_20 ⟨n, hn⟩)
theorem w64 (n : Int) (h0 : -9223372036854775808 ≤ n) (h1 : n ≤ 9223372036854775807) : wrap64 n = n := by unfold wrap64; omega
/-- The letters of a form's fields. -/
def letters (f : Nat) : ByteArray := if f = 1 then ⟨#[68, 65, 66]⟩ else if f = 2 then ⟨#[68, 65]⟩ else if f = 3 then ⟨#[65, 66]⟩ else if f = 4 then ⟨#[68]⟩ else if f = 5 then ⟨#[68]⟩ else if f = 6 then ⟨#[65]⟩ else ⟨#[]⟩
theorem fields : ∀ f : Fin 9, cloisterref10_Fields.f (f.1 : Int) = some (letters f.1, (Isa.bits f.1 : Int)) := by decide +kernel
theorem takes_eq (k : Nat) (hk : 30 ≤ k) (f nu : Nat) (hnu : nu < 4) (hs : nu = 1 → f = 2 ∨ f = 3 ∨ f = 4) (v : Int) : cloisterref10_takes.f k (immC nu) (Isa.bits f : Int) v = some (Isa.fits f nu v) := by
  match nu, hnu, hs with
  | 0, _, _ =>
    unfold cloisterref10_takes.f
    rw [if_neg (by decide), if_neg (by decide), if_neg (by decide)]
    simp [Isa.fits]
    rfl
  | 1, _, hs =>
    have go : ∀ b : Nat, 1 ≤ b → b ≤ 26 → cloisterref10_takes.f k (immC 1) (b : Int) v = some (decide (-(2 ^ (b - 1) : Int) ≤ v) && decide (v < 2 ^ (b - 1))) := by
      intro b hb hb2
      have e : wrap64 ((b : Int) - 1) = ((b - 1 : Nat) : Int) := by rw [w64 _ (by omega) (by omega)]; omega
      have hp : (2 : Int) ^ (b - 1) ≤ 2 ^ 25 := by exact_mod_cast Nat.pow_le_pow_right (by decide) (by omega)
      have hp0 : (0 : Int) ≤ 2 ^ (b - 1) := by exact_mod_cast Nat.zero_le _
      unfold cloisterref10_takes.f
      rw [if_pos (by decide), e, pow_ge k hk (b - 1) (by omega)]
      simp only [Option.bind_some]
      rw [w64 _ (by omega) (by omega)]
      by_cases h : v ≥ -2 ^ (b - 1)
      · rw [if_pos h]; simp [h]
      · rw [if_neg h]; simp; omega
    rcases hs rfl with rfl | rfl | rfl
    · exact (go 18 (by decide) (by decide)).trans (by simp [Isa.fits, Isa.bits, Isa.layN])
    · exact (go 18 (by decide) (by decide)).trans (by simp [Isa.fits, Isa.bits, Isa.layN])
    · exact (go 22 (by decide) (by decide)).trans (by simp [Isa.fits, Isa.bits, Isa.layN])
  | 2, _, _ =>
    unfold cloisterref10_takes.f
    rw [if_neg (by decide), if_pos (by decide)]
    by_cases h : v ≥ 0
    · rw [if_pos h, show (18 : Int) = ((18 : Nat) : Int) from rfl, pow_ge k hk 18 (by decide)]
      simp [Isa.fits, h]
      omega
    · rw [if_neg h]
      simp [Isa.fits]
      omega
  | 3, _, _ =>
    unfold cloisterref10_takes.f
    rw [if_neg (by decide), if_neg (by decide), if_pos (by decide)]
    by_cases h : v ≥ 0
    · rw [if_pos h]
      simp [Isa.fits, h]
      omega
    · rw [if_neg h]
      simp [Isa.fits]
      omega
  | n + 4, h, _ => exact absurd h (by omega)

theorem of_out (k : Nat) (op : Int) (h : op < 1 ∨ 48 < op) : cloisterref10_Of.f (k + 1) op = some (⟨#[]⟩, 0, 0, 0, false) := by
  unfold cloisterref10_Of.f
  simp only [Option.bind_some]
  by_cases h1 : op < 1
  · rw [if_pos h1, cloisterref10_Of.j0, if_pos rfl]
  · rw [if_neg h1, cloisterref10_Of.j0, if_pos (by simp; omega)]
/-- A field by its letter. -/
def R (d a b c : Int) : Int := if c = 68 then d else if c = 65 then a else b
theorem reg_eq (op d a b m c : Int) (hd : 0 ≤ d ∧ d ≤ 255) (ha : 0 ≤ a ∧ a ≤ 255) (hb : 0 ≤ b ∧ b ≤ 255) : cloisterref10_register.f op d a b m c = some (R d a b c) := by
  unfold cloisterref10_register.f R
  rw [w64 d (by omega) (by omega), w64 a (by omega) (by omega), w64 b (by omega) (by omega)]
  split
  · rfl
  · split <;> rfl
theorem R_le (d a b c : Int) (hd : 0 ≤ d ∧ d ≤ 255) (ha : 0 ≤ a ∧ a ≤ 255) (hb : 0 ≤ b ∧ b ≤ 255) : 0 ≤ R d a b c ∧ R d a b c ≤ 255 := by
  unfold R
  split
  · exact hd
  · split
    · exact ha
    · exact hb
theorem has_eq : ∀ f : Fin 9, cloisterref10_has.f 5 (letters f.1) 68 = some (decide (0 ≤ Isa.atD f.1) && decide (1 ≤ f.1)) ∧ cloisterref10_has.f 5 (letters f.1) 65 = some (decide (0 ≤ Isa.atA f.1) && decide (1 ≤ f.1)) ∧ cloisterref10_has.f 5 (letters f.1) 66 = some (decide (0 ≤ Isa.atB f.1) && decide (1 ≤ f.1)) := by decide +kernel
theorem has_ge (k : Nat) (hk : 5 ≤ k) (f : Nat) (hf : f < 9) (hf1 : 1 ≤ f) : cloisterref10_has.f k (letters f) 68 = some (decide (0 ≤ Isa.atD f)) ∧ cloisterref10_has.f k (letters f) 65 = some (decide (0 ≤ Isa.atA f)) ∧ cloisterref10_has.f k (letters f) 66 = some (decide (0 ≤ Isa.atB f)) := by
  have h := has_eq ⟨f, hf⟩
  simp only [show decide (1 ≤ f) = true by simpa using hf1, Bool.and_true] at h
  exact ⟨at_rounds (cloisterref10_has.mono _ _) hk h.1, at_rounds (cloisterref10_has.mono _ _) hk h.2.1, at_rounds (cloisterref10_has.mono _ _) hk h.2.2⟩
section
variable {op d a b m : Int} (hd : 0 ≤ d ∧ d ≤ 255) (ha : 0 ≤ a ∧ a ≤ 255) (hb : 0 ≤ b ∧ b ≤ 255) (hm : -2147483648 ≤ m ∧ m ≤ 2147483647)
include hd ha hb
/-- One round of the sum. -/
theorem sum_step (k : Nat) (s : ByteArray) (bb x u i : Int) (nm : ByteArray) (fo is sh c : Int) (h0 : 0 ≤ i) (h1 : i < (s.size : Int)) (h2 : bt s i = c) (hs : s.size ≤ 100) (hx0 : 0 ≤ x) (hx1 : x ≤ 8589934592) (hu0 : 0 ≤ u) (hu1 : u ≤ 4194304) :
    cloisterref10_Encode.l0 (k + 1) s bb x u i op d a b m nm fo is sh = cloisterref10_Encode.l0 k s bb (x + u * R d a b c) (u / 16) (i + 1) op d a b m nm fo is sh := by
  have hR := R_le d a b c hd ha hb
  have hp : u * R d a b c ≤ 4194304 * 255 := Int.mul_le_mul hu1 hR.2 hR.1 (by decide)
  have hp0 : 0 ≤ u * R d a b c := Int.mul_nonneg hu0 hR.1
  rw [cloisterref10_Encode.l0, if_pos h1, if_pos h0, h2, reg_eq op d a b m c hd ha hb]
  simp only [Option.bind_some]
  rw [w64 (u * R d a b c) (by omega) (by omega), w64 (x + u * R d a b c) (by omega) (by omega), Int.tdiv_eq_ediv_of_nonneg hu0, w64 (u / 16) (by omega) (by omega), w64 (i + 1) (by omega) (by omega)]
omit hd ha hb in
theorem sum_stop (k : Nat) (s : ByteArray) (bb x u i : Int) (nm : ByteArray) (fo is sh : Int) (h1 : ¬ i < (s.size : Int)) :
    cloisterref10_Encode.l0 (k + 1) s bb x u i op d a b m nm fo is sh = cloisterref10_Encode.l1 k s bb x ⟨#[68, 65, 66]⟩ 0 op d a b m nm fo is sh := by
  rw [cloisterref10_Encode.l0, if_neg h1]
/-- One round of the looks. -/
theorem look_step (k : Nat) (s : ByteArray) (bb x i : Int) (nm : ByteArray) (fo is sh c : Int) (h0 : 0 ≤ i) (h1 : i < 3) (h2 : bt ⟨#[68, 65, 66]⟩ i = c) (hs : Bool) (hh : cloisterref10_has.f k s c = some hs) :
    cloisterref10_Encode.l1 (k + 1) s bb x ⟨#[68, 65, 66]⟩ i op d a b m nm fo is sh = if (decide (R d a b c > 15) || (decide (R d a b c > 0) && !hs)) = true then some (0, 101) else cloisterref10_Encode.l1 k s bb x ⟨#[68, 65, 66]⟩ (i + 1) op d a b m nm fo is sh := by
  have h3 : i < ((⟨#[68, 65, 66]⟩ : ByteArray).size : Int) := h1
  rw [cloisterref10_Encode.l1, if_pos h1, if_pos h0, if_pos h3, h2, reg_eq op d a b m c hd ha hb]
  simp only [Option.bind_some]
  rw [hh]
  simp only [Option.bind_some]
  rw [w64 (i + 1) (by omega) (by omega)]
  by_cases g1 : R d a b c > 15
  · simp [g1]
  · by_cases g2 : R d a b c > 0
    · cases hs <;> simp [g1, g2]
    · simp [g1, g2]
theorem look_all (k : Nat) (hk : 40 ≤ k) (f : Nat) (hf1 : 1 ≤ f) (hf : f < 9) (bb x : Int) (nm : ByteArray) (fo is sh : Int) :
    cloisterref10_Encode.l1 k (letters f) bb x ⟨#[68, 65, 66]⟩ 0 op d a b m nm fo is sh = if (Isa.badAt (Isa.atD f) d || Isa.badAt (Isa.atA f) a || Isa.badAt (Isa.atB f) b) = true then some (0, 101) else cloisterref10_Encode.l1 (k - 3) (letters f) bb x ⟨#[68, 65, 66]⟩ 3 op d a b m nm fo is sh := by
  obtain ⟨k, rfl⟩ : ∃ n, k = n + 3 := ⟨k - 3, by omega⟩
  have key : ∀ (at_ r : Int), (decide (r > 15) || (decide (r > 0) && !(decide (0 ≤ at_)))) = Isa.badAt at_ r := by
    intro at_ r
    unfold Isa.badAt
    have e1 : decide (r > 15) = decide (16 ≤ r) := by rw [decide_eq_decide]; omega
    have e2 : (!decide (0 ≤ at_)) = decide (at_ < 0) := by rw [← decide_not, decide_eq_decide]; omega
    rw [e1, e2, Bool.and_comm (decide (r > 0))]
  have h := fun n hn => has_ge n hn f hf hf1
  rw [look_step hd ha hb (k + 2) _ _ _ 0 _ _ _ _ 68 (by decide) (by decide) (by decide) _ (h _ (by omega)).1, show R d a b 68 = d from rfl, key]
  by_cases b1 : Isa.badAt (Isa.atD f) d = true
  · rw [if_pos b1, if_pos (by simp [b1])]
  · rw [if_neg b1, look_step hd ha hb (k + 1) _ _ _ (0 + 1) _ _ _ _ 65 (by decide) (by decide) (by decide) _ (h _ (by omega)).2.1, show R d a b 65 = a from rfl, key]
    by_cases b2 : Isa.badAt (Isa.atA f) a = true
    · rw [if_pos b2, if_pos (by simp [b2])]
    · rw [if_neg b2, look_step hd ha hb k _ _ _ (0 + 1 + 1) _ _ _ _ 66 (by decide) (by decide) (by decide) _ (h _ (by omega)).2.2, show R d a b 66 = b from rfl, key]
      by_cases b3 : Isa.badAt (Isa.atB f) b = true
      · rw [if_pos b3, if_pos (by simp [b3])]
      · rw [if_neg b3, if_neg (by simp [b1, b2, b3])]
        rfl
end
/-- A number that fits, as it stands in the word. -/
theorem num_in : ∀ (f nu : Nat), ((f = 1 ∧ nu = 0) ∨ (f = 2 ∧ nu = 1) ∨ (f = 2 ∧ nu = 2) ∨ (f = 2 ∧ nu = 3) ∨ (f = 3 ∧ nu = 1) ∨ (f = 4 ∧ nu = 1) ∨ (f = 4 ∧ nu = 2) ∨ (f = 5 ∧ nu = 0) ∨ (f = 6 ∧ nu = 0) ∨ (f = 7 ∧ nu = 2) ∨ (f = 8 ∧ nu = 0)) → ∀ m : Int, Isa.fits f nu m = true → (m < 0 → m + 2 ^ Isa.bits f = m % 2 ^ Isa.bits f) ∧ (0 ≤ m → m = m % 2 ^ Isa.bits f) ∧ Isa.bits f < 27 := by
  intro f nu hc m h
  rcases hc with ⟨rfl, rfl⟩ | ⟨rfl, rfl⟩ | ⟨rfl, rfl⟩ | ⟨rfl, rfl⟩ | ⟨rfl, rfl⟩ | ⟨rfl, rfl⟩ | ⟨rfl, rfl⟩ | ⟨rfl, rfl⟩ | ⟨rfl, rfl⟩ | ⟨rfl, rfl⟩ | ⟨rfl, rfl⟩ <;> simp [Isa.fits, Isa.bits, Isa.layN] at h ⊢ <;> omega
theorem look_end (k : Nat) (hk : 37 ≤ k) (f nu : Nat) (hnu : nu < 4) (hs : nu = 1 → f = 2 ∨ f = 3 ∨ f = 4) (hc : (f = 1 ∧ nu = 0) ∨ (f = 2 ∧ nu = 1) ∨ (f = 2 ∧ nu = 2) ∨ (f = 2 ∧ nu = 3) ∨ (f = 3 ∧ nu = 1) ∨ (f = 4 ∧ nu = 1) ∨ (f = 4 ∧ nu = 2) ∨ (f = 5 ∧ nu = 0) ∨ (f = 6 ∧ nu = 0) ∨ (f = 7 ∧ nu = 2) ∨ (f = 8 ∧ nu = 0)) (op d a b m x : Int) (hm : -2147483648 ≤ m ∧ m ≤ 2147483647) (hx0 : 0 ≤ x) (hx1 : x % 67108864 = 0 ∨ x % 2 ^ Isa.bits f = 0) (hx2 : x + 2 ^ Isa.bits f ≤ 4294967296) (s nm : ByteArray) (fo sh : Int) :
    cloisterref10_Encode.l1 k s (Isa.bits f : Int) x ⟨#[68, 65, 66]⟩ 3 op d a b m nm fo (immC nu) sh = if Isa.fits f nu m = true then some (x + m % 2 ^ Isa.bits f, 0) else some (0, 102) := by
  obtain ⟨k, rfl⟩ : ∃ n, k = n + 1 := ⟨k - 1, by omega⟩
  rw [cloisterref10_Encode.l1, if_neg (by decide), w64 m (by omega) (by omega), takes_eq k (by omega) f nu hnu hs]
  simp only [Option.bind_some]
  by_cases h : Isa.fits f nu m = true
  · rw [if_pos h, if_pos h]
    obtain ⟨n1, n2, n3⟩ := num_in f nu hc m h
    have hp : (2 : Int) ^ Isa.bits f ≤ 2 ^ 26 := by exact_mod_cast Nat.pow_le_pow_right (by decide) (by omega)
    have hp0 : (0 : Int) < 2 ^ Isa.bits f := by exact_mod_cast Nat.two_pow_pos _
    have q0 := Int.emod_nonneg m (show (2 : Int) ^ Isa.bits f ≠ 0 by omega)
    have q1 := Int.emod_lt_of_pos m hp0
    by_cases hneg : m < 0
    · rw [if_pos hneg, pow_ge k (by omega) _ n3]
      simp only [Option.bind_some]
      rw [w64 (m + 2 ^ Isa.bits f) (by omega) (by omega), n1 hneg, w64 _ (by omega) (by omega), Int.emod_eq_of_lt (a := x + m % 2 ^ Isa.bits f) (by omega) (by omega)]
    · have e := n2 (by omega)
      rw [if_neg hneg, w64 (x + m) (by omega) (by omega)]
      have e2 : (x + m) % 4294967296 = x + m := Int.emod_eq_of_lt (by omega) (by omega)
      rw [e2, ← e]
  · rw [if_neg h, if_neg h]
theorem form_eq1 (k : Nat) (hk : 60 ≤ k) (nu : Nat) (hnu : nu < 4) (hs : nu = 1 → 1 = 2 ∨ 1 = 3 ∨ 1 = 4) (hc : (1 = 1 ∧ nu = 0) ∨ (1 = 2 ∧ nu = 1) ∨ (1 = 2 ∧ nu = 2) ∨ (1 = 2 ∧ nu = 3) ∨ (1 = 3 ∧ nu = 1) ∨ (1 = 4 ∧ nu = 1) ∨ (1 = 4 ∧ nu = 2) ∨ (1 = 5 ∧ nu = 0) ∨ (1 = 6 ∧ nu = 0) ∨ (1 = 7 ∧ nu = 2) ∨ (1 = 8 ∧ nu = 0)) (n : Int) (hn : 1 ≤ n ∧ n < 49) (d a b m : Int) (hd : 0 ≤ d ∧ d ≤ 255) (ha : 0 ≤ a ∧ a ≤ 255) (hb : 0 ≤ b ∧ b ≤ 255) (hm : -2147483648 ≤ m ∧ m ≤ 2147483647) (nm : ByteArray) (fo sh : Int) :
    cloisterref10_Encode.l0 k (letters 1) (Isa.bits 1 : Int) (n * 67108864) 4194304 0 n d a b m nm fo (immC nu) sh = some (Isa.encF 1 nu n d a b m) := by
  obtain ⟨k, rfl⟩ : ∃ n, k = n + 4 := ⟨k - 4, by omega⟩
  rw [show letters 1 = ⟨#[68, 65, 66]⟩ from rfl]
  rw [sum_step hd ha hb (k + 3) _ _ (n * 67108864) (4194304) (0) _ _ _ _ 68 (by decide) (by decide) (by decide) (by decide) (by omega) (by omega) (by decide) (by decide), show R d a b 68 = d from rfl]
  rw [sum_step hd ha hb (k + 2) _ _ (n * 67108864 + 4194304 * d) (4194304 / 16) (0 + 1) _ _ _ _ 65 (by decide) (by decide) (by decide) (by decide) (by omega) (by omega) (by decide) (by decide), show R d a b 65 = a from rfl]
  rw [sum_step hd ha hb (k + 1) _ _ (n * 67108864 + 4194304 * d + (4194304 / 16) * a) (4194304 / 16 / 16) (0 + 1 + 1) _ _ _ _ 66 (by decide) (by decide) (by decide) (by decide) (by omega) (by omega) (by decide) (by decide), show R d a b 66 = b from rfl]
  rw [sum_stop (k + 0) _ _ (n * 67108864 + 4194304 * d + (4194304 / 16) * a + (4194304 / 16 / 16) * b) (4194304 / 16 / 16 / 16) (0 + 1 + 1 + 1) _ _ _ _ (by decide)]
  refine (look_all hd ha hb (k + 0) (by omega) 1 (by decide) (by decide) _ _ _ _ _ _).trans ?_
  unfold Isa.encF
  by_cases hbad : (Isa.badAt (Isa.atD 1) d || Isa.badAt (Isa.atA 1) a || Isa.badAt (Isa.atB 1) b) = true
  · rw [if_pos hbad, if_pos hbad]
  · rw [if_neg hbad, if_neg hbad]
    have nb := hbad
    simp only [Bool.or_eq_true, not_or, Bool.not_eq_true] at nb
    have g1 := Isa.badAt_le nb.1.1
    have g2 := Isa.badAt_le nb.1.2
    have g3 := Isa.badAt_le nb.2
    simp [Isa.atD, Isa.atA, Isa.atB, Isa.layD, Isa.layA, Isa.layB] at g1 g2 g3
    rw [look_end (k + 0 - 3) (by omega) 1 nu hnu hs hc n d a b m _ hm (by omega) (.inr (by simp [Isa.bits, Isa.layN]; try omega)) (by simp [Isa.bits, Isa.layN]; omega)]
    by_cases hF : Isa.fits 1 nu m = true
    · rw [if_pos hF, if_pos hF]
      have e : Isa.wordF 1 n d a b m = n * 67108864 + 4194304 * d + (4194304 / 16) * a + (4194304 / 16 / 16) * b + m % 2 ^ Isa.bits 1 := by
        simp [Isa.wordF, Isa.place, Isa.atD, Isa.atA, Isa.atB, Isa.layD, Isa.layA, Isa.layB] <;> omega
      rw [e]
    · rw [if_neg hF, if_neg hF]
theorem form_eq2 (k : Nat) (hk : 60 ≤ k) (nu : Nat) (hnu : nu < 4) (hs : nu = 1 → 2 = 2 ∨ 2 = 3 ∨ 2 = 4) (hc : (2 = 1 ∧ nu = 0) ∨ (2 = 2 ∧ nu = 1) ∨ (2 = 2 ∧ nu = 2) ∨ (2 = 2 ∧ nu = 3) ∨ (2 = 3 ∧ nu = 1) ∨ (2 = 4 ∧ nu = 1) ∨ (2 = 4 ∧ nu = 2) ∨ (2 = 5 ∧ nu = 0) ∨ (2 = 6 ∧ nu = 0) ∨ (2 = 7 ∧ nu = 2) ∨ (2 = 8 ∧ nu = 0)) (n : Int) (hn : 1 ≤ n ∧ n < 49) (d a b m : Int) (hd : 0 ≤ d ∧ d ≤ 255) (ha : 0 ≤ a ∧ a ≤ 255) (hb : 0 ≤ b ∧ b ≤ 255) (hm : -2147483648 ≤ m ∧ m ≤ 2147483647) (nm : ByteArray) (fo sh : Int) :
    cloisterref10_Encode.l0 k (letters 2) (Isa.bits 2 : Int) (n * 67108864) 4194304 0 n d a b m nm fo (immC nu) sh = some (Isa.encF 2 nu n d a b m) := by
  obtain ⟨k, rfl⟩ : ∃ n, k = n + 4 := ⟨k - 4, by omega⟩
  rw [show letters 2 = ⟨#[68, 65]⟩ from rfl]
  rw [sum_step hd ha hb (k + 3) _ _ (n * 67108864) (4194304) (0) _ _ _ _ 68 (by decide) (by decide) (by decide) (by decide) (by omega) (by omega) (by decide) (by decide), show R d a b 68 = d from rfl]
  rw [sum_step hd ha hb (k + 2) _ _ (n * 67108864 + 4194304 * d) (4194304 / 16) (0 + 1) _ _ _ _ 65 (by decide) (by decide) (by decide) (by decide) (by omega) (by omega) (by decide) (by decide), show R d a b 65 = a from rfl]
  rw [sum_stop (k + 1) _ _ (n * 67108864 + 4194304 * d + (4194304 / 16) * a) (4194304 / 16 / 16) (0 + 1 + 1) _ _ _ _ (by decide)]
  refine (look_all hd ha hb (k + 1) (by omega) 2 (by decide) (by decide) _ _ _ _ _ _).trans ?_
  unfold Isa.encF
  by_cases hbad : (Isa.badAt (Isa.atD 2) d || Isa.badAt (Isa.atA 2) a || Isa.badAt (Isa.atB 2) b) = true
  · rw [if_pos hbad, if_pos hbad]
  · rw [if_neg hbad, if_neg hbad]
    have nb := hbad
    simp only [Bool.or_eq_true, not_or, Bool.not_eq_true] at nb
    have g1 := Isa.badAt_le nb.1.1
    have g2 := Isa.badAt_le nb.1.2
    have g3 := Isa.badAt_le nb.2
    simp [Isa.atD, Isa.atA, Isa.atB, Isa.layD, Isa.layA, Isa.layB] at g1 g2 g3
    rw [look_end (k + 1 - 3) (by omega) 2 nu hnu hs hc n d a b m _ hm (by omega) (.inr (by simp [Isa.bits, Isa.layN]; try omega)) (by simp [Isa.bits, Isa.layN]; omega)]
    by_cases hF : Isa.fits 2 nu m = true
    · rw [if_pos hF, if_pos hF]
      have e : Isa.wordF 2 n d a b m = n * 67108864 + 4194304 * d + (4194304 / 16) * a + m % 2 ^ Isa.bits 2 := by
        simp [Isa.wordF, Isa.place, Isa.atD, Isa.atA, Isa.atB, Isa.layD, Isa.layA, Isa.layB] <;> omega
      rw [e]
    · rw [if_neg hF, if_neg hF]
theorem form_eq3 (k : Nat) (hk : 60 ≤ k) (nu : Nat) (hnu : nu < 4) (hs : nu = 1 → 3 = 2 ∨ 3 = 3 ∨ 3 = 4) (hc : (3 = 1 ∧ nu = 0) ∨ (3 = 2 ∧ nu = 1) ∨ (3 = 2 ∧ nu = 2) ∨ (3 = 2 ∧ nu = 3) ∨ (3 = 3 ∧ nu = 1) ∨ (3 = 4 ∧ nu = 1) ∨ (3 = 4 ∧ nu = 2) ∨ (3 = 5 ∧ nu = 0) ∨ (3 = 6 ∧ nu = 0) ∨ (3 = 7 ∧ nu = 2) ∨ (3 = 8 ∧ nu = 0)) (n : Int) (hn : 1 ≤ n ∧ n < 49) (d a b m : Int) (hd : 0 ≤ d ∧ d ≤ 255) (ha : 0 ≤ a ∧ a ≤ 255) (hb : 0 ≤ b ∧ b ≤ 255) (hm : -2147483648 ≤ m ∧ m ≤ 2147483647) (nm : ByteArray) (fo sh : Int) :
    cloisterref10_Encode.l0 k (letters 3) (Isa.bits 3 : Int) (n * 67108864) 4194304 0 n d a b m nm fo (immC nu) sh = some (Isa.encF 3 nu n d a b m) := by
  obtain ⟨k, rfl⟩ : ∃ n, k = n + 4 := ⟨k - 4, by omega⟩
  rw [show letters 3 = ⟨#[65, 66]⟩ from rfl]
  rw [sum_step hd ha hb (k + 3) _ _ (n * 67108864) (4194304) (0) _ _ _ _ 65 (by decide) (by decide) (by decide) (by decide) (by omega) (by omega) (by decide) (by decide), show R d a b 65 = a from rfl]
  rw [sum_step hd ha hb (k + 2) _ _ (n * 67108864 + 4194304 * a) (4194304 / 16) (0 + 1) _ _ _ _ 66 (by decide) (by decide) (by decide) (by decide) (by omega) (by omega) (by decide) (by decide), show R d a b 66 = b from rfl]
  rw [sum_stop (k + 1) _ _ (n * 67108864 + 4194304 * a + (4194304 / 16) * b) (4194304 / 16 / 16) (0 + 1 + 1) _ _ _ _ (by decide)]
  refine (look_all hd ha hb (k + 1) (by omega) 3 (by decide) (by decide) _ _ _ _ _ _).trans ?_
  unfold Isa.encF
  by_cases hbad : (Isa.badAt (Isa.atD 3) d || Isa.badAt (Isa.atA 3) a || Isa.badAt (Isa.atB 3) b) = true
  · rw [if_pos hbad, if_pos hbad]
  · rw [if_neg hbad, if_neg hbad]
    have nb := hbad
    simp only [Bool.or_eq_true, not_or, Bool.not_eq_true] at nb
    have g1 := Isa.badAt_le nb.1.1
    have g2 := Isa.badAt_le nb.1.2
    have g3 := Isa.badAt_le nb.2
    simp [Isa.atD, Isa.atA, Isa.atB, Isa.layD, Isa.layA, Isa.layB] at g1 g2 g3
    rw [look_end (k + 1 - 3) (by omega) 3 nu hnu hs hc n d a b m _ hm (by omega) (.inr (by simp [Isa.bits, Isa.layN]; try omega)) (by simp [Isa.bits, Isa.layN]; omega)]
    by_cases hF : Isa.fits 3 nu m = true
    · rw [if_pos hF, if_pos hF]
      have e : Isa.wordF 3 n d a b m = n * 67108864 + 4194304 * a + (4194304 / 16) * b + m % 2 ^ Isa.bits 3 := by
        simp [Isa.wordF, Isa.place, Isa.atD, Isa.atA, Isa.atB, Isa.layD, Isa.layA, Isa.layB] <;> omega
      rw [e]
    · rw [if_neg hF, if_neg hF]
theorem form_eq4 (k : Nat) (hk : 60 ≤ k) (nu : Nat) (hnu : nu < 4) (hs : nu = 1 → 4 = 2 ∨ 4 = 3 ∨ 4 = 4) (hc : (4 = 1 ∧ nu = 0) ∨ (4 = 2 ∧ nu = 1) ∨ (4 = 2 ∧ nu = 2) ∨ (4 = 2 ∧ nu = 3) ∨ (4 = 3 ∧ nu = 1) ∨ (4 = 4 ∧ nu = 1) ∨ (4 = 4 ∧ nu = 2) ∨ (4 = 5 ∧ nu = 0) ∨ (4 = 6 ∧ nu = 0) ∨ (4 = 7 ∧ nu = 2) ∨ (4 = 8 ∧ nu = 0)) (n : Int) (hn : 1 ≤ n ∧ n < 49) (d a b m : Int) (hd : 0 ≤ d ∧ d ≤ 255) (ha : 0 ≤ a ∧ a ≤ 255) (hb : 0 ≤ b ∧ b ≤ 255) (hm : -2147483648 ≤ m ∧ m ≤ 2147483647) (nm : ByteArray) (fo sh : Int) :
    cloisterref10_Encode.l0 k (letters 4) (Isa.bits 4 : Int) (n * 67108864) 4194304 0 n d a b m nm fo (immC nu) sh = some (Isa.encF 4 nu n d a b m) := by
  obtain ⟨k, rfl⟩ : ∃ n, k = n + 4 := ⟨k - 4, by omega⟩
  rw [show letters 4 = ⟨#[68]⟩ from rfl]
  rw [sum_step hd ha hb (k + 3) _ _ (n * 67108864) (4194304) (0) _ _ _ _ 68 (by decide) (by decide) (by decide) (by decide) (by omega) (by omega) (by decide) (by decide), show R d a b 68 = d from rfl]
  rw [sum_stop (k + 2) _ _ (n * 67108864 + 4194304 * d) (4194304 / 16) (0 + 1) _ _ _ _ (by decide)]
  refine (look_all hd ha hb (k + 2) (by omega) 4 (by decide) (by decide) _ _ _ _ _ _).trans ?_
  unfold Isa.encF
  by_cases hbad : (Isa.badAt (Isa.atD 4) d || Isa.badAt (Isa.atA 4) a || Isa.badAt (Isa.atB 4) b) = true
  · rw [if_pos hbad, if_pos hbad]
  · rw [if_neg hbad, if_neg hbad]
    have nb := hbad
    simp only [Bool.or_eq_true, not_or, Bool.not_eq_true] at nb
    have g1 := Isa.badAt_le nb.1.1
    have g2 := Isa.badAt_le nb.1.2
    have g3 := Isa.badAt_le nb.2
    simp [Isa.atD, Isa.atA, Isa.atB, Isa.layD, Isa.layA, Isa.layB] at g1 g2 g3
    rw [look_end (k + 2 - 3) (by omega) 4 nu hnu hs hc n d a b m _ hm (by omega) (.inr (by simp [Isa.bits, Isa.layN]; try omega)) (by simp [Isa.bits, Isa.layN]; omega)]
    by_cases hF : Isa.fits 4 nu m = true
    · rw [if_pos hF, if_pos hF]
      have e : Isa.wordF 4 n d a b m = n * 67108864 + 4194304 * d + m % 2 ^ Isa.bits 4 := by
        simp [Isa.wordF, Isa.place, Isa.atD, Isa.atA, Isa.atB, Isa.layD, Isa.layA, Isa.layB] <;> omega
      rw [e]
    · rw [if_neg hF, if_neg hF]
theorem form_eq5 (k : Nat) (hk : 60 ≤ k) (nu : Nat) (hnu : nu < 4) (hs : nu = 1 → 5 = 2 ∨ 5 = 3 ∨ 5 = 4) (hc : (5 = 1 ∧ nu = 0) ∨ (5 = 2 ∧ nu = 1) ∨ (5 = 2 ∧ nu = 2) ∨ (5 = 2 ∧ nu = 3) ∨ (5 = 3 ∧ nu = 1) ∨ (5 = 4 ∧ nu = 1) ∨ (5 = 4 ∧ nu = 2) ∨ (5 = 5 ∧ nu = 0) ∨ (5 = 6 ∧ nu = 0) ∨ (5 = 7 ∧ nu = 2) ∨ (5 = 8 ∧ nu = 0)) (n : Int) (hn : 1 ≤ n ∧ n < 49) (d a b m : Int) (hd : 0 ≤ d ∧ d ≤ 255) (ha : 0 ≤ a ∧ a ≤ 255) (hb : 0 ≤ b ∧ b ≤ 255) (hm : -2147483648 ≤ m ∧ m ≤ 2147483647) (nm : ByteArray) (fo sh : Int) :
    cloisterref10_Encode.l0 k (letters 5) (Isa.bits 5 : Int) (n * 67108864) 4194304 0 n d a b m nm fo (immC nu) sh = some (Isa.encF 5 nu n d a b m) := by
  obtain ⟨k, rfl⟩ : ∃ n, k = n + 4 := ⟨k - 4, by omega⟩
  rw [show letters 5 = ⟨#[68]⟩ from rfl]
  rw [sum_step hd ha hb (k + 3) _ _ (n * 67108864) (4194304) (0) _ _ _ _ 68 (by decide) (by decide) (by decide) (by decide) (by omega) (by omega) (by decide) (by decide), show R d a b 68 = d from rfl]
  rw [sum_stop (k + 2) _ _ (n * 67108864 + 4194304 * d) (4194304 / 16) (0 + 1) _ _ _ _ (by decide)]
  refine (look_all hd ha hb (k + 2) (by omega) 5 (by decide) (by decide) _ _ _ _ _ _).trans ?_
  unfold Isa.encF
  by_cases hbad : (Isa.badAt (Isa.atD 5) d || Isa.badAt (Isa.atA 5) a || Isa.badAt (Isa.atB 5) b) = true
  · rw [if_pos hbad, if_pos hbad]
  · rw [if_neg hbad, if_neg hbad]
    have nb := hbad
    simp only [Bool.or_eq_true, not_or, Bool.not_eq_true] at nb
    have g1 := Isa.badAt_le nb.1.1
    have g2 := Isa.badAt_le nb.1.2
    have g3 := Isa.badAt_le nb.2
    simp [Isa.atD, Isa.atA, Isa.atB, Isa.layD, Isa.layA, Isa.layB] at g1 g2 g3
    rw [look_end (k + 2 - 3) (by omega) 5 nu hnu hs hc n d a b m _ hm (by omega) (.inr (by simp [Isa.bits, Isa.layN]; try omega)) (by simp [Isa.bits, Isa.layN]; omega)]
    by_cases hF : Isa.fits 5 nu m = true
    · rw [if_pos hF, if_pos hF]
      have e : Isa.wordF 5 n d a b m = n * 67108864 + 4194304 * d + m % 2 ^ Isa.bits 5 := by
        simp [Isa.wordF, Isa.place, Isa.atD, Isa.atA, Isa.atB, Isa.layD, Isa.layA, Isa.layB] <;> omega
      rw [e]
    · rw [if_neg hF, if_neg hF]
theorem form_eq6 (k : Nat) (hk : 60 ≤ k) (nu : Nat) (hnu : nu < 4) (hs : nu = 1 → 6 = 2 ∨ 6 = 3 ∨ 6 = 4) (hc : (6 = 1 ∧ nu = 0) ∨ (6 = 2 ∧ nu = 1) ∨ (6 = 2 ∧ nu = 2) ∨ (6 = 2 ∧ nu = 3) ∨ (6 = 3 ∧ nu = 1) ∨ (6 = 4 ∧ nu = 1) ∨ (6 = 4 ∧ nu = 2) ∨ (6 = 5 ∧ nu = 0) ∨ (6 = 6 ∧ nu = 0) ∨ (6 = 7 ∧ nu = 2) ∨ (6 = 8 ∧ nu = 0)) (n : Int) (hn : 1 ≤ n ∧ n < 49) (d a b m : Int) (hd : 0 ≤ d ∧ d ≤ 255) (ha : 0 ≤ a ∧ a ≤ 255) (hb : 0 ≤ b ∧ b ≤ 255) (hm : -2147483648 ≤ m ∧ m ≤ 2147483647) (nm : ByteArray) (fo sh : Int) :
    cloisterref10_Encode.l0 k (letters 6) (Isa.bits 6 : Int) (n * 67108864) 4194304 0 n d a b m nm fo (immC nu) sh = some (Isa.encF 6 nu n d a b m) := by
  obtain ⟨k, rfl⟩ : ∃ n, k = n + 4 := ⟨k - 4, by omega⟩
  rw [show letters 6 = ⟨#[65]⟩ from rfl]
  rw [sum_step hd ha hb (k + 3) _ _ (n * 67108864) (4194304) (0) _ _ _ _ 65 (by decide) (by decide) (by decide) (by decide) (by omega) (by omega) (by decide) (by decide), show R d a b 65 = a from rfl]
  rw [sum_stop (k + 2) _ _ (n * 67108864 + 4194304 * a) (4194304 / 16) (0 + 1) _ _ _ _ (by decide)]
  refine (look_all hd ha hb (k + 2) (by omega) 6 (by decide) (by decide) _ _ _ _ _ _).trans ?_
  unfold Isa.encF
  by_cases hbad : (Isa.badAt (Isa.atD 6) d || Isa.badAt (Isa.atA 6) a || Isa.badAt (Isa.atB 6) b) = true
  · rw [if_pos hbad, if_pos hbad]
  · rw [if_neg hbad, if_neg hbad]
    have nb := hbad
    simp only [Bool.or_eq_true, not_or, Bool.not_eq_true] at nb
    have g1 := Isa.badAt_le nb.1.1
    have g2 := Isa.badAt_le nb.1.2
    have g3 := Isa.badAt_le nb.2
    simp [Isa.atD, Isa.atA, Isa.atB, Isa.layD, Isa.layA, Isa.layB] at g1 g2 g3
    rw [look_end (k + 2 - 3) (by omega) 6 nu hnu hs hc n d a b m _ hm (by omega) (.inr (by simp [Isa.bits, Isa.layN]; try omega)) (by simp [Isa.bits, Isa.layN]; omega)]
    by_cases hF : Isa.fits 6 nu m = true
    · rw [if_pos hF, if_pos hF]
      have e : Isa.wordF 6 n d a b m = n * 67108864 + 4194304 * a + m % 2 ^ Isa.bits 6 := by
        simp [Isa.wordF, Isa.place, Isa.atD, Isa.atA, Isa.atB, Isa.layD, Isa.layA, Isa.layB] <;> omega
      rw [e]
    · rw [if_neg hF, if_neg hF]
theorem form_eq7 (k : Nat) (hk : 60 ≤ k) (nu : Nat) (hnu : nu < 4) (hs : nu = 1 → 7 = 2 ∨ 7 = 3 ∨ 7 = 4) (hc : (7 = 1 ∧ nu = 0) ∨ (7 = 2 ∧ nu = 1) ∨ (7 = 2 ∧ nu = 2) ∨ (7 = 2 ∧ nu = 3) ∨ (7 = 3 ∧ nu = 1) ∨ (7 = 4 ∧ nu = 1) ∨ (7 = 4 ∧ nu = 2) ∨ (7 = 5 ∧ nu = 0) ∨ (7 = 6 ∧ nu = 0) ∨ (7 = 7 ∧ nu = 2) ∨ (7 = 8 ∧ nu = 0)) (n : Int) (hn : 1 ≤ n ∧ n < 49) (d a b m : Int) (hd : 0 ≤ d ∧ d ≤ 255) (ha : 0 ≤ a ∧ a ≤ 255) (hb : 0 ≤ b ∧ b ≤ 255) (hm : -2147483648 ≤ m ∧ m ≤ 2147483647) (nm : ByteArray) (fo sh : Int) :
    cloisterref10_Encode.l0 k (letters 7) (Isa.bits 7 : Int) (n * 67108864) 4194304 0 n d a b m nm fo (immC nu) sh = some (Isa.encF 7 nu n d a b m) := by
  obtain ⟨k, rfl⟩ : ∃ n, k = n + 4 := ⟨k - 4, by omega⟩
  rw [show letters 7 = ⟨#[]⟩ from rfl]
  rw [sum_stop (k + 3) _ _ (n * 67108864) (4194304) (0) _ _ _ _ (by decide)]
  refine (look_all hd ha hb (k + 3) (by omega) 7 (by decide) (by decide) _ _ _ _ _ _).trans ?_
  unfold Isa.encF
  by_cases hbad : (Isa.badAt (Isa.atD 7) d || Isa.badAt (Isa.atA 7) a || Isa.badAt (Isa.atB 7) b) = true
  · rw [if_pos hbad, if_pos hbad]
  · rw [if_neg hbad, if_neg hbad]
    have nb := hbad
    simp only [Bool.or_eq_true, not_or, Bool.not_eq_true] at nb
    have g1 := Isa.badAt_le nb.1.1
    have g2 := Isa.badAt_le nb.1.2
    have g3 := Isa.badAt_le nb.2
    simp [Isa.atD, Isa.atA, Isa.atB, Isa.layD, Isa.layA, Isa.layB] at g1 g2 g3
    rw [look_end (k + 3 - 3) (by omega) 7 nu hnu hs hc n d a b m _ hm (by omega) (.inr (by simp [Isa.bits, Isa.layN]; try omega)) (by simp [Isa.bits, Isa.layN]; omega)]
    by_cases hF : Isa.fits 7 nu m = true
    · rw [if_pos hF, if_pos hF]
      have e : Isa.wordF 7 n d a b m = n * 67108864 + m % 2 ^ Isa.bits 7 := by
        simp [Isa.wordF, Isa.place, Isa.atD, Isa.atA, Isa.atB, Isa.layD, Isa.layA, Isa.layB] <;> omega
      rw [e]
    · rw [if_neg hF, if_neg hF]
theorem form_eq8 (k : Nat) (hk : 60 ≤ k) (nu : Nat) (hnu : nu < 4) (hs : nu = 1 → 8 = 2 ∨ 8 = 3 ∨ 8 = 4) (hc : (8 = 1 ∧ nu = 0) ∨ (8 = 2 ∧ nu = 1) ∨ (8 = 2 ∧ nu = 2) ∨ (8 = 2 ∧ nu = 3) ∨ (8 = 3 ∧ nu = 1) ∨ (8 = 4 ∧ nu = 1) ∨ (8 = 4 ∧ nu = 2) ∨ (8 = 5 ∧ nu = 0) ∨ (8 = 6 ∧ nu = 0) ∨ (8 = 7 ∧ nu = 2) ∨ (8 = 8 ∧ nu = 0)) (n : Int) (hn : 1 ≤ n ∧ n < 49) (d a b m : Int) (hd : 0 ≤ d ∧ d ≤ 255) (ha : 0 ≤ a ∧ a ≤ 255) (hb : 0 ≤ b ∧ b ≤ 255) (hm : -2147483648 ≤ m ∧ m ≤ 2147483647) (nm : ByteArray) (fo sh : Int) :
    cloisterref10_Encode.l0 k (letters 8) (Isa.bits 8 : Int) (n * 67108864) 4194304 0 n d a b m nm fo (immC nu) sh = some (Isa.encF 8 nu n d a b m) := by
  obtain ⟨k, rfl⟩ : ∃ n, k = n + 4 := ⟨k - 4, by omega⟩
  rw [show letters 8 = ⟨#[]⟩ from rfl]
  rw [sum_stop (k + 3) _ _ (n * 67108864) (4194304) (0) _ _ _ _ (by decide)]
  refine (look_all hd ha hb (k + 3) (by omega) 8 (by decide) (by decide) _ _ _ _ _ _).trans ?_
  unfold Isa.encF
  by_cases hbad : (Isa.badAt (Isa.atD 8) d || Isa.badAt (Isa.atA 8) a || Isa.badAt (Isa.atB 8) b) = true
  · rw [if_pos hbad, if_pos hbad]
  · rw [if_neg hbad, if_neg hbad]
    have nb := hbad
    simp only [Bool.or_eq_true, not_or, Bool.not_eq_true] at nb
    have g1 := Isa.badAt_le nb.1.1
    have g2 := Isa.badAt_le nb.1.2
    have g3 := Isa.badAt_le nb.2
    simp [Isa.atD, Isa.atA, Isa.atB, Isa.layD, Isa.layA, Isa.layB] at g1 g2 g3
    rw [look_end (k + 3 - 3) (by omega) 8 nu hnu hs hc n d a b m _ hm (by omega) (.inr (by simp [Isa.bits, Isa.layN]; try omega)) (by simp [Isa.bits, Isa.layN]; omega)]
    by_cases hF : Isa.fits 8 nu m = true
    · rw [if_pos hF, if_pos hF]
      have e : Isa.wordF 8 n d a b m = n * 67108864 + m % 2 ^ Isa.bits 8 := by
        simp [Isa.wordF, Isa.place, Isa.atD, Isa.atA, Isa.atB, Isa.layD, Isa.layA, Isa.layB] <;> omega
      rw [e]
    · rw [if_neg hF, if_neg hF]
/-- Encode. -/
theorem enc_eq (k : Nat) (hk : 60 ≤ k) (op d a b m : Int) (hd : 0 ≤ d ∧ d ≤ 255) (ha : 0 ≤ a ∧ a ≤ 255) (hb : 0 ≤ b ∧ b ≤ 255) (hm : -2147483648 ≤ m ∧ m ≤ 2147483647) : cloisterref10_Encode.f k op d a b m = some (Isa.enc op d a b m) := by
  unfold cloisterref10_Encode.f Isa.enc
  by_cases h : op < 1 ∨ 49 ≤ op
  · obtain ⟨k', rfl⟩ : ∃ n, k = n + 1 := ⟨k - 1, by omega⟩
    rw [if_pos h, of_out k' op (by omega)]
    simp
  · rw [if_neg h]
    obtain ⟨n, rfl⟩ : ∃ n : Nat, op = (n : Int) := ⟨op.toNat, by omega⟩
    have hn : 1 ≤ n ∧ n < 49 := by omega
    rw [of_ge k (by omega) n (by omega), if_pos hn]
    simp only [Option.bind_some, if_true, Int.toNat_natCast]
    have tf := Isa.table_facts ⟨n, hn.2⟩
    simp only at tf
    rw [fields ⟨Isa.formOf n, tf.2.2.1⟩]
    simp only [Option.bind_some]
    rw [show (26 : Int) = ((26 : Nat) : Int) from rfl, pow_ge k (by omega) 26 (by decide)]
    simp only [Option.bind_some]
    rw [show (22 : Int) = ((22 : Nat) : Int) from rfl, pow_ge k (by omega) 22 (by decide)]
    simp only [Option.bind_some]
    rw [show ((2 : Int) ^ 26) = 67108864 from rfl, show ((2 : Int) ^ 22) = 4194304 from rfl, w64 ((n : Int) * 67108864) (by omega) (by omega)]
    have hc := Isa.combos ⟨n, hn.2⟩ hn.1
    simp only at hc
    have tf2 := tf.2.1
    have tf1 := tf.1
    generalize Isa.numOf n = nu at hc tf1 tf2
    generalize Isa.formOf n = f at hc tf2
    rcases hc with ⟨rfl, rfl⟩ | ⟨rfl, rfl⟩ | ⟨rfl, rfl⟩ | ⟨rfl, rfl⟩ | ⟨rfl, rfl⟩ | ⟨rfl, rfl⟩ | ⟨rfl, rfl⟩ | ⟨rfl, rfl⟩ | ⟨rfl, rfl⟩ | ⟨rfl, rfl⟩ | ⟨rfl, rfl⟩
    · exact form_eq1 k hk 0 (by decide) (by decide) (by decide) (n : Int) (by omega) d a b m hd ha hb hm _ _ _
    · exact form_eq2 k hk 1 (by decide) (by decide) (by decide) (n : Int) (by omega) d a b m hd ha hb hm _ _ _
    · exact form_eq2 k hk 2 (by decide) (by decide) (by decide) (n : Int) (by omega) d a b m hd ha hb hm _ _ _
    · exact form_eq2 k hk 3 (by decide) (by decide) (by decide) (n : Int) (by omega) d a b m hd ha hb hm _ _ _
    · exact form_eq3 k hk 1 (by decide) (by decide) (by decide) (n : Int) (by omega) d a b m hd ha hb hm _ _ _
    · exact form_eq4 k hk 1 (by decide) (by decide) (by decide) (n : Int) (by omega) d a b m hd ha hb hm _ _ _
    · exact form_eq4 k hk 2 (by decide) (by decide) (by decide) (n : Int) (by omega) d a b m hd ha hb hm _ _ _
    · exact form_eq5 k hk 0 (by decide) (by decide) (by decide) (n : Int) (by omega) d a b m hd ha hb hm _ _ _
    · exact form_eq6 k hk 0 (by decide) (by decide) (by decide) (n : Int) (by omega) d a b m hd ha hb hm _ _ _
    · exact form_eq7 k hk 2 (by decide) (by decide) (by decide) (n : Int) (by omega) d a b m hd ha hb hm _ _ _
    · exact form_eq8 k hk 0 (by decide) (by decide) (by decide) (n : Int) (by omega) d a b m hd ha hb hm _ _ _
end RefM
end Go.Proofs.YtedjkbekhhffeaaDoor
namespace Go.Proofs.YtedjkbekhhffeaaDoor
open Go.RowKit Go.Proofs.YtedjkbekhhffeaaDoorW.PrintWords PIsaMakes
set_option linter.unusedSimpArgs false
set_option linter.unusedVariables false
namespace RefM
def step (c : Int) (r : Nat) (x : Int × Int) : Int × Int :=
  if IntKind.u16.wrap (2 ^ r) = 1 then x else if c = 68 then (x.1, Go.bits .or .u16 x.2 (IntKind.u16.wrap (2 ^ r))) else (Go.bits .or .u16 x.1 (IntKind.u16.wrap (2 ^ r)), x.2)
theorem use_step (k : Nat) (hk : 30 ≤ k) (s : ByteArray) (x y i op d a b m c : Int) (r : Nat) (h0 : 0 ≤ i) (h1 : i < (s.size : Int)) (hs : s.size ≤ 100) (h2 : bt s i = c) (hd : 0 ≤ d ∧ d ≤ 255) (ha : 0 ≤ a ∧ a ≤ 255) (hb : 0 ≤ b ∧ b ≤ 255) (hr : R d a b c = (r : Int)) (hr2 : r < 27) :
    cloisterref10_Uses.l0 (k + 1) s x y i op d a b m = cloisterref10_Uses.l0 k s (step c r (x, y)).1 (step c r (x, y)).2 (i + 1) op d a b m := by
  rw [cloisterref10_Uses.l0, if_pos h1, if_pos h0, h2, reg_eq op d a b m c hd ha hb, hr]
  simp only [Option.bind_some]
  rw [pow_ge k hk r hr2]
  simp only [Option.bind_some]
  rw [w64 (i + 1) (by omega) (by omega)]
  unfold step
  split
  · rfl
  · split <;> rfl
theorem use_stop (k : Nat) (s : ByteArray) (x y i op d a b m : Int) (h1 : ¬ i < (s.size : Int)) : cloisterref10_Uses.l0 (k + 1) s x y i op d a b m = some (x, y) := by
  rw [cloisterref10_Uses.l0, if_neg h1]
theorem hcall : ∀ n : Fin 49, ((Isa.nameOf n.1).data.toList = ([104, 99, 97, 108, 108] : List UInt8)) ↔ n.1 = 40 := by decide +kernel
theorem use_tab1 : ∀ d a b : Fin 16, step 66 b.1 (step 65 a.1 (step 68 d.1 ((0 : Int), (0 : Int)))) = (Isa.readF a.1 b.1, Isa.writeF d.1) := by decide +kernel
theorem use_form1 (k : Nat) (hk : 40 ≤ k) (op m : Int) (d a b : Nat) (hd : d < 16) (ha : a < 16) (hb : b < 16) : cloisterref10_Uses.l0 k (letters 1) 0 0 0 op (d : Int) (a : Int) (b : Int) m = some (Isa.readF a b, Isa.writeF d) := by
  obtain ⟨k, rfl⟩ : ∃ n, k = n + 4 := ⟨k - 4, by omega⟩
  rw [show letters 1 = ⟨#[68, 65, 66]⟩ from rfl]
  rw [use_step (k + 3) (by omega) _ _ _ (0) op (d : Int) (a : Int) (b : Int) m 68 d (by decide) (by decide) (by decide) (by decide) (by omega) (by omega) (by omega) rfl (by omega)]
  rw [use_step (k + 2) (by omega) _ _ _ (0 + 1) op (d : Int) (a : Int) (b : Int) m 65 a (by decide) (by decide) (by decide) (by decide) (by omega) (by omega) (by omega) rfl (by omega)]
  rw [use_step (k + 1) (by omega) _ _ _ (0 + 1 + 1) op (d : Int) (a : Int) (b : Int) m 66 b (by decide) (by decide) (by decide) (by decide) (by omega) (by omega) (by omega) rfl (by omega)]
  rw [use_stop (k + 0) _ _ _ (0 + 1 + 1 + 1) _ _ _ _ _ (by decide)]
  exact congrArg some (use_tab1 ⟨d, hd⟩ ⟨a, ha⟩ ⟨b, hb⟩)
theorem use_tab2 : ∀ d a : Fin 16, step 65 a.1 (step 68 d.1 ((0 : Int), (0 : Int))) = (Isa.readF a.1 0, Isa.writeF d.1) := by decide +kernel
theorem use_form2 (k : Nat) (hk : 40 ≤ k) (op m : Int) (d a : Nat) (hd : d < 16) (ha : a < 16) : cloisterref10_Uses.l0 k (letters 2) 0 0 0 op (d : Int) (a : Int) (0 : Int) m = some (Isa.readF a 0, Isa.writeF d) := by
  obtain ⟨k, rfl⟩ : ∃ n, k = n + 4 := ⟨k - 4, by omega⟩
  rw [show letters 2 = ⟨#[68, 65]⟩ from rfl]
  rw [use_step (k + 3) (by omega) _ _ _ (0) op (d : Int) (a : Int) (0 : Int) m 68 d (by decide) (by decide) (by decide) (by decide) (by omega) (by omega) (by omega) rfl (by omega)]
  rw [use_step (k + 2) (by omega) _ _ _ (0 + 1) op (d : Int) (a : Int) (0 : Int) m 65 a (by decide) (by decide) (by decide) (by decide) (by omega) (by omega) (by omega) rfl (by omega)]
  rw [use_stop (k + 1) _ _ _ (0 + 1 + 1) _ _ _ _ _ (by decide)]
  exact congrArg some (use_tab2 ⟨d, hd⟩ ⟨a, ha⟩)
theorem use_tab3 : ∀ a b : Fin 16, step 66 b.1 (step 65 a.1 ((0 : Int), (0 : Int))) = (Isa.readF a.1 b.1, Isa.writeF 0) := by decide +kernel
theorem use_form3 (k : Nat) (hk : 40 ≤ k) (op m : Int) (a b : Nat) (ha : a < 16) (hb : b < 16) : cloisterref10_Uses.l0 k (letters 3) 0 0 0 op (0 : Int) (a : Int) (b : Int) m = some (Isa.readF a b, Isa.writeF 0) := by
  obtain ⟨k, rfl⟩ : ∃ n, k = n + 4 := ⟨k - 4, by omega⟩
  rw [show letters 3 = ⟨#[65, 66]⟩ from rfl]
  rw [use_step (k + 3) (by omega) _ _ _ (0) op (0 : Int) (a : Int) (b : Int) m 65 a (by decide) (by decide) (by decide) (by decide) (by omega) (by omega) (by omega) rfl (by omega)]
  rw [use_step (k + 2) (by omega) _ _ _ (0 + 1) op (0 : Int) (a : Int) (b : Int) m 66 b (by decide) (by decide) (by decide) (by decide) (by omega) (by omega) (by omega) rfl (by omega)]
  rw [use_stop (k + 1) _ _ _ (0 + 1 + 1) _ _ _ _ _ (by decide)]
  exact congrArg some (use_tab3 ⟨a, ha⟩ ⟨b, hb⟩)
theorem use_tab4 : ∀ d : Fin 16, step 68 d.1 ((0 : Int), (0 : Int)) = (Isa.readF 0 0, Isa.writeF d.1) := by decide +kernel
theorem use_form4 (k : Nat) (hk : 40 ≤ k) (op m : Int) (d : Nat) (hd : d < 16) : cloisterref10_Uses.l0 k (letters 4) 0 0 0 op (d : Int) (0 : Int) (0 : Int) m = some (Isa.readF 0 0, Isa.writeF d) := by
  obtain ⟨k, rfl⟩ : ∃ n, k = n + 4 := ⟨k - 4, by omega⟩
  rw [show letters 4 = ⟨#[68]⟩ from rfl]
  rw [use_step (k + 3) (by omega) _ _ _ (0) op (d : Int) (0 : Int) (0 : Int) m 68 d (by decide) (by decide) (by decide) (by decide) (by omega) (by omega) (by omega) rfl (by omega)]
  rw [use_stop (k + 2) _ _ _ (0 + 1) _ _ _ _ _ (by decide)]
  exact congrArg some (use_tab4 ⟨d, hd⟩)
theorem use_tab5 : ∀ d : Fin 16, step 68 d.1 ((0 : Int), (0 : Int)) = (Isa.readF 0 0, Isa.writeF d.1) := by decide +kernel
theorem use_form5 (k : Nat) (hk : 40 ≤ k) (op m : Int) (d : Nat) (hd : d < 16) : cloisterref10_Uses.l0 k (letters 5) 0 0 0 op (d : Int) (0 : Int) (0 : Int) m = some (Isa.readF 0 0, Isa.writeF d) := by
  obtain ⟨k, rfl⟩ : ∃ n, k = n + 4 := ⟨k - 4, by omega⟩
  rw [show letters 5 = ⟨#[68]⟩ from rfl]
  rw [use_step (k + 3) (by omega) _ _ _ (0) op (d : Int) (0 : Int) (0 : Int) m 68 d (by decide) (by decide) (by decide) (by decide) (by omega) (by omega) (by omega) rfl (by omega)]
  rw [use_stop (k + 2) _ _ _ (0 + 1) _ _ _ _ _ (by decide)]
  exact congrArg some (use_tab5 ⟨d, hd⟩)
theorem use_tab6 : ∀ a : Fin 16, step 65 a.1 ((0 : Int), (0 : Int)) = (Isa.readF a.1 0, Isa.writeF 0) := by decide +kernel
theorem use_form6 (k : Nat) (hk : 40 ≤ k) (op m : Int) (a : Nat) (ha : a < 16) : cloisterref10_Uses.l0 k (letters 6) 0 0 0 op (0 : Int) (a : Int) (0 : Int) m = some (Isa.readF a 0, Isa.writeF 0) := by
  obtain ⟨k, rfl⟩ : ∃ n, k = n + 4 := ⟨k - 4, by omega⟩
  rw [show letters 6 = ⟨#[65]⟩ from rfl]
  rw [use_step (k + 3) (by omega) _ _ _ (0) op (0 : Int) (a : Int) (0 : Int) m 65 a (by decide) (by decide) (by decide) (by decide) (by omega) (by omega) (by omega) rfl (by omega)]
  rw [use_stop (k + 2) _ _ _ (0 + 1) _ _ _ _ _ (by decide)]
  exact congrArg some (use_tab6 ⟨a, ha⟩)
theorem use_tab7 : ((0 : Int), (0 : Int)) = (Isa.readF 0 0, Isa.writeF 0) := by decide +kernel
theorem use_form7 (k : Nat) (hk : 40 ≤ k) (op m : Int) : cloisterref10_Uses.l0 k (letters 7) 0 0 0 op (0 : Int) (0 : Int) (0 : Int) m = some (Isa.readF 0 0, Isa.writeF 0) := by
  obtain ⟨k, rfl⟩ : ∃ n, k = n + 4 := ⟨k - 4, by omega⟩
  rw [show letters 7 = ⟨#[]⟩ from rfl]
  rw [use_stop (k + 3) _ _ _ (0) _ _ _ _ _ (by decide)]
  exact congrArg some (use_tab7 )
theorem use_tab8 : ((0 : Int), (0 : Int)) = (Isa.readF 0 0, Isa.writeF 0) := by decide +kernel
theorem use_form8 (k : Nat) (hk : 40 ≤ k) (op m : Int) : cloisterref10_Uses.l0 k (letters 8) 0 0 0 op (0 : Int) (0 : Int) (0 : Int) m = some (Isa.readF 0 0, Isa.writeF 0) := by
  obtain ⟨k, rfl⟩ : ∃ n, k = n + 4 := ⟨k - 4, by omega⟩
  rw [show letters 8 = ⟨#[]⟩ from rfl]
  rw [use_stop (k + 3) _ _ _ (0) _ _ _ _ _ (by decide)]
  exact congrArg some (use_tab8 )
/-- Uses. -/
theorem uses_eq (k : Nat) (hk : 60 ≤ k) (op d a b m : Int) (hd : 0 ≤ d ∧ d ≤ 255) (ha : 0 ≤ a ∧ a ≤ 255) (hb : 0 ≤ b ∧ b ≤ 255) (hm : -2147483648 ≤ m ∧ m ≤ 2147483647) : cloisterref10_Uses.f k op d a b m = some (Isa.uses op d a b m) := by
  unfold cloisterref10_Uses.f Isa.uses
  rw [enc_eq k hk op d a b m hd ha hb hm]
  simp only [Option.bind_some]
  by_cases hE : (Isa.enc op d a b m).2 = 0
  · rw [if_pos hE, if_neg (fun hh => hh hE)]
    obtain ⟨ho, b1, b2, b3, hf, _⟩ := Isa.enc_ok hE
    have c1 := Isa.badAt_le b1
    have c2 := Isa.badAt_le b2
    have c3 := Isa.badAt_le b3
    clear b1 b2 b3 hf hE
    obtain ⟨n, rfl⟩ : ∃ n : Nat, op = (n : Int) := ⟨op.toNat, by omega⟩
    simp only [Int.toNat_natCast] at c1 c2 c3
    have hn : 1 ≤ n ∧ n < 49 := by omega
    rw [of_ge k (by omega) n (by omega), if_pos hn]
    simp only [Option.bind_some]
    have hh := hcall ⟨n, hn.2⟩
    simp only at hh
    rw [ByteArray.toList_eq]
    by_cases h40 : n = 40
    · rw [if_pos (hh.2 h40), if_pos (by omega)]
    · rw [if_neg (fun q => h40 (hh.1 q)), if_neg (by omega)]
      have tf := Isa.table_facts ⟨n, hn.2⟩
      simp only at tf
      rw [fields ⟨Isa.formOf n, tf.2.2.1⟩]
      simp only [Option.bind_some]
      obtain ⟨d, rfl⟩ : ∃ n : Nat, d = (n : Int) := ⟨d.toNat, by omega⟩
      obtain ⟨a, rfl⟩ : ∃ n : Nat, a = (n : Int) := ⟨a.toNat, by omega⟩
      obtain ⟨b, rfl⟩ : ∃ n : Nat, b = (n : Int) := ⟨b.toNat, by omega⟩
      show _ = some (Isa.readF a b, Isa.writeF d)
      have h9 := tf.2.2.1
      have h0 := tf.2.2.2.1 hn.1
      clear tf hh
      generalize Isa.formOf n = f at *
      match f, h0, h9 with
      | 1, _, _ =>
        simp [Isa.atD, Isa.atA, Isa.atB, Isa.layD, Isa.layA, Isa.layB] at c1 c2 c3
        exact use_form1 k (by omega) (n : Int) m d a b (by omega) (by omega) (by omega)
      | 2, _, _ =>
        simp [Isa.atD, Isa.atA, Isa.atB, Isa.layD, Isa.layA, Isa.layB] at c1 c2 c3
        obtain rfl : b = 0 := by omega
        exact use_form2 k (by omega) (n : Int) m d a (by omega) (by omega)
      | 3, _, _ =>
        simp [Isa.atD, Isa.atA, Isa.atB, Isa.layD, Isa.layA, Isa.layB] at c1 c2 c3
        obtain rfl : d = 0 := by omega
        exact use_form3 k (by omega) (n : Int) m a b (by omega) (by omega)
      | 4, _, _ =>
        simp [Isa.atD, Isa.atA, Isa.atB, Isa.layD, Isa.layA, Isa.layB] at c1 c2 c3
        obtain rfl : a = 0 := by omega
        obtain rfl : b = 0 := by omega
        exact use_form4 k (by omega) (n : Int) m d (by omega)
      | 5, _, _ =>
        simp [Isa.atD, Isa.atA, Isa.atB, Isa.layD, Isa.layA, Isa.layB] at c1 c2 c3
        obtain rfl : a = 0 := by omega
        obtain rfl : b = 0 := by omega
        exact use_form5 k (by omega) (n : Int) m d (by omega)
      | 6, _, _ =>
        simp [Isa.atD, Isa.atA, Isa.atB, Isa.layD, Isa.layA, Isa.layB] at c1 c2 c3
        obtain rfl : d = 0 := by omega
        obtain rfl : b = 0 := by omega
        exact use_form6 k (by omega) (n : Int) m a (by omega)
      | 7, _, _ =>
        simp [Isa.atD, Isa.atA, Isa.atB, Isa.layD, Isa.layA, Isa.layB] at c1 c2 c3
        obtain rfl : d = 0 := by omega
        obtain rfl : a = 0 := by omega
        obtain rfl : b = 0 := by omega
        exact use_form7 k (by omega) (n : Int) m 
      | 8, _, _ =>
        simp [Isa.atD, Isa.atA, Isa.atB, Isa.layD, Isa.layA, Isa.layB] at c1 c2 c3
        obtain rfl : d = 0 := by omega
        obtain rfl : a = 0 := by omega
        obtain rfl : b = 0 := by omega
        exact use_form8 k (by omega) (n : Int) m 
      | n + 9, _, h => exact absurd h (by omega)
  · rw [if_neg hE, if_pos hE]
/-- decimal, of what is not below nought. -/
theorem dec_nonneg : ∀ (k u : Nat), u < 10 ^ k → k ≤ 19 → 1 ≤ k → u ≤ 9223372036854775807 → cloisterref10_decimal.f k (u : Int) = some ⟨(Lib.decDigits u).toArray⟩ ∧ (Lib.decDigits u).length ≤ k
  | 0, u, _, _, h, _ => absurd h (by decide)
  | k + 1, u, hu, hk, _, hm => by
    have e1 : Int.tmod (u : Int) 10 = ((u % 10 : Nat) : Int) := by rw [Int.tmod_eq_emod_of_nonneg (by omega)]; rfl
    have e2 : Int.tdiv (u : Int) 10 = ((u / 10 : Nat) : Int) := by rw [Int.tdiv_eq_ediv_of_nonneg (by omega)]; rfl
    have h10 : u % 10 < 10 := Nat.mod_lt _ (by decide)
    have ew : wrap64 (((u % 10 : Nat) : Int) + 1) = ((u % 10 + 1 : Nat) : Int) := by rw [w64 _ (by omega) (by omega)]; rfl
    have dig : ∀ r : Fin 10, (⟨#[48, 49, 50, 51, 52, 53, 54, 55, 56, 57]⟩ : ByteArray).extract r.1 (r.1 + 1) = ⟨#[UInt8.ofNat (48 + r.1)]⟩ := by decide +kernel
    have hd := dig ⟨u % 10, h10⟩
    simp only at hd
    rw [cloisterref10_decimal.f, if_neg (by omega), e1, if_pos (by omega), ew, if_pos (by omega), if_pos (by omega)]
    simp only [Int.toNat_natCast]
    rw [hd]
    by_cases h : u < 10
    · rw [if_pos (by omega), Lib.decDigits_one h, Nat.mod_eq_of_lt h]
      exact ⟨rfl, by simp⟩
    · have k1 : 1 ≤ k := by
        rcases Nat.eq_zero_or_pos k with h0 | h0
        · subst h0; simp at hu; omega
        · exact h0
      have hp : 10 ^ (k + 1) = 10 ^ k * 10 := Nat.pow_succ 10 k
      obtain ⟨i1, i2⟩ := dec_nonneg k (u / 10) (by omega) (by omega) k1 (by omega)
      rw [if_neg (by omega), e2, w64 _ (by omega) (by omega), i1]
      simp only [Option.bind_some]
      have es : (⟨(Lib.decDigits (u / 10)).toArray⟩ : ByteArray).size = (Lib.decDigits (u / 10)).length := by simp [ByteArray.size]
      have e3 : (⟨#[UInt8.ofNat (48 + u % 10)]⟩ : ByteArray).size = 1 := rfl
      rw [if_pos (by rw [es, e3]; omega)]
      have ed : Lib.decDigits u = Lib.decDigits (u / 10) ++ [UInt8.ofNat (48 + u % 10)] := by rw [Lib.decDigits, dif_neg h]
      refine ⟨?_, by rw [ed]; simp; omega⟩
      congr 1
      apply ByteArray.ext
      simp [ByteArray.data_append, ed]
theorem dec_eq (n : Int) (h0 : -2147483648 ≤ n) (h1 : n ≤ 2147483647) : cloisterref10_decimal.f 20 n = some (Isa.num n) := by
  by_cases h : n < 0
  · obtain ⟨u, hu⟩ : ∃ u : Nat, -n = (u : Int) := ⟨n.natAbs, by omega⟩
    obtain ⟨i1, i2⟩ := dec_nonneg 19 u (by omega) (by decide) (by decide) (by omega)
    rw [cloisterref10_decimal.f, if_pos h, hu, w64 _ (by omega) (by omega), i1]
    simp only [Option.bind_some]
    have es : (⟨(Lib.decDigits u).toArray⟩ : ByteArray).size = (Lib.decDigits u).length := by simp [ByteArray.size]
    rw [if_pos (by rw [es]; omega)]
    have e : Lib.itoa n = 45 :: Lib.decDigits u := by
      unfold Lib.itoa
      rw [if_pos h, show n.natAbs = u by omega]
    congr 1
    apply ByteArray.ext
    simp [ByteArray.data_append, Isa.num, e]
  · obtain ⟨u, rfl⟩ : ∃ u : Nat, n = (u : Int) := ⟨n.toNat, by omega⟩
    obtain ⟨i1, _⟩ := dec_nonneg 19 u (by omega) (by decide) (by decide) (by omega)
    have i2 := at_rounds (fun k => cloisterref10_decimal.mono_l k (u : Int)) (show 19 ≤ 20 by decide) i1
    rw [i2]
    unfold Isa.num
    rw [Lib.itoa_nonneg]
theorem dec_ge (k : Nat) (hk : 20 ≤ k) (n : Int) (h0 : -2147483648 ≤ n) (h1 : n ≤ 2147483647) : cloisterref10_decimal.f k n = some (Isa.num n) :=
  at_rounds (fun k => cloisterref10_decimal.mono_l k n) hk (dec_eq n h0 h1)
end RefM
end Go.Proofs.YtedjkbekhhffeaaDoor
namespace Go.Proofs.YtedjkbekhhffeaaDoor
open Go.RowKit Go.Proofs.YtedjkbekhhffeaaDoorW.PrintWords PIsaMakes
set_option linter.unusedSimpArgs false
set_option linter.unusedVariables false
theorem dec_calls (k : Nat) (hk : 20 ≤ k) (n : Int) (h : -2147483648 ≤ n ∧ n ≤ 2147483647) (w : World) : Calls Tryd.prog 36 #[.int .i64 n] w fun e w' => e = .returned (.string (Isa.num n)) ∧ Drawn0 w w' :=
  cloisterref10_decimal.calls k n _ w (RefM.dec_ge k hk n h.1 h.2)
theorem dec_q (k : Nat) (hk : 20 ≤ k) (n : Int) (h : -2147483648 ≤ n ∧ n ≤ 2147483647) (w : World) : Calls Tryd.prog 36 #[.int .i64 n] w fun e w' => e = .returned (.string (Isa.num n)) ∧ ∃ m, w' = w.drewN m :=
  (dec_calls k hk n h w).mono fun _ _ q => ⟨q.1, q.2.out⟩
theorem RefM.of_kind (k : Nat) (hk : 30 ≤ k) (n : Nat) (h1 : 1 ≤ n) (h2 : n < 49) (f sh ic : Int) (hf : (Isa.formOf n : Int) = f) (hs : RefM.shC (Isa.formOf n) (Isa.shapeOf n) = sh) (hn : RefM.immC (Isa.numOf n) = ic) : cloisterref10_Of.f k (n : Int) = some (Isa.nameOf n, f, ic, sh, true) := by
  rw [RefM.of_ge k hk n (by omega), if_pos ⟨h1, h2⟩, hf, hs, hn]
/-- The blocks at the head of a round. -/
structure RTextW (w : World) (X : Nat) (n d a b imm : Int) (nm : ByteArray) (f ic sh : Int) (v : World) : Prop where
  own : v.heap[w.heap.size]? = some (.cells #[.int .i64 n, .int .u8 d, .int .u8 a, .int .u8 b, .int .i32 imm] 26 (0, 0))
  kind : v.heap[X]? = some (.cells #[.string nm, .int .i64 f, .int .u8 ic, .int .u8 sh] 65 (0, 0))
  bel : Below w.heap.size w v
theorem RTextW.drew {w : World} {X : Nat} {n d a b imm : Int} {nm : ByteArray} {f ic sh : Int} {v : World} (h : RTextW w X n d a b imm nm f ic sh v) : RTextW w X n d a b imm nm f ic sh v.drew := ⟨h.own, h.kind, h.bel.drew⟩
theorem RTextW.below {w : World} {X : Nat} {n d a b imm : Int} {nm : ByteArray} {f ic sh : Int} {v v1 : World} (h : RTextW w X n d a b imm nm f ic sh v) (hb : Below v.heap.size v v1) : RTextW w X n d a b imm nm f ic sh v1 :=
  ⟨blk_keep hb h.own, blk_keep hb h.kind, below_next h.bel hb⟩
end Go.Proofs.YtedjkbekhhffeaaDoor
