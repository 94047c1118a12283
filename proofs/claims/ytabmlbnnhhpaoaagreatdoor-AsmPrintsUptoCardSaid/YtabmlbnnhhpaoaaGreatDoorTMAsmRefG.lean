/- What this claim needs of MAsmRefG. -/
import Derived.Test.YtabmlbnnhhpaoaaGreatDoorTMIsaDecB
import Derived.Test.YtabmlbnnhhpaoaaGreatDoorTQAsmLinesx102
import Derived.Test.YtabmlbnnhhpaoaaGreatDoorTMIsaTextB
import Derived.Test.YtabmlbnnhhpaoaaGreatDoorTQAsmLinesx106
import Derived.Test.YtabmlbnnhhpaoaaGreatDoorTQAsmLinesx98
import Derived.Test.YtabmlbnnhhpaoaaGreatDoorTQAsmLinesx103
import Derived.Test.YtabmlbnnhhpaoaaGreatDoorTQAsmLinesx99
import Derived.Test.YtabmlbnnhhpaoaaGreatDoorTQAsmLinesx100
import Derived.Test.YtabmlbnnhhpaoaaGreatDoorTQAsmLinesx104
import Derived.Test.YtabmlbnnhhpaoaaGreatDoorTQAsmLinesx105
import Derived.Test.YtabmlbnnhhpaoaaGreatDoorTMIsaReg
import Derived.Deep.RegionHeld3
import Derived.Test.YtabmlbnnhhpaoaaGreatDoorTMAsmDisG
import Derived.Test.YtabmlbnnhhpaoaaGreatDoorTQAsmLinesx97
set_option linter.unusedSimpArgs false
set_option linter.unusedVariables false
set_option maxHeartbeats 8000000
set_option maxRecDepth 100000
namespace Go.Proofs.YtabmlbnnhhpaoaaGreatDoor
open Go.RowKit Go.Proofs.YtabmlbnnhhpaoaaGreatDoorW.PrintWords PAsmLines
namespace RefD
def immC (nu : Nat) : Int := if nu = 1 then 115 else if nu = 2 then 117 else if nu = 3 then 110 else 45
def shC (f s : Nat) : Int := if s = 1 then 109 else if f = 1 then 51 else if f = 5 ∨ f = 6 then 49 else if f = 7 then 106 else if f = 8 then 45 else 105
theorem of_20 : ∀ n : Fin 64, q_Of.f 20 (n.1 : Int) = some (if 1 ≤ n.1 ∧ n.1 < 49 then (Isa.nameOf n.1, (Isa.formOf n.1 : Int), immC (Isa.numOf n.1), shC (Isa.formOf n.1) (Isa.shapeOf n.1), true) else (⟨#[]⟩, 0, 0, 0, false)) := by
 decide +kernel
theorem pow_30 : ∀ n : Fin 27, q_power.f 30 (n.1 : Int) = some (2 ^ n.1) := by decide +kernel
theorem pow_ge (k : Nat) (hk : 30 ≤ k) (n : Nat) (hn : n < 27) : q_power.f k (n : Int) = some (2 ^ n) :=
 at_rounds (q_power.mono (n : Int)) hk (pow_30 ⟨n, hn⟩)
theorem of_ge (k : Nat) (hk : 30 ≤ k) (n : Nat) (hn : n < 64) : q_Of.f k (n : Int) = some (if 1 ≤ n ∧ n < 49 then (Isa.nameOf n, (Isa.formOf n : Int), immC (Isa.numOf n), shC (Isa.formOf n) (Isa.shapeOf n), true) else (⟨#[]⟩, 0, 0, 0, false)) :=
 at_rounds (q_Of.mono (n : Int)) (Nat.le_trans (by decide) hk) (of_20 ⟨n, hn⟩)
theorem w64 (n : Int) (h0 : -9223372036854775808 ≤ n) (h1 : n ≤ 9223372036854775807) : wrap64 n = n := by unfold wrap64; omega
def letters (f : Nat) : ByteArray := if f = 1 then ⟨#[68, 65, 66]⟩ else if f = 2 then ⟨#[68, 65]⟩ else if f = 3 then ⟨#[65, 66]⟩ else if f = 4 then ⟨#[68]⟩ else if f = 5 then ⟨#[68]⟩ else if f = 6 then ⟨#[65]⟩ else ⟨#[]⟩
theorem fields : ∀ f : Fin 9, q_Fields.f (f.1 : Int) = some (letters f.1, (Isa.bits f.1 : Int)) := by decide +kernel
theorem takes_eq (k : Nat) (hk : 30 ≤ k) (f nu : Nat) (hnu : nu < 4) (hs : nu = 1 → f = 2 ∨ f = 3 ∨ f = 4) (v : Int) : q_takes.f k (immC nu) (Isa.bits f : Int) v = some (Isa.fits f nu v) := by
 match nu, hnu, hs with
 | 0, _, _ =>
  unfold q_takes.f
  rw [if_neg (by decide), if_neg (by decide), if_neg (by decide)]
  simp [Isa.fits]
  rfl
 | 1, _, hs =>
  have go : ∀ b : Nat, 1 ≤ b → b ≤ 26 → q_takes.f k (immC 1) (b : Int) v = some (decide (-(2 ^ (b - 1) : Int) ≤ v) && decide (v < 2 ^ (b - 1))) := by
   intro b hb hb2
   have e : wrap64 ((b : Int) - 1) = ((b - 1 : Nat) : Int) := by rw [w64 _ (by omega) (by omega)]; omega
   have hp : (2 : Int) ^ (b - 1) ≤ 2 ^ 25 := by exact_mod_cast Nat.pow_le_pow_right (by decide) (by omega)
   have hp0 : (0 : Int) ≤ 2 ^ (b - 1) := by exact_mod_cast Nat.zero_le _
   unfold q_takes.f
   rw [if_pos (by decide), e, pow_ge k hk (b - 1) (by omega)]
   simp only [Option.bind_some]
   rw [w64 _ (by omega) (by omega)]
   by_cases h : v ≥ -2 ^ (b - 1)
   · rw [if_pos h]; simp [h]
   · rw [if_neg h]; simp; omega
  rcases hs rfl with rfl | rfl | rfl
  · exact (go 18 (by decide) (by decide)).trans (by simp [Isa.fits, Isa.bits, Isa.layN])
  · exact (go 18 (by decide) (by decide)).trans (by simp [Isa.fits, Isa.bits, Isa.layN])
  · exact (go 22 (by decide) (by decide)).trans (by simp [Isa.fits, Isa.bits, Isa.layN])
 | 2, _, _ =>
  unfold q_takes.f
  rw [if_neg (by decide), if_pos (by decide)]
  by_cases h : v ≥ 0
  · rw [if_pos h, show (18 : Int) = ((18 : Nat) : Int) from rfl, pow_ge k hk 18 (by decide)]
    simp [Isa.fits, h]
    omega
  · rw [if_neg h]
    simp [Isa.fits]
    omega
 | 3, _, _ =>
  unfold q_takes.f
  rw [if_neg (by decide), if_neg (by decide), if_pos (by decide)]
  by_cases h : v ≥ 0
  · rw [if_pos h]
    simp [Isa.fits, h]
    omega
  · rw [if_neg h]
    simp [Isa.fits]
    omega
 | n + 4, h, _ => exact absurd h (by omega)
theorem j1_eq (k : Nat) (hk : 31 ≤ k) (f nu : Nat) (hnu : nu < 4) (hs : nu = 1 → f = 2 ∨ f = 3 ∨ f = 4) (hb : Isa.bits f < 27) (y op d a b fo sh : Int) (nm : ByteArray) (h0 : 0 ≤ y) (h1 : y ≤ 67108863) (neg : Bool) (hy : y < 2 ^ Isa.bits f) :
 q_Decode.j1 k y (Isa.bits f : Int) neg op d a b 0 nm fo (immC nu) sh = some (if neg = true then (if Isa.fits f nu (y - 2 ^ Isa.bits f) = true then (op, d, a, b, y - 2 ^ Isa.bits f, 0) else (0, 0, 0, 0, 0, 102)) else if Isa.fits f nu y = true then (op, d, a, b, y, 0) else (0, 0, 0, 0, 0, 102)) := by
 obtain ⟨k, rfl⟩ : ∃ m, k = m + 1 := ⟨k - 1, by omega⟩
 have hp : (2 : Int) ^ Isa.bits f ≤ 2 ^ 26 := by exact_mod_cast Nat.pow_le_pow_right (by decide) (by omega)
 have hp0 : (0 : Int) < 2 ^ Isa.bits f := by exact_mod_cast Nat.two_pow_pos _
 have w32 : ∀ n : Int, -2147483648 ≤ n → n ≤ 2147483647 → wrap32 n = n := fun n a b => by unfold wrap32; omega
 rw [q_Decode.j1]
 cases neg with
 | true =>
  rw [if_pos rfl, if_pos rfl, pow_ge k (by omega) _ hb]
  simp only [Option.bind_some]
  rw [w64 _ (by omega) (by omega), takes_eq k (by omega) f nu hnu hs]
  simp only [Option.bind_some]
  rw [w32 _ (by omega) (by omega)]
  split <;> rfl
 | false =>
  rw [if_neg (by decide), if_neg (by decide), takes_eq k (by omega) f nu hnu hs]
  simp only [Option.bind_some]
  rw [w32 _ (by omega) (by omega)]
  split <;> rfl
theorem tail_eq (k : Nat) (hk : 32 ≤ k) (f nu : Nat) (hnu : nu < 4) (hs : nu = 1 → f = 2 ∨ f = 3 ∨ f = 4) (hb : Isa.bits f < 27) (s : ByteArray) (u i : Int) (hi : ¬ i < (s.size : Int)) (y op d a b fo sh : Int) (nm : ByteArray) (h0 : 0 ≤ y) (h1 : y ≤ 67108863) :
 q_Decode.l0 k y s (Isa.bits f : Int) u i op d a b 0 nm fo (immC nu) sh = some (Isa.decOut op f nu d a b y) := by
 obtain ⟨k, rfl⟩ : ∃ m, k = m + 1 := ⟨k - 1, by omega⟩
 rw [q_Decode.l0, if_neg hi, pow_ge k (by omega) _ hb]
 simp only [Option.bind_some]
 unfold Isa.decOut
 by_cases h2 : y ≥ 2 ^ Isa.bits f
 · rw [if_pos h2, if_pos h2]
 · rw [if_neg h2, if_neg h2]
   by_cases h3 : nu = 1
   · have hb1 : 1 ≤ Isa.bits f := by rcases hs h3 with rfl | rfl | rfl <;> decide
     have e : wrap64 ((Isa.bits f : Int) - 1) = ((Isa.bits f - 1 : Nat) : Int) := by rw [w64 _ (by omega) (by omega)]; omega
     rw [if_pos (by rw [h3]; rfl), e, pow_ge k (by omega) _ (by omega)]
     simp only [Option.bind_some]
     rw [j1_eq k (by omega) f nu hnu hs hb _ _ _ _ _ _ _ _ h0 h1 _ (by omega)]
     by_cases h4 : (2 : Int) ^ (Isa.bits f - 1) ≤ y
     · rw [if_pos (show decide (y ≥ (2 : Int) ^ (Isa.bits f - 1)) = true by simpa using h4), if_pos (show nu = 1 ∧ (2 : Int) ^ (Isa.bits f - 1) ≤ y from ⟨h3, h4⟩)]
     · rw [if_neg (show ¬ decide (y ≥ (2 : Int) ^ (Isa.bits f - 1)) = true by simpa using h4), if_neg (show ¬ (nu = 1 ∧ (2 : Int) ^ (Isa.bits f - 1) ≤ y) from fun hh => h4 hh.2)]
   · have e : ¬ (immC nu = 115) := by
      match nu, hnu, h3 with
      | 0, _, _ => decide
      | 2, _, _ => decide
      | 3, _, _ => decide
      | n + 4, h, _ => exact absurd h (by omega)
     rw [if_neg e, j1_eq k (by omega) f nu hnu hs hb _ _ _ _ _ _ _ _ h0 h1 _ (by omega), if_neg (show ¬ (false = true) by decide), if_neg (show ¬ (nu = 1 ∧ (2 : Int) ^ (Isa.bits f - 1) ≤ y) from fun hh => h3 hh.1)]
theorem step_eq (k : Nat) (s : ByteArray) (bb u i : Int) (x op d a b im fo is sh : Int) (nm : ByteArray) (c : Int) (h0 : 0 ≤ i) (h1 : i < (s.size : Int)) (h2 : bt s i = c) (hx0 : 0 ≤ x) (hx1 : x ≤ 67108863) (hu0 : 0 < u) (hu1 : u ≤ 4194304) (hq : x / u ≤ 15) (hs : s.size ≤ 100) :
 q_Decode.l0 (k + 1) x s bb u i op d a b im nm fo is sh =
  if c = 68 then q_Decode.l0 k (x % u) s bb (u / 16) (i + 1) op (x / u) a b im nm fo is sh
  else if c = 65 then q_Decode.l0 k (x % u) s bb (u / 16) (i + 1) op d (x / u) b im nm fo is sh
  else q_Decode.l0 k (x % u) s bb (u / 16) (i + 1) op d a (x / u) im nm fo is sh := by
 have q0 : 0 ≤ x / u := Int.ediv_nonneg hx0 (by omega)
 have e1 : Int.tmod x u = x % u := Int.tmod_eq_emod_of_nonneg hx0
 have e2 : Int.tdiv x u = x / u := Int.tdiv_eq_ediv_of_nonneg hx0
 have e3 : Int.tdiv u 16 = u / 16 := Int.tdiv_eq_ediv_of_nonneg (by omega)
 rw [q_Decode.l0, if_pos h1, if_neg (by omega), if_pos h0, h2, e1, e2, e3, w64 (u / 16) (by omega) (by omega), w64 (i + 1) (by omega) (by omega), w64 (x / u) (by omega) (by omega), Int.emod_eq_of_lt q0 (by omega)]
theorem loop_eq (k : Nat) (hk : 36 ≤ k) (f nu : Nat) (hf1 : 1 ≤ f) (hf : f < 9) (hnu : nu < 4) (hs : nu = 1 → f = 2 ∨ f = 3 ∨ f = 4) (y op fo sh : Int) (nm : ByteArray) (h0 : 0 ≤ y) (h1 : y ≤ 67108863) :
 q_Decode.l0 k y (letters f) (Isa.bits f : Int) 4194304 0 op 0 0 0 0 nm fo (immC nu) sh = some (Isa.decF f nu op y) := by
 have hb : Isa.bits f < 27 := by
  have : ∀ g : Fin 9, Isa.bits g.1 < 27 := by decide
  exact this ⟨f, hf⟩
 obtain ⟨k, rfl⟩ : ∃ m, k = m + 3 := ⟨k - 3, by omega⟩
 unfold Isa.decF
 have T := tail_eq
 match f, hf1, hf, hs, hb with
 | 1, _, _, hs, hb =>
  rw [show letters 1 = ⟨#[68, 65, 66]⟩ from rfl, step_eq (k + 2) _ _ 4194304 0 y op 0 0 0 0 fo _ sh nm 68 (by decide) (by decide) (by decide) h0 h1 (by decide) (by decide) (by omega) (by decide), if_pos rfl,
   step_eq (k + 1) _ _ (4194304 / 16) (0 + 1) (y % 4194304) op (y / 4194304) 0 0 0 fo _ sh nm 65 (by decide) (by decide) (by decide) (by omega) (by omega) (by decide) (by decide) (by omega) (by decide), if_neg (by decide), if_pos rfl,
   step_eq k _ _ (4194304 / 16 / 16) (0 + 1 + 1) (y % 4194304 % (4194304 / 16)) op (y / 4194304) (y % 4194304 / (4194304 / 16)) 0 0 fo _ sh nm 66 (by decide) (by decide) (by decide) (by omega) (by omega) (by decide) (by decide) (by omega) (by decide), if_neg (by decide), if_neg (by decide),
   tail_eq k (by omega) 1 nu hnu hs hb _ _ _ (by decide) _ _ _ _ _ _ _ _ (by omega) (by omega)]
  rfl
 | 2, _, _, hs, hb =>
  rw [show letters 2 = ⟨#[68, 65]⟩ from rfl, step_eq (k + 2) _ _ 4194304 0 y op 0 0 0 0 fo _ sh nm 68 (by decide) (by decide) (by decide) h0 h1 (by decide) (by decide) (by omega) (by decide), if_pos rfl,
   step_eq (k + 1) _ _ (4194304 / 16) (0 + 1) (y % 4194304) op (y / 4194304) 0 0 0 fo _ sh nm 65 (by decide) (by decide) (by decide) (by omega) (by omega) (by decide) (by decide) (by omega) (by decide), if_neg (by decide), if_pos rfl,
   tail_eq (k + 1) (by omega) 2 nu hnu hs hb _ _ _ (by decide) _ _ _ _ _ _ _ _ (by omega) (by omega)]
  rfl
 | 3, _, _, hs, hb =>
  rw [show letters 3 = ⟨#[65, 66]⟩ from rfl, step_eq (k + 2) _ _ 4194304 0 y op 0 0 0 0 fo _ sh nm 65 (by decide) (by decide) (by decide) h0 h1 (by decide) (by decide) (by omega) (by decide), if_neg (by decide), if_pos rfl,
   step_eq (k + 1) _ _ (4194304 / 16) (0 + 1) (y % 4194304) op 0 (y / 4194304) 0 0 fo _ sh nm 66 (by decide) (by decide) (by decide) (by omega) (by omega) (by decide) (by decide) (by omega) (by decide), if_neg (by decide), if_neg (by decide),
   tail_eq (k + 1) (by omega) 3 nu hnu hs hb _ _ _ (by decide) _ _ _ _ _ _ _ _ (by omega) (by omega)]
  rfl
 | 4, _, _, hs, hb =>
  rw [show letters 4 = ⟨#[68]⟩ from rfl, step_eq (k + 2) _ _ 4194304 0 y op 0 0 0 0 fo _ sh nm 68 (by decide) (by decide) (by decide) h0 h1 (by decide) (by decide) (by omega) (by decide), if_pos rfl,
   tail_eq (k + 2) (by omega) 4 nu hnu hs hb _ _ _ (by decide) _ _ _ _ _ _ _ _ (by omega) (by omega)]
  rfl
 | 5, _, _, hs, hb =>
  rw [show letters 5 = ⟨#[68]⟩ from rfl, step_eq (k + 2) _ _ 4194304 0 y op 0 0 0 0 fo _ sh nm 68 (by decide) (by decide) (by decide) h0 h1 (by decide) (by decide) (by omega) (by decide), if_pos rfl,
   tail_eq (k + 2) (by omega) 5 nu hnu hs hb _ _ _ (by decide) _ _ _ _ _ _ _ _ (by omega) (by omega)]
  rfl
 | 6, _, _, hs, hb =>
  rw [show letters 6 = ⟨#[65]⟩ from rfl, step_eq (k + 2) _ _ 4194304 0 y op 0 0 0 0 fo _ sh nm 65 (by decide) (by decide) (by decide) h0 h1 (by decide) (by decide) (by omega) (by decide), if_neg (by decide), if_pos rfl,
   tail_eq (k + 2) (by omega) 6 nu hnu hs hb _ _ _ (by decide) _ _ _ _ _ _ _ _ (by omega) (by omega)]
  rfl
 | 7, _, _, hs, hb =>
  rw [show letters 7 = ⟨#[]⟩ from rfl, tail_eq (k + 3) (by omega) 7 nu hnu hs hb _ _ _ (by decide) _ _ _ _ _ _ _ _ h0 h1]
  rfl
 | 8, _, _, hs, hb =>
  rw [show letters 8 = ⟨#[]⟩ from rfl, tail_eq (k + 3) (by omega) 8 nu hnu hs hb _ _ _ (by decide) _ _ _ _ _ _ _ _ h0 h1]
  rfl
 | n + 9, _, h, _, _ => exact absurd h (by omega)
theorem decode_eq (x : Int) (hx0 : 0 ≤ x) (hx1 : x ≤ 4294967295) (k : Nat) (hk : 36 ≤ k) : q_Decode.f k x = some (Isa.dec x) := by
 have e1 : Int.tdiv x 67108864 = x / 67108864 := Int.tdiv_eq_ediv_of_nonneg hx0
 have e2 : Int.tmod x 67108864 = x % 67108864 := Int.tmod_eq_emod_of_nonneg hx0
 obtain ⟨n, hn⟩ : ∃ n : Nat, x / 67108864 = (n : Int) := ⟨(x / 67108864).toNat, by omega⟩
 have hn64 : n < 64 := by omega
 unfold q_Decode.f
 rw [show (26 : Int) = ((26 : Nat) : Int) from rfl, pow_ge k (by omega) 26 (by decide)]
 simp only [Option.bind_some]
 rw [if_neg (by decide), w64 x (by omega) (by omega), show ((2 : Int) ^ 26) = 67108864 from rfl, e1, e2, hn, w64 (n : Int) (by omega) (by omega), of_ge k (by omega) n hn64]
 simp only [Option.bind_some]
 unfold Isa.dec
 rw [hn]
 by_cases h : 1 ≤ n ∧ n < 49
 · rw [if_pos h, if_neg (show ¬ ((n : Int) < 1 ∨ 49 ≤ (n : Int)) by omega)]
   simp only [if_true]
   rw [if_neg (by decide)]
   have tf := Isa.table_facts ⟨n, h.2⟩
   simp only at tf
   rw [fields ⟨Isa.formOf n, tf.2.2.1⟩]
   simp only [Option.bind_some]
   rw [show (22 : Int) = ((22 : Nat) : Int) from rfl, pow_ge k (by omega) 22 (by decide)]
   simp only [Option.bind_some]
   exact loop_eq k hk _ _ (tf.2.2.2.1 h.1) tf.2.2.1 tf.1 tf.2.1 _ _ _ _ _ (by omega) (by omega)
 · rw [if_neg h, if_pos (show (n : Int) < 1 ∨ 49 ≤ (n : Int) by omega)]
   simp
end RefD
namespace RefM
def immC (nu : Nat) : Int := if nu = 1 then 115 else if nu = 2 then 117 else if nu = 3 then 110 else 45
def shC (f s : Nat) : Int := if s = 1 then 109 else if f = 1 then 51 else if f = 5 ∨ f = 6 then 49 else if f = 7 then 106 else if f = 8 then 45 else 105
theorem of_20 : ∀ n : Fin 64, q_Of.f 20 (n.1 : Int) = some (if 1 ≤ n.1 ∧ n.1 < 49 then (Isa.nameOf n.1, (Isa.formOf n.1 : Int), immC (Isa.numOf n.1), shC (Isa.formOf n.1) (Isa.shapeOf n.1), true) else (⟨#[]⟩, 0, 0, 0, false)) := by
 decide +kernel
theorem pow_30 : ∀ n : Fin 27, q_power.f 30 (n.1 : Int) = some (2 ^ n.1) := by decide +kernel
theorem pow_ge (k : Nat) (hk : 30 ≤ k) (n : Nat) (hn : n < 27) : q_power.f k (n : Int) = some (2 ^ n) :=
 at_rounds (q_power.mono (n : Int)) hk (pow_30 ⟨n, hn⟩)
theorem of_ge (k : Nat) (hk : 30 ≤ k) (n : Nat) (hn : n < 64) : q_Of.f k (n : Int) = some (if 1 ≤ n ∧ n < 49 then (Isa.nameOf n, (Isa.formOf n : Int), immC (Isa.numOf n), shC (Isa.formOf n) (Isa.shapeOf n), true) else (⟨#[]⟩, 0, 0, 0, false)) :=
 at_rounds (q_Of.mono (n : Int)) (Nat.le_trans (by decide) hk) (of_20 ⟨n, hn⟩)
theorem w64 (n : Int) (h0 : -9223372036854775808 ≤ n) (h1 : n ≤ 9223372036854775807) : wrap64 n = n := by unfold wrap64; omega
def letters (f : Nat) : ByteArray := if f = 1 then ⟨#[68, 65, 66]⟩ else if f = 2 then ⟨#[68, 65]⟩ else if f = 3 then ⟨#[65, 66]⟩ else if f = 4 then ⟨#[68]⟩ else if f = 5 then ⟨#[68]⟩ else if f = 6 then ⟨#[65]⟩ else ⟨#[]⟩
theorem fields : ∀ f : Fin 9, q_Fields.f (f.1 : Int) = some (letters f.1, (Isa.bits f.1 : Int)) := by decide +kernel
theorem takes_eq (k : Nat) (hk : 30 ≤ k) (f nu : Nat) (hnu : nu < 4) (hs : nu = 1 → f = 2 ∨ f = 3 ∨ f = 4) (v : Int) : q_takes.f k (immC nu) (Isa.bits f : Int) v = some (Isa.fits f nu v) := by
 match nu, hnu, hs with
 | 0, _, _ =>
  unfold q_takes.f
  rw [if_neg (by decide), if_neg (by decide), if_neg (by decide)]
  simp [Isa.fits]
  rfl
 | 1, _, hs =>
  have go : ∀ b : Nat, 1 ≤ b → b ≤ 26 → q_takes.f k (immC 1) (b : Int) v = some (decide (-(2 ^ (b - 1) : Int) ≤ v) && decide (v < 2 ^ (b - 1))) := by
   intro b hb hb2
   have e : wrap64 ((b : Int) - 1) = ((b - 1 : Nat) : Int) := by rw [w64 _ (by omega) (by omega)]; omega
   have hp : (2 : Int) ^ (b - 1) ≤ 2 ^ 25 := by exact_mod_cast Nat.pow_le_pow_right (by decide) (by omega)
   have hp0 : (0 : Int) ≤ 2 ^ (b - 1) := by exact_mod_cast Nat.zero_le _
   unfold q_takes.f
   rw [if_pos (by decide), e, pow_ge k hk (b - 1) (by omega)]
   simp only [Option.bind_some]
   rw [w64 _ (by omega) (by omega)]
   by_cases h : v ≥ -2 ^ (b - 1)
   · rw [if_pos h]; simp [h]
   · rw [if_neg h]; simp; omega
  rcases hs rfl with rfl | rfl | rfl
  · exact (go 18 (by decide) (by decide)).trans (by simp [Isa.fits, Isa.bits, Isa.layN])
  · exact (go 18 (by decide) (by decide)).trans (by simp [Isa.fits, Isa.bits, Isa.layN])
  · exact (go 22 (by decide) (by decide)).trans (by simp [Isa.fits, Isa.bits, Isa.layN])
 | 2, _, _ =>
  unfold q_takes.f
  rw [if_neg (by decide), if_pos (by decide)]
  by_cases h : v ≥ 0
  · rw [if_pos h, show (18 : Int) = ((18 : Nat) : Int) from rfl, pow_ge k hk 18 (by decide)]
    simp [Isa.fits, h]
    omega
  · rw [if_neg h]
    simp [Isa.fits]
    omega
 | 3, _, _ =>
  unfold q_takes.f
  rw [if_neg (by decide), if_neg (by decide), if_pos (by decide)]
  by_cases h : v ≥ 0
  · rw [if_pos h]
    simp [Isa.fits, h]
    omega
  · rw [if_neg h]
    simp [Isa.fits]
    omega
 | n + 4, h, _ => exact absurd h (by omega)
theorem of_out (k : Nat) (op : Int) (h : op < 1 ∨ 48 < op) : q_Of.f (k + 1) op = some (⟨#[]⟩, 0, 0, 0, false) := by
 unfold q_Of.f
 simp only [Option.bind_some]
 by_cases h1 : op < 1
 · rw [if_pos h1, q_Of.j0, if_pos rfl]
 · rw [if_neg h1, q_Of.j0, if_pos (by simp; omega)]
def R (d a b c : Int) : Int := if c = 68 then d else if c = 65 then a else b
theorem reg_eq (op d a b m c : Int) (hd : 0 ≤ d ∧ d ≤ 255) (ha : 0 ≤ a ∧ a ≤ 255) (hb : 0 ≤ b ∧ b ≤ 255) : q_register.f op d a b m c = some (R d a b c) := by
 unfold q_register.f R
 rw [w64 d (by omega) (by omega), w64 a (by omega) (by omega), w64 b (by omega) (by omega)]
 split
 · rfl
 · split <;> rfl
theorem R_le (d a b c : Int) (hd : 0 ≤ d ∧ d ≤ 255) (ha : 0 ≤ a ∧ a ≤ 255) (hb : 0 ≤ b ∧ b ≤ 255) : 0 ≤ R d a b c ∧ R d a b c ≤ 255 := by
 unfold R
 split
 · exact hd
 · split
   · exact ha
   · exact hb
theorem has_eq : ∀ f : Fin 9, q_has.f 5 (letters f.1) 68 = some (decide (0 ≤ Isa.atD f.1) && decide (1 ≤ f.1)) ∧ q_has.f 5 (letters f.1) 65 = some (decide (0 ≤ Isa.atA f.1) && decide (1 ≤ f.1)) ∧ q_has.f 5 (letters f.1) 66 = some (decide (0 ≤ Isa.atB f.1) && decide (1 ≤ f.1)) := by decide +kernel
theorem has_ge (k : Nat) (hk : 5 ≤ k) (f : Nat) (hf : f < 9) (hf1 : 1 ≤ f) : q_has.f k (letters f) 68 = some (decide (0 ≤ Isa.atD f)) ∧ q_has.f k (letters f) 65 = some (decide (0 ≤ Isa.atA f)) ∧ q_has.f k (letters f) 66 = some (decide (0 ≤ Isa.atB f)) := by
 have h := has_eq ⟨f, hf⟩
 simp only [show decide (1 ≤ f) = true by simpa using hf1, Bool.and_true] at h
 exact ⟨at_rounds (q_has.mono _ _) hk h.1, at_rounds (q_has.mono _ _) hk h.2.1, at_rounds (q_has.mono _ _) hk h.2.2⟩
section
variable {op d a b m : Int} (hd : 0 ≤ d ∧ d ≤ 255) (ha : 0 ≤ a ∧ a ≤ 255) (hb : 0 ≤ b ∧ b ≤ 255) (hm : -2147483648 ≤ m ∧ m ≤ 2147483647)
include hd ha hb
theorem sum_step (k : Nat) (s : ByteArray) (bb x u i : Int) (nm : ByteArray) (fo is sh c : Int) (h0 : 0 ≤ i) (h1 : i < (s.size : Int)) (h2 : bt s i = c) (hs : s.size ≤ 100) (hx0 : 0 ≤ x) (hx1 : x ≤ 8589934592) (hu0 : 0 ≤ u) (hu1 : u ≤ 4194304) :
 q_Encode.l0 (k + 1) s bb x u i op d a b m nm fo is sh = q_Encode.l0 k s bb (x + u * R d a b c) (u / 16) (i + 1) op d a b m nm fo is sh := by
 have hR := R_le d a b c hd ha hb
 have hp : u * R d a b c ≤ 4194304 * 255 := Int.mul_le_mul hu1 hR.2 hR.1 (by decide)
 have hp0 : 0 ≤ u * R d a b c := Int.mul_nonneg hu0 hR.1
 rw [q_Encode.l0, if_pos h1, if_pos h0, h2, reg_eq op d a b m c hd ha hb]
 simp only [Option.bind_some]
 rw [w64 (u * R d a b c) (by omega) (by omega), w64 (x + u * R d a b c) (by omega) (by omega), Int.tdiv_eq_ediv_of_nonneg hu0, w64 (u / 16) (by omega) (by omega), w64 (i + 1) (by omega) (by omega)]
omit hd ha hb in
theorem sum_stop (k : Nat) (s : ByteArray) (bb x u i : Int) (nm : ByteArray) (fo is sh : Int) (h1 : ¬ i < (s.size : Int)) :
 q_Encode.l0 (k + 1) s bb x u i op d a b m nm fo is sh = q_Encode.l1 k s bb x ⟨#[68, 65, 66]⟩ 0 op d a b m nm fo is sh := by
 rw [q_Encode.l0, if_neg h1]
theorem look_step (k : Nat) (s : ByteArray) (bb x i : Int) (nm : ByteArray) (fo is sh c : Int) (h0 : 0 ≤ i) (h1 : i < 3) (h2 : bt ⟨#[68, 65, 66]⟩ i = c) (hs : Bool) (hh : q_has.f k s c = some hs) :
 q_Encode.l1 (k + 1) s bb x ⟨#[68, 65, 66]⟩ i op d a b m nm fo is sh = if (decide (R d a b c > 15) || (decide (R d a b c > 0) && !hs)) = true then some (0, 101) else q_Encode.l1 k s bb x ⟨#[68, 65, 66]⟩ (i + 1) op d a b m nm fo is sh := by
 have h3 : i < ((⟨#[68, 65, 66]⟩ : ByteArray).size : Int) := h1
 rw [q_Encode.l1, if_pos h1, if_pos h0, if_pos h3, h2, reg_eq op d a b m c hd ha hb]
 simp only [Option.bind_some]
 rw [hh]
 simp only [Option.bind_some]
 rw [w64 (i + 1) (by omega) (by omega)]
 by_cases g1 : R d a b c > 15
 · simp [g1]
 · by_cases g2 : R d a b c > 0
   · cases hs <;> simp [g1, g2]
   · simp [g1, g2]
theorem look_all (k : Nat) (hk : 40 ≤ k) (f : Nat) (hf1 : 1 ≤ f) (hf : f < 9) (bb x : Int) (nm : ByteArray) (fo is sh : Int) :
 q_Encode.l1 k (letters f) bb x ⟨#[68, 65, 66]⟩ 0 op d a b m nm fo is sh = if (Isa.badAt (Isa.atD f) d || Isa.badAt (Isa.atA f) a || Isa.badAt (Isa.atB f) b) = true then some (0, 101) else q_Encode.l1 (k - 3) (letters f) bb x ⟨#[68, 65, 66]⟩ 3 op d a b m nm fo is sh := by
 obtain ⟨k, rfl⟩ : ∃ n, k = n + 3 := ⟨k - 3, by omega⟩
 have key : ∀ (at_ r : Int), (decide (r > 15) || (decide (r > 0) && !(decide (0 ≤ at_)))) = Isa.badAt at_ r := by
  intro at_ r
  unfold Isa.badAt
  have e1 : decide (r > 15) = decide (16 ≤ r) := by rw [decide_eq_decide]; omega
  have e2 : (!decide (0 ≤ at_)) = decide (at_ < 0) := by rw [← decide_not, decide_eq_decide]; omega
  rw [e1, e2, Bool.and_comm (decide (r > 0))]
 have h := fun n hn => has_ge n hn f hf hf1
 rw [look_step hd ha hb (k + 2) _ _ _ 0 _ _ _ _ 68 (by decide) (by decide) (by decide) _ (h _ (by omega)).1, show R d a b 68 = d from rfl, key]
 by_cases b1 : Isa.badAt (Isa.atD f) d = true
 · rw [if_pos b1, if_pos (by simp [b1])]
 · rw [if_neg b1, look_step hd ha hb (k + 1) _ _ _ (0 + 1) _ _ _ _ 65 (by decide) (by decide) (by decide) _ (h _ (by omega)).2.1, show R d a b 65 = a from rfl, key]
   by_cases b2 : Isa.badAt (Isa.atA f) a = true
   · rw [if_pos b2, if_pos (by simp [b2])]
   · rw [if_neg b2, look_step hd ha hb k _ _ _ (0 + 1 + 1) _ _ _ _ 66 (by decide) (by decide) (by decide) _ (h _ (by omega)).2.2, show R d a b 66 = b from rfl, key]
     by_cases b3 : Isa.badAt (Isa.atB f) b = true
     · rw [if_pos b3, if_pos (by simp [b3])]
     · rw [if_neg b3, if_neg (by simp [b1, b2, b3])]
       rfl
end
theorem num_in : ∀ (f nu : Nat), ((f = 1 ∧ nu = 0) ∨ (f = 2 ∧ nu = 1) ∨ (f = 2 ∧ nu = 2) ∨ (f = 2 ∧ nu = 3) ∨ (f = 3 ∧ nu = 1) ∨ (f = 4 ∧ nu = 1) ∨ (f = 4 ∧ nu = 2) ∨ (f = 5 ∧ nu = 0) ∨ (f = 6 ∧ nu = 0) ∨ (f = 7 ∧ nu = 2) ∨ (f = 8 ∧ nu = 0)) → ∀ m : Int, Isa.fits f nu m = true → (m < 0 → m + 2 ^ Isa.bits f = m % 2 ^ Isa.bits f) ∧ (0 ≤ m → m = m % 2 ^ Isa.bits f) ∧ Isa.bits f < 27 := by
 intro f nu hc m h
 rcases hc with ⟨rfl, rfl⟩ | ⟨rfl, rfl⟩ | ⟨rfl, rfl⟩ | ⟨rfl, rfl⟩ | ⟨rfl, rfl⟩ | ⟨rfl, rfl⟩ | ⟨rfl, rfl⟩ | ⟨rfl, rfl⟩ | ⟨rfl, rfl⟩ | ⟨rfl, rfl⟩ | ⟨rfl, rfl⟩ <;> simp [Isa.fits, Isa.bits, Isa.layN] at h ⊢ <;> omega
theorem look_end (k : Nat) (hk : 37 ≤ k) (f nu : Nat) (hnu : nu < 4) (hs : nu = 1 → f = 2 ∨ f = 3 ∨ f = 4) (hc : (f = 1 ∧ nu = 0) ∨ (f = 2 ∧ nu = 1) ∨ (f = 2 ∧ nu = 2) ∨ (f = 2 ∧ nu = 3) ∨ (f = 3 ∧ nu = 1) ∨ (f = 4 ∧ nu = 1) ∨ (f = 4 ∧ nu = 2) ∨ (f = 5 ∧ nu = 0) ∨ (f = 6 ∧ nu = 0) ∨ (f = 7 ∧ nu = 2) ∨ (f = 8 ∧ nu = 0)) (op d a b m x : Int) (hm : -2147483648 ≤ m ∧ m ≤ 2147483647) (hx0 : 0 ≤ x) (hx1 : x % 67108864 = 0 ∨ x % 2 ^ Isa.bits f = 0) (hx2 : x + 2 ^ Isa.bits f ≤ 4294967296) (s nm : ByteArray) (fo sh : Int) :
 q_Encode.l1 k s (Isa.bits f : Int) x ⟨#[68, 65, 66]⟩ 3 op d a b m nm fo (immC nu) sh = if Isa.fits f nu m = true then some (x + m % 2 ^ Isa.bits f, 0) else some (0, 102) := by
 obtain ⟨k, rfl⟩ : ∃ n, k = n + 1 := ⟨k - 1, by omega⟩
 rw [q_Encode.l1, if_neg (by decide), w64 m (by omega) (by omega), takes_eq k (by omega) f nu hnu hs]
 simp only [Option.bind_some]
 by_cases h : Isa.fits f nu m = true
 · rw [if_pos h, if_pos h]
   obtain ⟨n1, n2, n3⟩ := num_in f nu hc m h
   have hp : (2 : Int) ^ Isa.bits f ≤ 2 ^ 26 := by exact_mod_cast Nat.pow_le_pow_right (by decide) (by omega)
   have hp0 : (0 : Int) < 2 ^ Isa.bits f := by exact_mod_cast Nat.two_pow_pos _
   have q0 := Int.emod_nonneg m (show (2 : Int) ^ Isa.bits f ≠ 0 by omega)
   have q1 := Int.emod_lt_of_pos m hp0
   by_cases hneg : m < 0
   · rw [if_pos hneg, pow_ge k (by omega) _ n3]
     simp only [Option.bind_some]
     rw [w64 (m + 2 ^ Isa.bits f) (by omega) (by omega), n1 hneg, w64 _ (by omega) (by omega), Int.emod_eq_of_lt (a := x + m % 2 ^ Isa.bits f) (by omega) (by omega)]
   · have e := n2 (by omega)
     rw [if_neg hneg, w64 (x + m) (by omega) (by omega)]
     have e2 : (x + m) % 4294967296 = x + m := Int.emod_eq_of_lt (by omega) (by omega)
     rw [e2, ← e]
 · rw [if_neg h, if_neg h]
theorem form_eq1 (k : Nat) (hk : 60 ≤ k) (nu : Nat) (hnu : nu < 4) (hs : nu = 1 → 1 = 2 ∨ 1 = 3 ∨ 1 = 4) (hc : (1 = 1 ∧ nu = 0) ∨ (1 = 2 ∧ nu = 1) ∨ (1 = 2 ∧ nu = 2) ∨ (1 = 2 ∧ nu = 3) ∨ (1 = 3 ∧ nu = 1) ∨ (1 = 4 ∧ nu = 1) ∨ (1 = 4 ∧ nu = 2) ∨ (1 = 5 ∧ nu = 0) ∨ (1 = 6 ∧ nu = 0) ∨ (1 = 7 ∧ nu = 2) ∨ (1 = 8 ∧ nu = 0)) (n : Int) (hn : 1 ≤ n ∧ n < 49) (d a b m : Int) (hd : 0 ≤ d ∧ d ≤ 255) (ha : 0 ≤ a ∧ a ≤ 255) (hb : 0 ≤ b ∧ b ≤ 255) (hm : -2147483648 ≤ m ∧ m ≤ 2147483647) (nm : ByteArray) (fo sh : Int) :
 q_Encode.l0 k (letters 1) (Isa.bits 1 : Int) (n * 67108864) 4194304 0 n d a b m nm fo (immC nu) sh = some (Isa.encF 1 nu n d a b m) := by
 obtain ⟨k, rfl⟩ : ∃ n, k = n + 4 := ⟨k - 4, by omega⟩
 rw [show letters 1 = ⟨#[68, 65, 66]⟩ from rfl]
 rw [sum_step hd ha hb (k + 3) _ _ (n * 67108864) (4194304) (0) _ _ _ _ 68 (by decide) (by decide) (by decide) (by decide) (by omega) (by omega) (by decide) (by decide), show R d a b 68 = d from rfl]
 rw [sum_step hd ha hb (k + 2) _ _ (n * 67108864 + 4194304 * d) (4194304 / 16) (0 + 1) _ _ _ _ 65 (by decide) (by decide) (by decide) (by decide) (by omega) (by omega) (by decide) (by decide), show R d a b 65 = a from rfl]
 rw [sum_step hd ha hb (k + 1) _ _ (n * 67108864 + 4194304 * d + (4194304 / 16) * a) (4194304 / 16 / 16) (0 + 1 + 1) _ _ _ _ 66 (by decide) (by decide) (by decide) (by decide) (by omega) (by omega) (by decide) (by decide), show R d a b 66 = b from rfl]
 rw [sum_stop (k + 0) _ _ (n * 67108864 + 4194304 * d + (4194304 / 16) * a + (4194304 / 16 / 16) * b) (4194304 / 16 / 16 / 16) (0 + 1 + 1 + 1) _ _ _ _ (by decide)]
 refine (look_all hd ha hb (k + 0) (by omega) 1 (by decide) (by decide) _ _ _ _ _ _).trans ?_
 unfold Isa.encF
 by_cases hbad : (Isa.badAt (Isa.atD 1) d || Isa.badAt (Isa.atA 1) a || Isa.badAt (Isa.atB 1) b) = true
 · rw [if_pos hbad, if_pos hbad]
 · rw [if_neg hbad, if_neg hbad]
   have nb := hbad
   simp only [Bool.or_eq_true, not_or, Bool.not_eq_true] at nb
   have g1 := Isa.badAt_le nb.1.1
   have g2 := Isa.badAt_le nb.1.2
   have g3 := Isa.badAt_le nb.2
   simp [Isa.atD, Isa.atA, Isa.atB, Isa.layD, Isa.layA, Isa.layB] at g1 g2 g3
   rw [look_end (k + 0 - 3) (by omega) 1 nu hnu hs hc n d a b m _ hm (by omega) (.inr (by simp [Isa.bits, Isa.layN]; try omega)) (by simp [Isa.bits, Isa.layN]; omega)]
   by_cases hF : Isa.fits 1 nu m = true
   · rw [if_pos hF, if_pos hF]
     have e : Isa.wordF 1 n d a b m = n * 67108864 + 4194304 * d + (4194304 / 16) * a + (4194304 / 16 / 16) * b + m % 2 ^ Isa.bits 1 := by
      simp [Isa.wordF, Isa.place, Isa.atD, Isa.atA, Isa.atB, Isa.layD, Isa.layA, Isa.layB] <;> omega
     rw [e]
   · rw [if_neg hF, if_neg hF]
theorem form_eq2 (k : Nat) (hk : 60 ≤ k) (nu : Nat) (hnu : nu < 4) (hs : nu = 1 → 2 = 2 ∨ 2 = 3 ∨ 2 = 4) (hc : (2 = 1 ∧ nu = 0) ∨ (2 = 2 ∧ nu = 1) ∨ (2 = 2 ∧ nu = 2) ∨ (2 = 2 ∧ nu = 3) ∨ (2 = 3 ∧ nu = 1) ∨ (2 = 4 ∧ nu = 1) ∨ (2 = 4 ∧ nu = 2) ∨ (2 = 5 ∧ nu = 0) ∨ (2 = 6 ∧ nu = 0) ∨ (2 = 7 ∧ nu = 2) ∨ (2 = 8 ∧ nu = 0)) (n : Int) (hn : 1 ≤ n ∧ n < 49) (d a b m : Int) (hd : 0 ≤ d ∧ d ≤ 255) (ha : 0 ≤ a ∧ a ≤ 255) (hb : 0 ≤ b ∧ b ≤ 255) (hm : -2147483648 ≤ m ∧ m ≤ 2147483647) (nm : ByteArray) (fo sh : Int) :
 q_Encode.l0 k (letters 2) (Isa.bits 2 : Int) (n * 67108864) 4194304 0 n d a b m nm fo (immC nu) sh = some (Isa.encF 2 nu n d a b m) := by
 obtain ⟨k, rfl⟩ : ∃ n, k = n + 4 := ⟨k - 4, by omega⟩
 rw [show letters 2 = ⟨#[68, 65]⟩ from rfl]
 rw [sum_step hd ha hb (k + 3) _ _ (n * 67108864) (4194304) (0) _ _ _ _ 68 (by decide) (by decide) (by decide) (by decide) (by omega) (by omega) (by decide) (by decide), show R d a b 68 = d from rfl]
 rw [sum_step hd ha hb (k + 2) _ _ (n * 67108864 + 4194304 * d) (4194304 / 16) (0 + 1) _ _ _ _ 65 (by decide) (by decide) (by decide) (by decide) (by omega) (by omega) (by decide) (by decide), show R d a b 65 = a from rfl]
 rw [sum_stop (k + 1) _ _ (n * 67108864 + 4194304 * d + (4194304 / 16) * a) (4194304 / 16 / 16) (0 + 1 + 1) _ _ _ _ (by decide)]
 refine (look_all hd ha hb (k + 1) (by omega) 2 (by decide) (by decide) _ _ _ _ _ _).trans ?_
 unfold Isa.encF
 by_cases hbad : (Isa.badAt (Isa.atD 2) d || Isa.badAt (Isa.atA 2) a || Isa.badAt (Isa.atB 2) b) = true
 · rw [if_pos hbad, if_pos hbad]
 · rw [if_neg hbad, if_neg hbad]
   have nb := hbad
   simp only [Bool.or_eq_true, not_or, Bool.not_eq_true] at nb
   have g1 := Isa.badAt_le nb.1.1
   have g2 := Isa.badAt_le nb.1.2
   have g3 := Isa.badAt_le nb.2
   simp [Isa.atD, Isa.atA, Isa.atB, Isa.layD, Isa.layA, Isa.layB] at g1 g2 g3
   rw [look_end (k + 1 - 3) (by omega) 2 nu hnu hs hc n d a b m _ hm (by omega) (.inr (by simp [Isa.bits, Isa.layN]; try omega)) (by simp [Isa.bits, Isa.layN]; omega)]
   by_cases hF : Isa.fits 2 nu m = true
   · rw [if_pos hF, if_pos hF]
     have e : Isa.wordF 2 n d a b m = n * 67108864 + 4194304 * d + (4194304 / 16) * a + m % 2 ^ Isa.bits 2 := by
      simp [Isa.wordF, Isa.place, Isa.atD, Isa.atA, Isa.atB, Isa.layD, Isa.layA, Isa.layB] <;> omega
     rw [e]
   · rw [if_neg hF, if_neg hF]
theorem form_eq3 (k : Nat) (hk : 60 ≤ k) (nu : Nat) (hnu : nu < 4) (hs : nu = 1 → 3 = 2 ∨ 3 = 3 ∨ 3 = 4) (hc : (3 = 1 ∧ nu = 0) ∨ (3 = 2 ∧ nu = 1) ∨ (3 = 2 ∧ nu = 2) ∨ (3 = 2 ∧ nu = 3) ∨ (3 = 3 ∧ nu = 1) ∨ (3 = 4 ∧ nu = 1) ∨ (3 = 4 ∧ nu = 2) ∨ (3 = 5 ∧ nu = 0) ∨ (3 = 6 ∧ nu = 0) ∨ (3 = 7 ∧ nu = 2) ∨ (3 = 8 ∧ nu = 0)) (n : Int) (hn : 1 ≤ n ∧ n < 49) (d a b m : Int) (hd : 0 ≤ d ∧ d ≤ 255) (ha : 0 ≤ a ∧ a ≤ 255) (hb : 0 ≤ b ∧ b ≤ 255) (hm : -2147483648 ≤ m ∧ m ≤ 2147483647) (nm : ByteArray) (fo sh : Int) :
 q_Encode.l0 k (letters 3) (Isa.bits 3 : Int) (n * 67108864) 4194304 0 n d a b m nm fo (immC nu) sh = some (Isa.encF 3 nu n d a b m) := by
 obtain ⟨k, rfl⟩ : ∃ n, k = n + 4 := ⟨k - 4, by omega⟩
 rw [show letters 3 = ⟨#[65, 66]⟩ from rfl]
 rw [sum_step hd ha hb (k + 3) _ _ (n * 67108864) (4194304) (0) _ _ _ _ 65 (by decide) (by decide) (by decide) (by decide) (by omega) (by omega) (by decide) (by decide), show R d a b 65 = a from rfl]
 rw [sum_step hd ha hb (k + 2) _ _ (n * 67108864 + 4194304 * a) (4194304 / 16) (0 + 1) _ _ _ _ 66 (by decide) (by decide) (by decide) (by decide) (by omega) (by omega) (by decide) (by decide), show R d a b 66 = b from rfl]
 rw [sum_stop (k + 1) _ _ (n * 67108864 + 4194304 * a + (4194304 / 16) * b) (4194304 / 16 / 16) (0 + 1 + 1) _ _ _ _ (by decide)]
 refine (look_all hd ha hb (k + 1) (by omega) 3 (by decide) (by decide) _ _ _ _ _ _).trans ?_
 unfold Isa.encF
 by_cases hbad : (Isa.badAt (Isa.atD 3) d || Isa.badAt (Isa.atA 3) a || Isa.badAt (Isa.atB 3) b) = true
 · rw [if_pos hbad, if_pos hbad]
 · rw [if_neg hbad, if_neg hbad]
   have nb := hbad
   simp only [Bool.or_eq_true, not_or, Bool.not_eq_true] at nb
   have g1 := Isa.badAt_le nb.1.1
   have g2 := Isa.badAt_le nb.1.2
   have g3 := Isa.badAt_le nb.2
   simp [Isa.atD, Isa.atA, Isa.atB, Isa.layD, Isa.layA, Isa.layB] at g1 g2 g3
   rw [look_end (k + 1 - 3) (by omega) 3 nu hnu hs hc n d a b m _ hm (by omega) (.inr (by simp [Isa.bits, Isa.layN]; try omega)) (by simp [Isa.bits, Isa.layN]; omega)]
   by_cases hF : Isa.fits 3 nu m = true
   · rw [if_pos hF, if_pos hF]
     have e : Isa.wordF 3 n d a b m = n * 67108864 + 4194304 * a + (4194304 / 16) * b + m % 2 ^ Isa.bits 3 := by
      simp [Isa.wordF, Isa.place, Isa.atD, Isa.atA, Isa.atB, Isa.layD, Isa.layA, Isa.layB] <;> omega
     rw [e]
   · rw [if_neg hF, if_neg hF]
theorem form_eq4 (k : Nat) (hk : 60 ≤ k) (nu : Nat) (hnu : nu < 4) (hs : nu = 1 → 4 = 2 ∨ 4 = 3 ∨ 4 = 4) (hc : (4 = 1 ∧ nu = 0) ∨ (4 = 2 ∧ nu = 1) ∨ (4 = 2 ∧ nu = 2) ∨ (4 = 2 ∧ nu = 3) ∨ (4 = 3 ∧ nu = 1) ∨ (4 = 4 ∧ nu = 1) ∨ (4 = 4 ∧ nu = 2) ∨ (4 = 5 ∧ nu = 0) ∨ (4 = 6 ∧ nu = 0) ∨ (4 = 7 ∧ nu = 2) ∨ (4 = 8 ∧ nu = 0)) (n : Int) (hn : 1 ≤ n ∧ n < 49) (d a b m : Int) (hd : 0 ≤ d ∧ d ≤ 255) (ha : 0 ≤ a ∧ a ≤ 255) (hb : 0 ≤ b ∧ b ≤ 255) (hm : -2147483648 ≤ m ∧ m ≤ 2147483647) (nm : ByteArray) (fo sh : Int) :
 q_Encode.l0 k (letters 4) (Isa.bits 4 : Int) (n * 67108864) 4194304 0 n d a b m nm fo (immC nu) sh = some (Isa.encF 4 nu n d a b m) := by
 obtain ⟨k, rfl⟩ : ∃ n, k = n + 4 := ⟨k - 4, by omega⟩
 rw [show letters 4 = ⟨#[68]⟩ from rfl]
 rw [sum_step hd ha hb (k + 3) _ _ (n * 67108864) (4194304) (0) _ _ _ _ 68 (by decide) (by decide) (by decide) (by decide) (by omega) (by omega) (by decide) (by decide), show R d a b 68 = d from rfl]
 rw [sum_stop (k + 2) _ _ (n * 67108864 + 4194304 * d) (4194304 / 16) (0 + 1) _ _ _ _ (by decide)]
 refine (look_all hd ha hb (k + 2) (by omega) 4 (by decide) (by decide) _ _ _ _ _ _).trans ?_
 unfold Isa.encF
 by_cases hbad : (Isa.badAt (Isa.atD 4) d || Isa.badAt (Isa.atA 4) a || Isa.badAt (Isa.atB 4) b) = true
 · rw [if_pos hbad, if_pos hbad]
 · rw [if_neg hbad, if_neg hbad]
   have nb := hbad
   simp only [Bool.or_eq_true, not_or, Bool.not_eq_true] at nb
   have g1 := Isa.badAt_le nb.1.1
   have g2 := Isa.badAt_le nb.1.2
   have g3 := Isa.badAt_le nb.2
   simp [Isa.atD, Isa.atA, Isa.atB, Isa.layD, Isa.layA, Isa.layB] at g1 g2 g3
   rw [look_end (k + 2 - 3) (by omega) 4 nu hnu hs hc n d a b m _ hm (by omega) (.inr (by simp [Isa.bits, Isa.layN]; try omega)) (by simp [Isa.bits, Isa.layN]; omega)]
   by_cases hF : Isa.fits 4 nu m = true
   · rw [if_pos hF, if_pos hF]
     have e : Isa.wordF 4 n d a b m = n * 67108864 + 4194304 * d + m % 2 ^ Isa.bits 4 := by
      simp [Isa.wordF, Isa.place, Isa.atD, Isa.atA, Isa.atB, Isa.layD, Isa.layA, Isa.layB] <;> omega
     rw [e]
   · rw [if_neg hF, if_neg hF]
theorem form_eq5 (k : Nat) (hk : 60 ≤ k) (nu : Nat) (hnu : nu < 4) (hs : nu = 1 → 5 = 2 ∨ 5 = 3 ∨ 5 = 4) (hc : (5 = 1 ∧ nu = 0) ∨ (5 = 2 ∧ nu = 1) ∨ (5 = 2 ∧ nu = 2) ∨ (5 = 2 ∧ nu = 3) ∨ (5 = 3 ∧ nu = 1) ∨ (5 = 4 ∧ nu = 1) ∨ (5 = 4 ∧ nu = 2) ∨ (5 = 5 ∧ nu = 0) ∨ (5 = 6 ∧ nu = 0) ∨ (5 = 7 ∧ nu = 2) ∨ (5 = 8 ∧ nu = 0)) (n : Int) (hn : 1 ≤ n ∧ n < 49) (d a b m : Int) (hd : 0 ≤ d ∧ d ≤ 255) (ha : 0 ≤ a ∧ a ≤ 255) (hb : 0 ≤ b ∧ b ≤ 255) (hm : -2147483648 ≤ m ∧ m ≤ 2147483647) (nm : ByteArray) (fo sh : Int) :
 q_Encode.l0 k (letters 5) (Isa.bits 5 : Int) (n * 67108864) 4194304 0 n d a b m nm fo (immC nu) sh = some (Isa.encF 5 nu n d a b m) := by
 obtain ⟨k, rfl⟩ : ∃ n, k = n + 4 := ⟨k - 4, by omega⟩
 rw [show letters 5 = ⟨#[68]⟩ from rfl]
 rw [sum_step hd ha hb (k + 3) _ _ (n * 67108864) (4194304) (0) _ _ _ _ 68 (by decide) (by decide) (by decide) (by decide) (by omega) (by omega) (by decide) (by decide), show R d a b 68 = d from rfl]
 rw [sum_stop (k + 2) _ _ (n * 67108864 + 4194304 * d) (4194304 / 16) (0 + 1) _ _ _ _ (by decide)]
 refine (look_all hd ha hb (k + 2) (by omega) 5 (by decide) (by decide) _ _ _ _ _ _).trans ?_
 unfold Isa.encF
 by_cases hbad : (Isa.badAt (Isa.atD 5) d || Isa.badAt (Isa.atA 5) a || Isa.badAt (Isa.atB 5) b) = true
 · rw [if_pos hbad, if_pos hbad]
 · rw [if_neg hbad, if_neg hbad]
   have nb := hbad
   simp only [Bool.or_eq_true, not_or, Bool.not_eq_true] at nb
   have g1 := Isa.badAt_le nb.1.1
   have g2 := Isa.badAt_le nb.1.2
   have g3 := Isa.badAt_le nb.2
   simp [Isa.atD, Isa.atA, Isa.atB, Isa.layD, Isa.layA, Isa.layB] at g1 g2 g3
   rw [look_end (k + 2 - 3) (by omega) 5 nu hnu hs hc n d a b m _ hm (by omega) (.inr (by simp [Isa.bits, Isa.layN]; try omega)) (by simp [Isa.bits, Isa.layN]; omega)]
   by_cases hF : Isa.fits 5 nu m = true
   · rw [if_pos hF, if_pos hF]
     have e : Isa.wordF 5 n d a b m = n * 67108864 + 4194304 * d + m % 2 ^ Isa.bits 5 := by
      simp [Isa.wordF, Isa.place, Isa.atD, Isa.atA, Isa.atB, Isa.layD, Isa.layA, Isa.layB] <;> omega
     rw [e]
   · rw [if_neg hF, if_neg hF]
theorem form_eq6 (k : Nat) (hk : 60 ≤ k) (nu : Nat) (hnu : nu < 4) (hs : nu = 1 → 6 = 2 ∨ 6 = 3 ∨ 6 = 4) (hc : (6 = 1 ∧ nu = 0) ∨ (6 = 2 ∧ nu = 1) ∨ (6 = 2 ∧ nu = 2) ∨ (6 = 2 ∧ nu = 3) ∨ (6 = 3 ∧ nu = 1) ∨ (6 = 4 ∧ nu = 1) ∨ (6 = 4 ∧ nu = 2) ∨ (6 = 5 ∧ nu = 0) ∨ (6 = 6 ∧ nu = 0) ∨ (6 = 7 ∧ nu = 2) ∨ (6 = 8 ∧ nu = 0)) (n : Int) (hn : 1 ≤ n ∧ n < 49) (d a b m : Int) (hd : 0 ≤ d ∧ d ≤ 255) (ha : 0 ≤ a ∧ a ≤ 255) (hb : 0 ≤ b ∧ b ≤ 255) (hm : -2147483648 ≤ m ∧ m ≤ 2147483647) (nm : ByteArray) (fo sh : Int) :
 q_Encode.l0 k (letters 6) (Isa.bits 6 : Int) (n * 67108864) 4194304 0 n d a b m nm fo (immC nu) sh = some (Isa.encF 6 nu n d a b m) := by
 obtain ⟨k, rfl⟩ : ∃ n, k = n + 4 := ⟨k - 4, by omega⟩
 rw [show letters 6 = ⟨#[65]⟩ from rfl]
 rw [sum_step hd ha hb (k + 3) _ _ (n * 67108864) (4194304) (0) _ _ _ _ 65 (by decide) (by decide) (by decide) (by decide) (by omega) (by omega) (by decide) (by decide), show R d a b 65 = a from rfl]
 rw [sum_stop (k + 2) _ _ (n * 67108864 + 4194304 * a) (4194304 / 16) (0 + 1) _ _ _ _ (by decide)]
 refine (look_all hd ha hb (k + 2) (by omega) 6 (by decide) (by decide) _ _ _ _ _ _).trans ?_
 unfold Isa.encF
 by_cases hbad : (Isa.badAt (Isa.atD 6) d || Isa.badAt (Isa.atA 6) a || Isa.badAt (Isa.atB 6) b) = true
 · rw [if_pos hbad, if_pos hbad]
 · rw [if_neg hbad, if_neg hbad]
   have nb := hbad
   simp only [Bool.or_eq_true, not_or, Bool.not_eq_true] at nb
   have g1 := Isa.badAt_le nb.1.1
   have g2 := Isa.badAt_le nb.1.2
   have g3 := Isa.badAt_le nb.2
   simp [Isa.atD, Isa.atA, Isa.atB, Isa.layD, Isa.layA, Isa.layB] at g1 g2 g3
   rw [look_end (k + 2 - 3) (by omega) 6 nu hnu hs hc n d a b m _ hm (by omega) (.inr (by simp [Isa.bits, Isa.layN]; try omega)) (by simp [Isa.bits, Isa.layN]; omega)]
   by_cases hF : Isa.fits 6 nu m = true
   · rw [if_pos hF, if_pos hF]
     have e : Isa.wordF 6 n d a b m = n * 67108864 + 4194304 * a + m % 2 ^ Isa.bits 6 := by
      simp [Isa.wordF, Isa.place, Isa.atD, Isa.atA, Isa.atB, Isa.layD, Isa.layA, Isa.layB] <;> omega
     rw [e]
   · rw [if_neg hF, if_neg hF]
theorem form_eq7 (k : Nat) (hk : 60 ≤ k) (nu : Nat) (hnu : nu < 4) (hs : nu = 1 → 7 = 2 ∨ 7 = 3 ∨ 7 = 4) (hc : (7 = 1 ∧ nu = 0) ∨ (7 = 2 ∧ nu = 1) ∨ (7 = 2 ∧ nu = 2) ∨ (7 = 2 ∧ nu = 3) ∨ (7 = 3 ∧ nu = 1) ∨ (7 = 4 ∧ nu = 1) ∨ (7 = 4 ∧ nu = 2) ∨ (7 = 5 ∧ nu = 0) ∨ (7 = 6 ∧ nu = 0) ∨ (7 = 7 ∧ nu = 2) ∨ (7 = 8 ∧ nu = 0)) (n : Int) (hn : 1 ≤ n ∧ n < 49) (d a b m : Int) (hd : 0 ≤ d ∧ d ≤ 255) (ha : 0 ≤ a ∧ a ≤ 255) (hb : 0 ≤ b ∧ b ≤ 255) (hm : -2147483648 ≤ m ∧ m ≤ 2147483647) (nm : ByteArray) (fo sh : Int) :
 q_Encode.l0 k (letters 7) (Isa.bits 7 : Int) (n * 67108864) 4194304 0 n d a b m nm fo (immC nu) sh = some (Isa.encF 7 nu n d a b m) := by
 obtain ⟨k, rfl⟩ : ∃ n, k = n + 4 := ⟨k - 4, by omega⟩
 rw [show letters 7 = ⟨#[]⟩ from rfl]
 rw [sum_stop (k + 3) _ _ (n * 67108864) (4194304) (0) _ _ _ _ (by decide)]
 refine (look_all hd ha hb (k + 3) (by omega) 7 (by decide) (by decide) _ _ _ _ _ _).trans ?_
 unfold Isa.encF
 by_cases hbad : (Isa.badAt (Isa.atD 7) d || Isa.badAt (Isa.atA 7) a || Isa.badAt (Isa.atB 7) b) = true
 · rw [if_pos hbad, if_pos hbad]
 · rw [if_neg hbad, if_neg hbad]
   have nb := hbad
   simp only [Bool.or_eq_true, not_or, Bool.not_eq_true] at nb
   have g1 := Isa.badAt_le nb.1.1
   have g2 := Isa.badAt_le nb.1.2
   have g3 := Isa.badAt_le nb.2
   simp [Isa.atD, Isa.atA, Isa.atB, Isa.layD, Isa.layA, Isa.layB] at g1 g2 g3
   rw [look_end (k + 3 - 3) (by omega) 7 nu hnu hs hc n d a b m _ hm (by omega) (.inr (by simp [Isa.bits, Isa.layN]; try omega)) (by simp [Isa.bits, Isa.layN]; omega)]
   by_cases hF : Isa.fits 7 nu m = true
   · rw [if_pos hF, if_pos hF]
     have e : Isa.wordF 7 n d a b m = n * 67108864 + m % 2 ^ Isa.bits 7 := by
      simp [Isa.wordF, Isa.place, Isa.atD, Isa.atA, Isa.atB, Isa.layD, Isa.layA, Isa.layB] <;> omega
     rw [e]
   · rw [if_neg hF, if_neg hF]
theorem form_eq8 (k : Nat) (hk : 60 ≤ k) (nu : Nat) (hnu : nu < 4) (hs : nu = 1 → 8 = 2 ∨ 8 = 3 ∨ 8 = 4) (hc : (8 = 1 ∧ nu = 0) ∨ (8 = 2 ∧ nu = 1) ∨ (8 = 2 ∧ nu = 2) ∨ (8 = 2 ∧ nu = 3) ∨ (8 = 3 ∧ nu = 1) ∨ (8 = 4 ∧ nu = 1) ∨ (8 = 4 ∧ nu = 2) ∨ (8 = 5 ∧ nu = 0) ∨ (8 = 6 ∧ nu = 0) ∨ (8 = 7 ∧ nu = 2) ∨ (8 = 8 ∧ nu = 0)) (n : Int) (hn : 1 ≤ n ∧ n < 49) (d a b m : Int) (hd : 0 ≤ d ∧ d ≤ 255) (ha : 0 ≤ a ∧ a ≤ 255) (hb : 0 ≤ b ∧ b ≤ 255) (hm : -2147483648 ≤ m ∧ m ≤ 2147483647) (nm : ByteArray) (fo sh : Int) :
 q_Encode.l0 k (letters 8) (Isa.bits 8 : Int) (n * 67108864) 4194304 0 n d a b m nm fo (immC nu) sh = some (Isa.encF 8 nu n d a b m) := by
 obtain ⟨k, rfl⟩ : ∃ n, k = n + 4 := ⟨k - 4, by omega⟩
 rw [show letters 8 = ⟨#[]⟩ from rfl]
 rw [sum_stop (k + 3) _ _ (n * 67108864) (4194304) (0) _ _ _ _ (by decide)]
 refine (look_all hd ha hb (k + 3) (by omega) 8 (by decide) (by decide) _ _ _ _ _ _).trans ?_
 unfold Isa.encF
 by_cases hbad : (Isa.badAt (Isa.atD 8) d || Isa.badAt (Isa.atA 8) a || Isa.badAt (Isa.atB 8) b) = true
 · rw [if_pos hbad, if_pos hbad]
 · rw [if_neg hbad, if_neg hbad]
   have nb := hbad
   simp only [Bool.or_eq_true, not_or, Bool.not_eq_true] at nb
   have g1 := Isa.badAt_le nb.1.1
   have g2 := Isa.badAt_le nb.1.2
   have g3 := Isa.badAt_le nb.2
   simp [Isa.atD, Isa.atA, Isa.atB, Isa.layD, Isa.layA, Isa.layB] at g1 g2 g3
   rw [look_end (k + 3 - 3) (by omega) 8 nu hnu hs hc n d a b m _ hm (by omega) (.inr (by simp [Isa.bits, Isa.layN]; try omega)) (by simp [Isa.bits, Isa.layN]; omega)]
   by_cases hF : Isa.fits 8 nu m = true
   · rw [if_pos hF, if_pos hF]
     have e : Isa.wordF 8 n d a b m = n * 67108864 + m % 2 ^ Isa.bits 8 := by
      simp [Isa.wordF, Isa.place, Isa.atD, Isa.atA, Isa.atB, Isa.layD, Isa.layA, Isa.layB] <;> omega
     rw [e]
   · rw [if_neg hF, if_neg hF]
theorem enc_eq (k : Nat) (hk : 60 ≤ k) (op d a b m : Int) (hd : 0 ≤ d ∧ d ≤ 255) (ha : 0 ≤ a ∧ a ≤ 255) (hb : 0 ≤ b ∧ b ≤ 255) (hm : -2147483648 ≤ m ∧ m ≤ 2147483647) : q_Encode.f k op d a b m = some (Isa.enc op d a b m) := by
 unfold q_Encode.f Isa.enc
 by_cases h : op < 1 ∨ 49 ≤ op
 · obtain ⟨k', rfl⟩ : ∃ n, k = n + 1 := ⟨k - 1, by omega⟩
   rw [if_pos h, of_out k' op (by omega)]
   simp
 · rw [if_neg h]
   obtain ⟨n, rfl⟩ : ∃ n : Nat, op = (n : Int) := ⟨op.toNat, by omega⟩
   have hn : 1 ≤ n ∧ n < 49 := by omega
   rw [of_ge k (by omega) n (by omega), if_pos hn]
   simp only [Option.bind_some, if_true, Int.toNat_natCast]
   have tf := Isa.table_facts ⟨n, hn.2⟩
   simp only at tf
   rw [fields ⟨Isa.formOf n, tf.2.2.1⟩]
   simp only [Option.bind_some]
   rw [show (26 : Int) = ((26 : Nat) : Int) from rfl, pow_ge k (by omega) 26 (by decide)]
   simp only [Option.bind_some]
   rw [show (22 : Int) = ((22 : Nat) : Int) from rfl, pow_ge k (by omega) 22 (by decide)]
   simp only [Option.bind_some]
   rw [show ((2 : Int) ^ 26) = 67108864 from rfl, show ((2 : Int) ^ 22) = 4194304 from rfl, w64 ((n : Int) * 67108864) (by omega) (by omega)]
   have hc := Isa.combos ⟨n, hn.2⟩ hn.1
   simp only at hc
   have tf2 := tf.2.1
   have tf1 := tf.1
   generalize Isa.numOf n = nu at hc tf1 tf2
   generalize Isa.formOf n = f at hc tf2
   rcases hc with ⟨rfl, rfl⟩ | ⟨rfl, rfl⟩ | ⟨rfl, rfl⟩ | ⟨rfl, rfl⟩ | ⟨rfl, rfl⟩ | ⟨rfl, rfl⟩ | ⟨rfl, rfl⟩ | ⟨rfl, rfl⟩ | ⟨rfl, rfl⟩ | ⟨rfl, rfl⟩ | ⟨rfl, rfl⟩
   · exact form_eq1 k hk 0 (by decide) (by decide) (by decide) (n : Int) (by omega) d a b m hd ha hb hm _ _ _
   · exact form_eq2 k hk 1 (by decide) (by decide) (by decide) (n : Int) (by omega) d a b m hd ha hb hm _ _ _
   · exact form_eq2 k hk 2 (by decide) (by decide) (by decide) (n : Int) (by omega) d a b m hd ha hb hm _ _ _
   · exact form_eq2 k hk 3 (by decide) (by decide) (by decide) (n : Int) (by omega) d a b m hd ha hb hm _ _ _
   · exact form_eq3 k hk 1 (by decide) (by decide) (by decide) (n : Int) (by omega) d a b m hd ha hb hm _ _ _
   · exact form_eq4 k hk 1 (by decide) (by decide) (by decide) (n : Int) (by omega) d a b m hd ha hb hm _ _ _
   · exact form_eq4 k hk 2 (by decide) (by decide) (by decide) (n : Int) (by omega) d a b m hd ha hb hm _ _ _
   · exact form_eq5 k hk 0 (by decide) (by decide) (by decide) (n : Int) (by omega) d a b m hd ha hb hm _ _ _
   · exact form_eq6 k hk 0 (by decide) (by decide) (by decide) (n : Int) (by omega) d a b m hd ha hb hm _ _ _
   · exact form_eq7 k hk 2 (by decide) (by decide) (by decide) (n : Int) (by omega) d a b m hd ha hb hm _ _ _
   · exact form_eq8 k hk 0 (by decide) (by decide) (by decide) (n : Int) (by omega) d a b m hd ha hb hm _ _ _
theorem dec_nonneg : ∀ (k u : Nat), u < 10 ^ k → k ≤ 19 → 1 ≤ k → u ≤ 9223372036854775807 → q_decimal.f k (u : Int) = some ⟨(Lib.decDigits u).toArray⟩ ∧ (Lib.decDigits u).length ≤ k
 | 0, u, _, _, h, _ => absurd h (by decide)
 | k + 1, u, hu, hk, _, hm => by
  have e1 : Int.tmod (u : Int) 10 = ((u % 10 : Nat) : Int) := by rw [Int.tmod_eq_emod_of_nonneg (by omega)]; rfl
  have e2 : Int.tdiv (u : Int) 10 = ((u / 10 : Nat) : Int) := by rw [Int.tdiv_eq_ediv_of_nonneg (by omega)]; rfl
  have h10 : u % 10 < 10 := Nat.mod_lt _ (by decide)
  have ew : wrap64 (((u % 10 : Nat) : Int) + 1) = ((u % 10 + 1 : Nat) : Int) := by rw [w64 _ (by omega) (by omega)]; rfl
  have dig : ∀ r : Fin 10, (⟨#[48, 49, 50, 51, 52, 53, 54, 55, 56, 57]⟩ : ByteArray).extract r.1 (r.1 + 1) = ⟨#[UInt8.ofNat (48 + r.1)]⟩ := by decide +kernel
  have hd := dig ⟨u % 10, h10⟩
  simp only at hd
  rw [q_decimal.f, if_neg (by omega), e1, if_pos (by omega), ew, if_pos (by omega), if_pos (by omega)]
  simp only [Int.toNat_natCast]
  rw [hd]
  by_cases h : u < 10
  · rw [if_pos (by omega), Lib.decDigits_one h, Nat.mod_eq_of_lt h]
    exact ⟨rfl, by simp⟩
  · have k1 : 1 ≤ k := by
     rcases Nat.eq_zero_or_pos k with h0 | h0
     · subst h0; simp at hu; omega
     · exact h0
    have hp : 10 ^ (k + 1) = 10 ^ k * 10 := Nat.pow_succ 10 k
    obtain ⟨i1, i2⟩ := dec_nonneg k (u / 10) (by omega) (by omega) k1 (by omega)
    rw [if_neg (by omega), e2, w64 _ (by omega) (by omega), i1]
    simp only [Option.bind_some]
    have es : (⟨(Lib.decDigits (u / 10)).toArray⟩ : ByteArray).size = (Lib.decDigits (u / 10)).length := by simp [ByteArray.size]
    have e3 : (⟨#[UInt8.ofNat (48 + u % 10)]⟩ : ByteArray).size = 1 := rfl
    rw [if_pos (by rw [es, e3]; omega)]
    have ed : Lib.decDigits u = Lib.decDigits (u / 10) ++ [UInt8.ofNat (48 + u % 10)] := by rw [Lib.decDigits, dif_neg h]
    refine ⟨?_, by rw [ed]; simp; omega⟩
    congr 1
    apply ByteArray.ext
    simp [ByteArray.data_append, ed]
theorem dec_eq (n : Int) (h0 : -2147483648 ≤ n) (h1 : n ≤ 2147483647) : q_decimal.f 20 n = some (Isa.num n) := by
 by_cases h : n < 0
 · obtain ⟨u, hu⟩ : ∃ u : Nat, -n = (u : Int) := ⟨n.natAbs, by omega⟩
   obtain ⟨i1, i2⟩ := dec_nonneg 19 u (by omega) (by decide) (by decide) (by omega)
   rw [q_decimal.f, if_pos h, hu, w64 _ (by omega) (by omega), i1]
   simp only [Option.bind_some]
   have es : (⟨(Lib.decDigits u).toArray⟩ : ByteArray).size = (Lib.decDigits u).length := by simp [ByteArray.size]
   rw [if_pos (by rw [es]; omega)]
   have e : Lib.itoa n = 45 :: Lib.decDigits u := by
    unfold Lib.itoa
    rw [if_pos h, show n.natAbs = u by omega]
   congr 1
   apply ByteArray.ext
   simp [ByteArray.data_append, Isa.num, e]
 · obtain ⟨u, rfl⟩ : ∃ u : Nat, n = (u : Int) := ⟨n.toNat, by omega⟩
   obtain ⟨i1, _⟩ := dec_nonneg 19 u (by omega) (by decide) (by decide) (by omega)
   have i2 := at_rounds (fun k => q_decimal.mono_l k (u : Int)) (show 19 ≤ 20 by decide) i1
   rw [i2]
   unfold Isa.num
   rw [Lib.itoa_nonneg]
theorem dec_ge (k : Nat) (hk : 20 ≤ k) (n : Int) (h0 : -2147483648 ≤ n) (h1 : n ≤ 2147483647) : q_decimal.f k n = some (Isa.num n) :=
 at_rounds (fun k => q_decimal.mono_l k n) hk (dec_eq n h0 h1)
end RefM
theorem dec_calls (k : Nat) (hk : 20 ≤ k) (n : Int) (h : -2147483648 ≤ n ∧ n ≤ 2147483647) (w : World) : Calls Tryz.prog 78 #[.int .i64 n] w fun e w' => e = .returned (.string (Isa.num n)) ∧ Drawn0 w w' :=
 q_decimal.calls k n _ w (RefM.dec_ge k hk n h.1 h.2)
theorem dec_q (k : Nat) (hk : 20 ≤ k) (n : Int) (h : -2147483648 ≤ n ∧ n ≤ 2147483647) (w : World) : Calls Tryz.prog 78 #[.int .i64 n] w fun e w' => e = .returned (.string (Isa.num n)) ∧ ∃ m, w' = w.drewN m :=
 (dec_calls k hk n h w).mono fun _ _ q => ⟨q.1, q.2.out⟩
theorem RefM.of_kind (k : Nat) (hk : 30 ≤ k) (n : Nat) (h1 : 1 ≤ n) (h2 : n < 49) (f sh ic : Int) (hf : (Isa.formOf n : Int) = f) (hs : RefM.shC (Isa.formOf n) (Isa.shapeOf n) = sh) (hn : RefM.immC (Isa.numOf n) = ic) : q_Of.f k (n : Int) = some (Isa.nameOf n, f, ic, sh, true) := by
 rw [RefM.of_ge k hk n (by omega), if_pos ⟨h1, h2⟩, hf, hs, hn]
structure RTextW (w : World) (X : Nat) (n d a b imm : Int) (nm : ByteArray) (f ic sh : Int) (v : World) : Prop where
 own : v.heap[w.heap.size]? = some (.cells #[.int .i64 n, .int .u8 d, .int .u8 a, .int .u8 b, .int .i32 imm] 96 (0, 0))
 kind : v.heap[X]? = some (.cells #[.string nm, .int .i64 f, .int .u8 ic, .int .u8 sh] 167 (0, 0))
 bel : Below w.heap.size w v
theorem RTextW.drew {w : World} {X : Nat} {n d a b imm : Int} {nm : ByteArray} {f ic sh : Int} {v : World} (h : RTextW w X n d a b imm nm f ic sh v) : RTextW w X n d a b imm nm f ic sh v.drew := ⟨h.own, h.kind, h.bel.drew⟩
theorem RTextW.below {w : World} {X : Nat} {n d a b imm : Int} {nm : ByteArray} {f ic sh : Int} {v v1 : World} (h : RTextW w X n d a b imm nm f ic sh v) (hb : Below v.heap.size v v1) : RTextW w X n d a b imm nm f ic sh v1 :=
 ⟨blk_keep hb h.own, blk_keep hb h.kind, below_next h.bel hb⟩
theorem rtext_1_0 (k : Nat) (hk : 60 ≤ k) (n : Nat) (h1 : 1 ≤ n) (h2 : n < 49) (hf : (Isa.formOf n : Int) = 1) (hs : RefM.shC (Isa.formOf n) (Isa.shapeOf n) = 51) (ic : Int) (hn : RefM.immC (Isa.numOf n) = ic) (hnu : (ic == 45) = true) (d a b : Nat) (imm x : Int)
 (hd : d ≤ 15) (ha : a ≤ 15) (hb : b ≤ 15) (him : -2147483648 ≤ imm ∧ imm ≤ 2147483647) (hE : Isa.enc (n : Int) (d : Int) (a : Int) (b : Int) imm = (x, 0)) (hnm : (Isa.nameOf n).size ≤ 16) (w : World) :
 Calls Tryz.prog 40 #[.agg #[.int .i64 (n : Int), .int .u8 (d : Int), .int .u8 (a : Int), .int .u8 (b : Int), .int .i32 imm]] w (Isa.TextPost (((((((((Isa.nameOf n ++ ⟨#[32]⟩) ++ ⟨#[114]⟩) ++ Isa.num (d : Int)) ++ ⟨#[44, 32]⟩) ++ ⟨#[114]⟩) ++ Isa.num (a : Int)) ++ ⟨#[44, 32]⟩) ++ ⟨#[114]⟩) ++ Isa.num (b : Int)) w) := by
 have HC := Lib.hid (RefM.enc_eq k hk (n : Int) (d : Int) (a : Int) (b : Int) imm (by omega) (by omega) (by omega) him)
 have HO := Lib.hid (RefM.of_kind k (by omega) n h1 h2 1 51 ic hf hs hn)
 have si := Isa.num_size imm (by omega) (by omega)
 have sd := Isa.num_size (d : Int) (by omega) (by omega)
 have sa := Isa.num_size (a : Int) (by omega) (by omega)
 have sb := Isa.num_size (b : Int) (by omega) (by omega)
 have hk20 : 20 ≤ k := by omega
 have HE := Lib.hid hE
 clear hE hf hs hn
 go_enter Tryz.func40, Tryz.ntmps40
 go_wp2_with fail
 refine (q_Encode.calls k _ _ _ _ _ x 0 _ (HC.out.trans (by rw [HE.out]))).mono ?_
 rintro e w1 ⟨rfl, hb1⟩
 have k1 := blk_keep hb1 (heap_alloc_new _ _)
 have HB1 := Lib.hid (below_next (below_alloc' (Below.refl _ _) _) hb1)
 obtain ⟨d1, f1⟩ := blk_facts k1
 go_wp2_with fail
 refine (q_Of.calls k _ _ _ _ _ _ _ HO.out).mono ?_
 rintro e w2 ⟨rfl, hb2⟩
 have k2 := blk_keep hb2 k1
 have HB2 := Lib.hid (below_next HB1.out hb2)
 clear d1 f1
 obtain ⟨d2, f2⟩ := blk_facts k2
 have z2 := blk_size k2
 have z2k : ∀ k, w.heap.size < w2.heap.size + k := fun k => by omega
 go_wp2_with fail
 refine (q_Fields.calls 1 _ _ _ (RefM.fields ⟨1, by decide⟩)).mono ?_
 rintro e w3' ⟨rfl, hd3⟩
 obtain ⟨w3, rfl⟩ : ∃ w3, w3' = w3 := ⟨_, rfl⟩
 have hb3 := hd3.below
 have k3 := blk_keep hb3 (blk_alloc _ k2)
 have x3 := blk_keep hb3 (heap_alloc_new _ _)
 have HB3 := Lib.hid (below_next (below_alloc' HB2.out _) hb3)
 clear d2 f2 hd3
 obtain ⟨d3, f3⟩ := blk_facts k3
 have dx := (blk_facts x3).1
 go_wp2_with fail
 refine (dec_calls k (by omega) imm him _).mono ?_
 rintro e w4' ⟨rfl, hd4⟩
 obtain ⟨w4, rfl⟩ : ∃ w4, w4' = w4 := ⟨_, rfl⟩
 have hb4 := hd4.below
 have k4 := blk_keep hb4 k3
 have x4 := blk_keep hb4 x3
 have HB4 := Lib.hid (below_next HB3.out hb4)
 clear d3 f3 dx hd4
 obtain ⟨d4, f4⟩ := blk_facts k4
 have dx := (blk_facts x4).1
 simp only [show RefM.letters 1 = ⟨#[68, 65, 66]⟩ from rfl]
 go_wp2_with fail
 refine wp_loop_rounds 4 ?_
 refine rounds_world (RTextW w w2.heap.size (n : Int) (d : Int) (a : Int) (b : Int) imm (Isa.nameOf n) 1 ic 51) ⟨k4, x4, HB4.out⟩ ?_
 clear d4 f4 dx k4 x4 k3 x3 k2 k1 HB1 HB2 HB3 HB4
 intro v0 H0
 have p1 : ¬ (9223372036854775807 < (Isa.nameOf n).size + 1) := by omega
 have p2 : ¬ (9223372036854775807 < (Isa.nameOf n).size + 1 + 1) := by omega
 have p3 : ¬ (9223372036854775807 < (Isa.nameOf n).size + 1 + 1 + (Isa.num (d : Int)).size) := by omega
 rw [rounds_succ]
 obtain ⟨e0, g0⟩ := blk_facts H0.own
 go_wp2_with fail
 go_region_held3 (fun w' => w'.cell? ⟨w.heap.size, 0, none⟩ = some (.int .i64 (n : Int)) ∧ w'.cell? ⟨w.heap.size, 1, none⟩ = some (.int .u8 (d : Int)) ∧ w'.cell? ⟨w.heap.size, 2, none⟩ = some (.int .u8 (a : Int)) ∧ w'.cell? ⟨w.heap.size, 3, none⟩ = some (.int .u8 (b : Int)) ∧ w'.cell? ⟨w.heap.size, 4, none⟩ = some (.int .i32 imm))
  (first | go_keep | (simp [*]; done))
  ((first | (go_at_call 79; refine (q_register.calls _ _ _ _ _ 68 _ _ (RefM.reg_eq _ _ _ _ _ _ (by omega) (by omega) (by omega))).mono ?_; rintro e y1 ⟨rfl, hy1⟩; rw [show RefM.R (d : Int) (a : Int) (b : Int) 68 = (d : Int) from rfl]; have ky1 := blk_keep hy1 H0.own; obtain ⟨ey1, gy1⟩ := blk_facts ky1) | (go_at_call 78; refine (dec_calls k hk20 (d : Int) (by omega) _).mono ?_; rintro e y2 ⟨rfl, hy2⟩; have ky2 := blk_keep hy2.below ky1; obtain ⟨ey2, gy2⟩ := blk_facts ky2)))
 go_wp2_with fail
 refine rounds_world (RTextW w w2.heap.size (n : Int) (d : Int) (a : Int) (b : Int) imm (Isa.nameOf n) 1 ic 51) (by first | exact (H0.below hy1).below hy2.below | exact (H0.drew.below hy1).below hy2.below) ?_
 clear p1 p2 p3 e0 g0 ky1 ey1 gy1 ky2 ey2 gy2 hy1 hy2
 intro v1 H1
 have p1 : ¬ (9223372036854775807 < (Isa.nameOf n).size + 1 + 1 + (Isa.num (d : Int)).size + 2) := by omega
 have p2 : ¬ (9223372036854775807 < (Isa.nameOf n).size + 1 + 1 + (Isa.num (d : Int)).size + 2 + 1) := by omega
 have p3 : ¬ (9223372036854775807 < (Isa.nameOf n).size + 1 + 1 + (Isa.num (d : Int)).size + 2 + 1 + (Isa.num (a : Int)).size) := by omega
 rw [rounds_succ]
 obtain ⟨e1, g1⟩ := blk_facts H1.own
 go_wp2_with fail
 go_region_held3 (fun w' => w'.cell? ⟨w.heap.size, 0, none⟩ = some (.int .i64 (n : Int)) ∧ w'.cell? ⟨w.heap.size, 1, none⟩ = some (.int .u8 (d : Int)) ∧ w'.cell? ⟨w.heap.size, 2, none⟩ = some (.int .u8 (a : Int)) ∧ w'.cell? ⟨w.heap.size, 3, none⟩ = some (.int .u8 (b : Int)) ∧ w'.cell? ⟨w.heap.size, 4, none⟩ = some (.int .i32 imm))
  (first | go_keep | (simp [*]; done))
  ((first | (go_at_call 79; refine (q_register.calls _ _ _ _ _ 65 _ _ (RefM.reg_eq _ _ _ _ _ _ (by omega) (by omega) (by omega))).mono ?_; rintro e y1 ⟨rfl, hy1⟩; rw [show RefM.R (d : Int) (a : Int) (b : Int) 65 = (a : Int) from rfl]; have ky1 := blk_keep hy1 H1.own; obtain ⟨ey1, gy1⟩ := blk_facts ky1) | (go_at_call 78; refine (dec_calls k hk20 (a : Int) (by omega) _).mono ?_; rintro e y2 ⟨rfl, hy2⟩; have ky2 := blk_keep hy2.below ky1; obtain ⟨ey2, gy2⟩ := blk_facts ky2)))
 go_wp2_with fail
 refine rounds_world (RTextW w w2.heap.size (n : Int) (d : Int) (a : Int) (b : Int) imm (Isa.nameOf n) 1 ic 51) (by first | exact (H1.below hy1).below hy2.below | exact (H1.drew.below hy1).below hy2.below) ?_
 clear p1 p2 p3 e1 g1 ky1 ey1 gy1 ky2 ey2 gy2 hy1 hy2
 intro v2 H2
 have p1 : ¬ (9223372036854775807 < (Isa.nameOf n).size + 1 + 1 + (Isa.num (d : Int)).size + 2 + 1 + (Isa.num (a : Int)).size + 2) := by omega
 have p2 : ¬ (9223372036854775807 < (Isa.nameOf n).size + 1 + 1 + (Isa.num (d : Int)).size + 2 + 1 + (Isa.num (a : Int)).size + 2 + 1) := by omega
 have p3 : ¬ (9223372036854775807 < (Isa.nameOf n).size + 1 + 1 + (Isa.num (d : Int)).size + 2 + 1 + (Isa.num (a : Int)).size + 2 + 1 + (Isa.num (b : Int)).size) := by omega
 rw [rounds_succ]
 obtain ⟨e2, g2⟩ := blk_facts H2.own
 go_wp2_with fail
 go_region_held3 (fun w' => w'.cell? ⟨w.heap.size, 0, none⟩ = some (.int .i64 (n : Int)) ∧ w'.cell? ⟨w.heap.size, 1, none⟩ = some (.int .u8 (d : Int)) ∧ w'.cell? ⟨w.heap.size, 2, none⟩ = some (.int .u8 (a : Int)) ∧ w'.cell? ⟨w.heap.size, 3, none⟩ = some (.int .u8 (b : Int)) ∧ w'.cell? ⟨w.heap.size, 4, none⟩ = some (.int .i32 imm))
  (first | go_keep | (simp [*]; done))
  ((first | (go_at_call 79; refine (q_register.calls _ _ _ _ _ 66 _ _ (RefM.reg_eq _ _ _ _ _ _ (by omega) (by omega) (by omega))).mono ?_; rintro e y1 ⟨rfl, hy1⟩; rw [show RefM.R (d : Int) (a : Int) (b : Int) 66 = (b : Int) from rfl]; have ky1 := blk_keep hy1 H2.own; obtain ⟨ey1, gy1⟩ := blk_facts ky1) | (go_at_call 78; refine (dec_calls k hk20 (b : Int) (by omega) _).mono ?_; rintro e y2 ⟨rfl, hy2⟩; have ky2 := blk_keep hy2.below ky1; obtain ⟨ey2, gy2⟩ := blk_facts ky2)))
 go_wp2_with fail
 refine rounds_world (RTextW w w2.heap.size (n : Int) (d : Int) (a : Int) (b : Int) imm (Isa.nameOf n) 1 ic 51) (by first | exact (H2.below hy1).below hy2.below | exact (H2.drew.below hy1).below hy2.below) ?_
 clear p1 p2 p3 e2 g2 ky1 ey1 gy1 ky2 ey2 gy2 hy1 hy2
 intro v3 H3
 rw [rounds_succ]
 have p1 : ¬ (9223372036854775807 < (Isa.nameOf n).size + 1 + 1 + (Isa.num (d : Int)).size + 2 + 1 + (Isa.num (a : Int)).size + 2 + 1 + (Isa.num (b : Int)).size + 2) := by omega
 have p2 : ¬ (9223372036854775807 < (Isa.nameOf n).size + 1 + 1 + (Isa.num (d : Int)).size + 2 + 1 + (Isa.num (a : Int)).size + 2 + 1 + (Isa.num (b : Int)).size + 2 + (Isa.num imm).size) := by omega
 have hk5 := (blk_facts H3.kind).1
 go_wp2_with fail
 go_ret
 exact ⟨rfl, H3.bel⟩
theorem rtext_2_0 (k : Nat) (hk : 60 ≤ k) (n : Nat) (h1 : 1 ≤ n) (h2 : n < 49) (hf : (Isa.formOf n : Int) = 2) (hs : RefM.shC (Isa.formOf n) (Isa.shapeOf n) = 105) (ic : Int) (hn : RefM.immC (Isa.numOf n) = ic) (hnu : (ic == 45) = false) (d a b : Nat) (imm x : Int)
 (hd : d ≤ 15) (ha : a ≤ 15) (hb : b ≤ 15) (him : -2147483648 ≤ imm ∧ imm ≤ 2147483647) (hE : Isa.enc (n : Int) (d : Int) (a : Int) (b : Int) imm = (x, 0)) (hnm : (Isa.nameOf n).size ≤ 16) (w : World) :
 Calls Tryz.prog 40 #[.agg #[.int .i64 (n : Int), .int .u8 (d : Int), .int .u8 (a : Int), .int .u8 (b : Int), .int .i32 imm]] w (Isa.TextPost ((((((((Isa.nameOf n ++ ⟨#[32]⟩) ++ ⟨#[114]⟩) ++ Isa.num (d : Int)) ++ ⟨#[44, 32]⟩) ++ ⟨#[114]⟩) ++ Isa.num (a : Int)) ++ ⟨#[44, 32]⟩) ++ Isa.num imm) w) := by
 have HC := Lib.hid (RefM.enc_eq k hk (n : Int) (d : Int) (a : Int) (b : Int) imm (by omega) (by omega) (by omega) him)
 have HO := Lib.hid (RefM.of_kind k (by omega) n h1 h2 2 105 ic hf hs hn)
 have si := Isa.num_size imm (by omega) (by omega)
 have sd := Isa.num_size (d : Int) (by omega) (by omega)
 have sa := Isa.num_size (a : Int) (by omega) (by omega)
 have sb := Isa.num_size (b : Int) (by omega) (by omega)
 have hk20 : 20 ≤ k := by omega
 have HE := Lib.hid hE
 clear hE hf hs hn
 go_enter Tryz.func40, Tryz.ntmps40
 go_wp2_with fail
 refine (q_Encode.calls k _ _ _ _ _ x 0 _ (HC.out.trans (by rw [HE.out]))).mono ?_
 rintro e w1 ⟨rfl, hb1⟩
 have k1 := blk_keep hb1 (heap_alloc_new _ _)
 have HB1 := Lib.hid (below_next (below_alloc' (Below.refl _ _) _) hb1)
 obtain ⟨d1, f1⟩ := blk_facts k1
 go_wp2_with fail
 refine (q_Of.calls k _ _ _ _ _ _ _ HO.out).mono ?_
 rintro e w2 ⟨rfl, hb2⟩
 have k2 := blk_keep hb2 k1
 have HB2 := Lib.hid (below_next HB1.out hb2)
 clear d1 f1
 obtain ⟨d2, f2⟩ := blk_facts k2
 have z2 := blk_size k2
 have z2k : ∀ k, w.heap.size < w2.heap.size + k := fun k => by omega
 go_wp2_with fail
 refine (q_Fields.calls 2 _ _ _ (RefM.fields ⟨2, by decide⟩)).mono ?_
 rintro e w3' ⟨rfl, hd3⟩
 obtain ⟨w3, rfl⟩ : ∃ w3, w3' = w3 := ⟨_, rfl⟩
 have hb3 := hd3.below
 have k3 := blk_keep hb3 (blk_alloc _ k2)
 have x3 := blk_keep hb3 (heap_alloc_new _ _)
 have HB3 := Lib.hid (below_next (below_alloc' HB2.out _) hb3)
 clear d2 f2 hd3
 obtain ⟨d3, f3⟩ := blk_facts k3
 have dx := (blk_facts x3).1
 go_wp2_with fail
 refine (dec_calls k (by omega) imm him _).mono ?_
 rintro e w4' ⟨rfl, hd4⟩
 obtain ⟨w4, rfl⟩ : ∃ w4, w4' = w4 := ⟨_, rfl⟩
 have hb4 := hd4.below
 have k4 := blk_keep hb4 k3
 have x4 := blk_keep hb4 x3
 have HB4 := Lib.hid (below_next HB3.out hb4)
 clear d3 f3 dx hd4
 obtain ⟨d4, f4⟩ := blk_facts k4
 have dx := (blk_facts x4).1
 simp only [show RefM.letters 2 = ⟨#[68, 65]⟩ from rfl]
 go_wp2_with fail
 refine wp_loop_rounds 3 ?_
 refine rounds_world (RTextW w w2.heap.size (n : Int) (d : Int) (a : Int) (b : Int) imm (Isa.nameOf n) 2 ic 105) ⟨k4, x4, HB4.out⟩ ?_
 clear d4 f4 dx k4 x4 k3 x3 k2 k1 HB1 HB2 HB3 HB4
 intro v0 H0
 have p1 : ¬ (9223372036854775807 < (Isa.nameOf n).size + 1) := by omega
 have p2 : ¬ (9223372036854775807 < (Isa.nameOf n).size + 1 + 1) := by omega
 have p3 : ¬ (9223372036854775807 < (Isa.nameOf n).size + 1 + 1 + (Isa.num (d : Int)).size) := by omega
 rw [rounds_succ]
 obtain ⟨e0, g0⟩ := blk_facts H0.own
 go_wp2_with fail
 go_region_held3 (fun w' => w'.cell? ⟨w.heap.size, 0, none⟩ = some (.int .i64 (n : Int)) ∧ w'.cell? ⟨w.heap.size, 1, none⟩ = some (.int .u8 (d : Int)) ∧ w'.cell? ⟨w.heap.size, 2, none⟩ = some (.int .u8 (a : Int)) ∧ w'.cell? ⟨w.heap.size, 3, none⟩ = some (.int .u8 (b : Int)) ∧ w'.cell? ⟨w.heap.size, 4, none⟩ = some (.int .i32 imm))
  (first | go_keep | (simp [*]; done))
  ((first | (go_at_call 79; refine (q_register.calls _ _ _ _ _ 68 _ _ (RefM.reg_eq _ _ _ _ _ _ (by omega) (by omega) (by omega))).mono ?_; rintro e y1 ⟨rfl, hy1⟩; rw [show RefM.R (d : Int) (a : Int) (b : Int) 68 = (d : Int) from rfl]; have ky1 := blk_keep hy1 H0.own; obtain ⟨ey1, gy1⟩ := blk_facts ky1) | (go_at_call 78; refine (dec_calls k hk20 (d : Int) (by omega) _).mono ?_; rintro e y2 ⟨rfl, hy2⟩; have ky2 := blk_keep hy2.below ky1; obtain ⟨ey2, gy2⟩ := blk_facts ky2)))
 go_wp2_with fail
 refine rounds_world (RTextW w w2.heap.size (n : Int) (d : Int) (a : Int) (b : Int) imm (Isa.nameOf n) 2 ic 105) (by first | exact (H0.below hy1).below hy2.below | exact (H0.drew.below hy1).below hy2.below) ?_
 clear p1 p2 p3 e0 g0 ky1 ey1 gy1 ky2 ey2 gy2 hy1 hy2
 intro v1 H1
 have p1 : ¬ (9223372036854775807 < (Isa.nameOf n).size + 1 + 1 + (Isa.num (d : Int)).size + 2) := by omega
 have p2 : ¬ (9223372036854775807 < (Isa.nameOf n).size + 1 + 1 + (Isa.num (d : Int)).size + 2 + 1) := by omega
 have p3 : ¬ (9223372036854775807 < (Isa.nameOf n).size + 1 + 1 + (Isa.num (d : Int)).size + 2 + 1 + (Isa.num (a : Int)).size) := by omega
 rw [rounds_succ]
 obtain ⟨e1, g1⟩ := blk_facts H1.own
 go_wp2_with fail
 go_region_held3 (fun w' => w'.cell? ⟨w.heap.size, 0, none⟩ = some (.int .i64 (n : Int)) ∧ w'.cell? ⟨w.heap.size, 1, none⟩ = some (.int .u8 (d : Int)) ∧ w'.cell? ⟨w.heap.size, 2, none⟩ = some (.int .u8 (a : Int)) ∧ w'.cell? ⟨w.heap.size, 3, none⟩ = some (.int .u8 (b : Int)) ∧ w'.cell? ⟨w.heap.size, 4, none⟩ = some (.int .i32 imm))
  (first | go_keep | (simp [*]; done))
  ((first | (go_at_call 79; refine (q_register.calls _ _ _ _ _ 65 _ _ (RefM.reg_eq _ _ _ _ _ _ (by omega) (by omega) (by omega))).mono ?_; rintro e y1 ⟨rfl, hy1⟩; rw [show RefM.R (d : Int) (a : Int) (b : Int) 65 = (a : Int) from rfl]; have ky1 := blk_keep hy1 H1.own; obtain ⟨ey1, gy1⟩ := blk_facts ky1) | (go_at_call 78; refine (dec_calls k hk20 (a : Int) (by omega) _).mono ?_; rintro e y2 ⟨rfl, hy2⟩; have ky2 := blk_keep hy2.below ky1; obtain ⟨ey2, gy2⟩ := blk_facts ky2)))
 go_wp2_with fail
 refine rounds_world (RTextW w w2.heap.size (n : Int) (d : Int) (a : Int) (b : Int) imm (Isa.nameOf n) 2 ic 105) (by first | exact (H1.below hy1).below hy2.below | exact (H1.drew.below hy1).below hy2.below) ?_
 clear p1 p2 p3 e1 g1 ky1 ey1 gy1 ky2 ey2 gy2 hy1 hy2
 intro v2 H2
 rw [rounds_succ]
 have p1 : ¬ (9223372036854775807 < (Isa.nameOf n).size + 1 + 1 + (Isa.num (d : Int)).size + 2 + 1 + (Isa.num (a : Int)).size + 2) := by omega
 have p2 : ¬ (9223372036854775807 < (Isa.nameOf n).size + 1 + 1 + (Isa.num (d : Int)).size + 2 + 1 + (Isa.num (a : Int)).size + 2 + (Isa.num imm).size) := by omega
 have hk5 := (blk_facts H2.kind).1
 go_wp2_with fail
 go_ret
 exact ⟨rfl, H2.bel⟩
theorem rtext_2_1 (k : Nat) (hk : 60 ≤ k) (n : Nat) (h1 : 1 ≤ n) (h2 : n < 49) (hf : (Isa.formOf n : Int) = 2) (hs : RefM.shC (Isa.formOf n) (Isa.shapeOf n) = 109) (ic : Int) (hn : RefM.immC (Isa.numOf n) = ic) (hnu : (ic == 45) = false) (d a b : Nat) (imm x : Int)
 (hd : d ≤ 15) (ha : a ≤ 15) (hb : b ≤ 15) (him : -2147483648 ≤ imm ∧ imm ≤ 2147483647) (hE : Isa.enc (n : Int) (d : Int) (a : Int) (b : Int) imm = (x, 0)) (hnm : (Isa.nameOf n).size ≤ 16) (w : World) :
 Calls Tryz.prog 40 #[.agg #[.int .i64 (n : Int), .int .u8 (d : Int), .int .u8 (a : Int), .int .u8 (b : Int), .int .i32 imm]] w (Isa.TextPost (((((((Isa.nameOf n ++ ⟨#[32, 114]⟩) ++ Isa.num (d : Int)) ++ ⟨#[44, 32]⟩) ++ Isa.num imm) ++ ⟨#[40, 114]⟩) ++ Isa.num (a : Int)) ++ ⟨#[41]⟩) w) := by
 have HC := Lib.hid (RefM.enc_eq k hk (n : Int) (d : Int) (a : Int) (b : Int) imm (by omega) (by omega) (by omega) him)
 have HO := Lib.hid (RefM.of_kind k (by omega) n h1 h2 2 109 ic hf hs hn)
 have si := Isa.num_size imm (by omega) (by omega)
 have sd := Isa.num_size (d : Int) (by omega) (by omega)
 have sa := Isa.num_size (a : Int) (by omega) (by omega)
 have sb := Isa.num_size (b : Int) (by omega) (by omega)
 have hk20 : 20 ≤ k := by omega
 have HE := Lib.hid hE
 clear hE hf hs hn
 go_enter Tryz.func40, Tryz.ntmps40
 go_wp2_with fail
 refine (q_Encode.calls k _ _ _ _ _ x 0 _ (HC.out.trans (by rw [HE.out]))).mono ?_
 rintro e w1 ⟨rfl, hb1⟩
 have k1 := blk_keep hb1 (heap_alloc_new _ _)
 have HB1 := Lib.hid (below_next (below_alloc' (Below.refl _ _) _) hb1)
 obtain ⟨d1, f1⟩ := blk_facts k1
 go_wp2_with fail
 refine (q_Of.calls k _ _ _ _ _ _ _ HO.out).mono ?_
 rintro e w2 ⟨rfl, hb2⟩
 have k2 := blk_keep hb2 k1
 have HB2 := Lib.hid (below_next HB1.out hb2)
 clear d1 f1
 obtain ⟨d2, f2⟩ := blk_facts k2
 have z2 := blk_size k2
 have z2k : ∀ k, w.heap.size < w2.heap.size + k := fun k => by omega
 go_wp2_with fail
 refine (q_Fields.calls 2 _ _ _ (RefM.fields ⟨2, by decide⟩)).mono ?_
 rintro e w3' ⟨rfl, hd3⟩
 obtain ⟨w3, rfl⟩ : ∃ w3, w3' = w3 := ⟨_, rfl⟩
 have hb3 := hd3.below
 have k3 := blk_keep hb3 (blk_alloc _ k2)
 have x3 := blk_keep hb3 (heap_alloc_new _ _)
 have HB3 := Lib.hid (below_next (below_alloc' HB2.out _) hb3)
 clear d2 f2 hd3
 obtain ⟨d3, f3⟩ := blk_facts k3
 have dx := (blk_facts x3).1
 go_wp2_with fail
 refine (dec_calls k (by omega) imm him _).mono ?_
 rintro e w4' ⟨rfl, hd4⟩
 obtain ⟨w4, rfl⟩ : ∃ w4, w4' = w4 := ⟨_, rfl⟩
 have hb4 := hd4.below
 have k4 := blk_keep hb4 k3
 have x4 := blk_keep hb4 x3
 have HB4 := Lib.hid (below_next HB3.out hb4)
 clear d3 f3 dx hd4
 obtain ⟨d4, f4⟩ := blk_facts k4
 have dx := (blk_facts x4).1
 simp only [show RefM.letters 2 = ⟨#[68, 65]⟩ from rfl]
 go_wp2_with fail
 go_quiet ((go_at_call 78; exact Calls.quiet_of (dec_q k hk20 _ (by omega) _)))
 go_wp2_with fail
 go_ret
 exact ⟨rfl, below_drewN' HB4.out _⟩
theorem rtext_3_0 (k : Nat) (hk : 60 ≤ k) (n : Nat) (h1 : 1 ≤ n) (h2 : n < 49) (hf : (Isa.formOf n : Int) = 3) (hs : RefM.shC (Isa.formOf n) (Isa.shapeOf n) = 105) (ic : Int) (hn : RefM.immC (Isa.numOf n) = ic) (hnu : (ic == 45) = false) (d a b : Nat) (imm x : Int)
 (hd : d ≤ 15) (ha : a ≤ 15) (hb : b ≤ 15) (him : -2147483648 ≤ imm ∧ imm ≤ 2147483647) (hE : Isa.enc (n : Int) (d : Int) (a : Int) (b : Int) imm = (x, 0)) (hnm : (Isa.nameOf n).size ≤ 16) (w : World) :
 Calls Tryz.prog 40 #[.agg #[.int .i64 (n : Int), .int .u8 (d : Int), .int .u8 (a : Int), .int .u8 (b : Int), .int .i32 imm]] w (Isa.TextPost ((((((((Isa.nameOf n ++ ⟨#[32]⟩) ++ ⟨#[114]⟩) ++ Isa.num (a : Int)) ++ ⟨#[44, 32]⟩) ++ ⟨#[114]⟩) ++ Isa.num (b : Int)) ++ ⟨#[44, 32]⟩) ++ Isa.num imm) w) := by
 have HC := Lib.hid (RefM.enc_eq k hk (n : Int) (d : Int) (a : Int) (b : Int) imm (by omega) (by omega) (by omega) him)
 have HO := Lib.hid (RefM.of_kind k (by omega) n h1 h2 3 105 ic hf hs hn)
 have si := Isa.num_size imm (by omega) (by omega)
 have sd := Isa.num_size (d : Int) (by omega) (by omega)
 have sa := Isa.num_size (a : Int) (by omega) (by omega)
 have sb := Isa.num_size (b : Int) (by omega) (by omega)
 have hk20 : 20 ≤ k := by omega
 have HE := Lib.hid hE
 clear hE hf hs hn
 go_enter Tryz.func40, Tryz.ntmps40
 go_wp2_with fail
 refine (q_Encode.calls k _ _ _ _ _ x 0 _ (HC.out.trans (by rw [HE.out]))).mono ?_
 rintro e w1 ⟨rfl, hb1⟩
 have k1 := blk_keep hb1 (heap_alloc_new _ _)
 have HB1 := Lib.hid (below_next (below_alloc' (Below.refl _ _) _) hb1)
 obtain ⟨d1, f1⟩ := blk_facts k1
 go_wp2_with fail
 refine (q_Of.calls k _ _ _ _ _ _ _ HO.out).mono ?_
 rintro e w2 ⟨rfl, hb2⟩
 have k2 := blk_keep hb2 k1
 have HB2 := Lib.hid (below_next HB1.out hb2)
 clear d1 f1
 obtain ⟨d2, f2⟩ := blk_facts k2
 have z2 := blk_size k2
 have z2k : ∀ k, w.heap.size < w2.heap.size + k := fun k => by omega
 go_wp2_with fail
 refine (q_Fields.calls 3 _ _ _ (RefM.fields ⟨3, by decide⟩)).mono ?_
 rintro e w3' ⟨rfl, hd3⟩
 obtain ⟨w3, rfl⟩ : ∃ w3, w3' = w3 := ⟨_, rfl⟩
 have hb3 := hd3.below
 have k3 := blk_keep hb3 (blk_alloc _ k2)
 have x3 := blk_keep hb3 (heap_alloc_new _ _)
 have HB3 := Lib.hid (below_next (below_alloc' HB2.out _) hb3)
 clear d2 f2 hd3
 obtain ⟨d3, f3⟩ := blk_facts k3
 have dx := (blk_facts x3).1
 go_wp2_with fail
 refine (dec_calls k (by omega) imm him _).mono ?_
 rintro e w4' ⟨rfl, hd4⟩
 obtain ⟨w4, rfl⟩ : ∃ w4, w4' = w4 := ⟨_, rfl⟩
 have hb4 := hd4.below
 have k4 := blk_keep hb4 k3
 have x4 := blk_keep hb4 x3
 have HB4 := Lib.hid (below_next HB3.out hb4)
 clear d3 f3 dx hd4
 obtain ⟨d4, f4⟩ := blk_facts k4
 have dx := (blk_facts x4).1
 simp only [show RefM.letters 3 = ⟨#[65, 66]⟩ from rfl]
 go_wp2_with fail
 refine wp_loop_rounds 3 ?_
 refine rounds_world (RTextW w w2.heap.size (n : Int) (d : Int) (a : Int) (b : Int) imm (Isa.nameOf n) 3 ic 105) ⟨k4, x4, HB4.out⟩ ?_
 clear d4 f4 dx k4 x4 k3 x3 k2 k1 HB1 HB2 HB3 HB4
 intro v0 H0
 have p1 : ¬ (9223372036854775807 < (Isa.nameOf n).size + 1) := by omega
 have p2 : ¬ (9223372036854775807 < (Isa.nameOf n).size + 1 + 1) := by omega
 have p3 : ¬ (9223372036854775807 < (Isa.nameOf n).size + 1 + 1 + (Isa.num (a : Int)).size) := by omega
 rw [rounds_succ]
 obtain ⟨e0, g0⟩ := blk_facts H0.own
 go_wp2_with fail
 go_region_held3 (fun w' => w'.cell? ⟨w.heap.size, 0, none⟩ = some (.int .i64 (n : Int)) ∧ w'.cell? ⟨w.heap.size, 1, none⟩ = some (.int .u8 (d : Int)) ∧ w'.cell? ⟨w.heap.size, 2, none⟩ = some (.int .u8 (a : Int)) ∧ w'.cell? ⟨w.heap.size, 3, none⟩ = some (.int .u8 (b : Int)) ∧ w'.cell? ⟨w.heap.size, 4, none⟩ = some (.int .i32 imm))
  (first | go_keep | (simp [*]; done))
  ((first | (go_at_call 79; refine (q_register.calls _ _ _ _ _ 65 _ _ (RefM.reg_eq _ _ _ _ _ _ (by omega) (by omega) (by omega))).mono ?_; rintro e y1 ⟨rfl, hy1⟩; rw [show RefM.R (d : Int) (a : Int) (b : Int) 65 = (a : Int) from rfl]; have ky1 := blk_keep hy1 H0.own; obtain ⟨ey1, gy1⟩ := blk_facts ky1) | (go_at_call 78; refine (dec_calls k hk20 (a : Int) (by omega) _).mono ?_; rintro e y2 ⟨rfl, hy2⟩; have ky2 := blk_keep hy2.below ky1; obtain ⟨ey2, gy2⟩ := blk_facts ky2)))
 go_wp2_with fail
 refine rounds_world (RTextW w w2.heap.size (n : Int) (d : Int) (a : Int) (b : Int) imm (Isa.nameOf n) 3 ic 105) (by first | exact (H0.below hy1).below hy2.below | exact (H0.drew.below hy1).below hy2.below) ?_
 clear p1 p2 p3 e0 g0 ky1 ey1 gy1 ky2 ey2 gy2 hy1 hy2
 intro v1 H1
 have p1 : ¬ (9223372036854775807 < (Isa.nameOf n).size + 1 + 1 + (Isa.num (a : Int)).size + 2) := by omega
 have p2 : ¬ (9223372036854775807 < (Isa.nameOf n).size + 1 + 1 + (Isa.num (a : Int)).size + 2 + 1) := by omega
 have p3 : ¬ (9223372036854775807 < (Isa.nameOf n).size + 1 + 1 + (Isa.num (a : Int)).size + 2 + 1 + (Isa.num (b : Int)).size) := by omega
 rw [rounds_succ]
 obtain ⟨e1, g1⟩ := blk_facts H1.own
 go_wp2_with fail
 go_region_held3 (fun w' => w'.cell? ⟨w.heap.size, 0, none⟩ = some (.int .i64 (n : Int)) ∧ w'.cell? ⟨w.heap.size, 1, none⟩ = some (.int .u8 (d : Int)) ∧ w'.cell? ⟨w.heap.size, 2, none⟩ = some (.int .u8 (a : Int)) ∧ w'.cell? ⟨w.heap.size, 3, none⟩ = some (.int .u8 (b : Int)) ∧ w'.cell? ⟨w.heap.size, 4, none⟩ = some (.int .i32 imm))
  (first | go_keep | (simp [*]; done))
  ((first | (go_at_call 79; refine (q_register.calls _ _ _ _ _ 66 _ _ (RefM.reg_eq _ _ _ _ _ _ (by omega) (by omega) (by omega))).mono ?_; rintro e y1 ⟨rfl, hy1⟩; rw [show RefM.R (d : Int) (a : Int) (b : Int) 66 = (b : Int) from rfl]; have ky1 := blk_keep hy1 H1.own; obtain ⟨ey1, gy1⟩ := blk_facts ky1) | (go_at_call 78; refine (dec_calls k hk20 (b : Int) (by omega) _).mono ?_; rintro e y2 ⟨rfl, hy2⟩; have ky2 := blk_keep hy2.below ky1; obtain ⟨ey2, gy2⟩ := blk_facts ky2)))
 go_wp2_with fail
 refine rounds_world (RTextW w w2.heap.size (n : Int) (d : Int) (a : Int) (b : Int) imm (Isa.nameOf n) 3 ic 105) (by first | exact (H1.below hy1).below hy2.below | exact (H1.drew.below hy1).below hy2.below) ?_
 clear p1 p2 p3 e1 g1 ky1 ey1 gy1 ky2 ey2 gy2 hy1 hy2
 intro v2 H2
 rw [rounds_succ]
 have p1 : ¬ (9223372036854775807 < (Isa.nameOf n).size + 1 + 1 + (Isa.num (a : Int)).size + 2 + 1 + (Isa.num (b : Int)).size + 2) := by omega
 have p2 : ¬ (9223372036854775807 < (Isa.nameOf n).size + 1 + 1 + (Isa.num (a : Int)).size + 2 + 1 + (Isa.num (b : Int)).size + 2 + (Isa.num imm).size) := by omega
 have hk5 := (blk_facts H2.kind).1
 go_wp2_with fail
 go_ret
 exact ⟨rfl, H2.bel⟩
theorem rtext_3_1 (k : Nat) (hk : 60 ≤ k) (n : Nat) (h1 : 1 ≤ n) (h2 : n < 49) (hf : (Isa.formOf n : Int) = 3) (hs : RefM.shC (Isa.formOf n) (Isa.shapeOf n) = 109) (ic : Int) (hn : RefM.immC (Isa.numOf n) = ic) (hnu : (ic == 45) = false) (d a b : Nat) (imm x : Int)
 (hd : d ≤ 15) (ha : a ≤ 15) (hb : b ≤ 15) (him : -2147483648 ≤ imm ∧ imm ≤ 2147483647) (hE : Isa.enc (n : Int) (d : Int) (a : Int) (b : Int) imm = (x, 0)) (hnm : (Isa.nameOf n).size ≤ 16) (w : World) :
 Calls Tryz.prog 40 #[.agg #[.int .i64 (n : Int), .int .u8 (d : Int), .int .u8 (a : Int), .int .u8 (b : Int), .int .i32 imm]] w (Isa.TextPost (((((((Isa.nameOf n ++ ⟨#[32, 114]⟩) ++ Isa.num (b : Int)) ++ ⟨#[44, 32]⟩) ++ Isa.num imm) ++ ⟨#[40, 114]⟩) ++ Isa.num (a : Int)) ++ ⟨#[41]⟩) w) := by
 have HC := Lib.hid (RefM.enc_eq k hk (n : Int) (d : Int) (a : Int) (b : Int) imm (by omega) (by omega) (by omega) him)
 have HO := Lib.hid (RefM.of_kind k (by omega) n h1 h2 3 109 ic hf hs hn)
 have si := Isa.num_size imm (by omega) (by omega)
 have sd := Isa.num_size (d : Int) (by omega) (by omega)
 have sa := Isa.num_size (a : Int) (by omega) (by omega)
 have sb := Isa.num_size (b : Int) (by omega) (by omega)
 have hk20 : 20 ≤ k := by omega
 have HE := Lib.hid hE
 clear hE hf hs hn
 go_enter Tryz.func40, Tryz.ntmps40
 go_wp2_with fail
 refine (q_Encode.calls k _ _ _ _ _ x 0 _ (HC.out.trans (by rw [HE.out]))).mono ?_
 rintro e w1 ⟨rfl, hb1⟩
 have k1 := blk_keep hb1 (heap_alloc_new _ _)
 have HB1 := Lib.hid (below_next (below_alloc' (Below.refl _ _) _) hb1)
 obtain ⟨d1, f1⟩ := blk_facts k1
 go_wp2_with fail
 refine (q_Of.calls k _ _ _ _ _ _ _ HO.out).mono ?_
 rintro e w2 ⟨rfl, hb2⟩
 have k2 := blk_keep hb2 k1
 have HB2 := Lib.hid (below_next HB1.out hb2)
 clear d1 f1
 obtain ⟨d2, f2⟩ := blk_facts k2
 have z2 := blk_size k2
 have z2k : ∀ k, w.heap.size < w2.heap.size + k := fun k => by omega
 go_wp2_with fail
 refine (q_Fields.calls 3 _ _ _ (RefM.fields ⟨3, by decide⟩)).mono ?_
 rintro e w3' ⟨rfl, hd3⟩
 obtain ⟨w3, rfl⟩ : ∃ w3, w3' = w3 := ⟨_, rfl⟩
 have hb3 := hd3.below
 have k3 := blk_keep hb3 (blk_alloc _ k2)
 have x3 := blk_keep hb3 (heap_alloc_new _ _)
 have HB3 := Lib.hid (below_next (below_alloc' HB2.out _) hb3)
 clear d2 f2 hd3
 obtain ⟨d3, f3⟩ := blk_facts k3
 have dx := (blk_facts x3).1
 go_wp2_with fail
 refine (dec_calls k (by omega) imm him _).mono ?_
 rintro e w4' ⟨rfl, hd4⟩
 obtain ⟨w4, rfl⟩ : ∃ w4, w4' = w4 := ⟨_, rfl⟩
 have hb4 := hd4.below
 have k4 := blk_keep hb4 k3
 have x4 := blk_keep hb4 x3
 have HB4 := Lib.hid (below_next HB3.out hb4)
 clear d3 f3 dx hd4
 obtain ⟨d4, f4⟩ := blk_facts k4
 have dx := (blk_facts x4).1
 simp only [show RefM.letters 3 = ⟨#[65, 66]⟩ from rfl]
 go_wp2_with fail
 go_quiet ((go_at_call 78; exact Calls.quiet_of (dec_q k hk20 _ (by omega) _)))
 go_wp2_with fail
 go_ret
 exact ⟨rfl, below_drewN' HB4.out _⟩
theorem rtext_4_0 (k : Nat) (hk : 60 ≤ k) (n : Nat) (h1 : 1 ≤ n) (h2 : n < 49) (hf : (Isa.formOf n : Int) = 4) (hs : RefM.shC (Isa.formOf n) (Isa.shapeOf n) = 105) (ic : Int) (hn : RefM.immC (Isa.numOf n) = ic) (hnu : (ic == 45) = false) (d a b : Nat) (imm x : Int)
 (hd : d ≤ 15) (ha : a ≤ 15) (hb : b ≤ 15) (him : -2147483648 ≤ imm ∧ imm ≤ 2147483647) (hE : Isa.enc (n : Int) (d : Int) (a : Int) (b : Int) imm = (x, 0)) (hnm : (Isa.nameOf n).size ≤ 16) (w : World) :
 Calls Tryz.prog 40 #[.agg #[.int .i64 (n : Int), .int .u8 (d : Int), .int .u8 (a : Int), .int .u8 (b : Int), .int .i32 imm]] w (Isa.TextPost (((((Isa.nameOf n ++ ⟨#[32]⟩) ++ ⟨#[114]⟩) ++ Isa.num (d : Int)) ++ ⟨#[44, 32]⟩) ++ Isa.num imm) w) := by
 have HC := Lib.hid (RefM.enc_eq k hk (n : Int) (d : Int) (a : Int) (b : Int) imm (by omega) (by omega) (by omega) him)
 have HO := Lib.hid (RefM.of_kind k (by omega) n h1 h2 4 105 ic hf hs hn)
 have si := Isa.num_size imm (by omega) (by omega)
 have sd := Isa.num_size (d : Int) (by omega) (by omega)
 have sa := Isa.num_size (a : Int) (by omega) (by omega)
 have sb := Isa.num_size (b : Int) (by omega) (by omega)
 have hk20 : 20 ≤ k := by omega
 have HE := Lib.hid hE
 clear hE hf hs hn
 go_enter Tryz.func40, Tryz.ntmps40
 go_wp2_with fail
 refine (q_Encode.calls k _ _ _ _ _ x 0 _ (HC.out.trans (by rw [HE.out]))).mono ?_
 rintro e w1 ⟨rfl, hb1⟩
 have k1 := blk_keep hb1 (heap_alloc_new _ _)
 have HB1 := Lib.hid (below_next (below_alloc' (Below.refl _ _) _) hb1)
 obtain ⟨d1, f1⟩ := blk_facts k1
 go_wp2_with fail
 refine (q_Of.calls k _ _ _ _ _ _ _ HO.out).mono ?_
 rintro e w2 ⟨rfl, hb2⟩
 have k2 := blk_keep hb2 k1
 have HB2 := Lib.hid (below_next HB1.out hb2)
 clear d1 f1
 obtain ⟨d2, f2⟩ := blk_facts k2
 have z2 := blk_size k2
 have z2k : ∀ k, w.heap.size < w2.heap.size + k := fun k => by omega
 go_wp2_with fail
 refine (q_Fields.calls 4 _ _ _ (RefM.fields ⟨4, by decide⟩)).mono ?_
 rintro e w3' ⟨rfl, hd3⟩
 obtain ⟨w3, rfl⟩ : ∃ w3, w3' = w3 := ⟨_, rfl⟩
 have hb3 := hd3.below
 have k3 := blk_keep hb3 (blk_alloc _ k2)
 have x3 := blk_keep hb3 (heap_alloc_new _ _)
 have HB3 := Lib.hid (below_next (below_alloc' HB2.out _) hb3)
 clear d2 f2 hd3
 obtain ⟨d3, f3⟩ := blk_facts k3
 have dx := (blk_facts x3).1
 go_wp2_with fail
 refine (dec_calls k (by omega) imm him _).mono ?_
 rintro e w4' ⟨rfl, hd4⟩
 obtain ⟨w4, rfl⟩ : ∃ w4, w4' = w4 := ⟨_, rfl⟩
 have hb4 := hd4.below
 have k4 := blk_keep hb4 k3
 have x4 := blk_keep hb4 x3
 have HB4 := Lib.hid (below_next HB3.out hb4)
 clear d3 f3 dx hd4
 obtain ⟨d4, f4⟩ := blk_facts k4
 have dx := (blk_facts x4).1
 simp only [show RefM.letters 4 = ⟨#[68]⟩ from rfl]
 go_wp2_with fail
 refine wp_loop_rounds 2 ?_
 refine rounds_world (RTextW w w2.heap.size (n : Int) (d : Int) (a : Int) (b : Int) imm (Isa.nameOf n) 4 ic 105) ⟨k4, x4, HB4.out⟩ ?_
 clear d4 f4 dx k4 x4 k3 x3 k2 k1 HB1 HB2 HB3 HB4
 intro v0 H0
 have p1 : ¬ (9223372036854775807 < (Isa.nameOf n).size + 1) := by omega
 have p2 : ¬ (9223372036854775807 < (Isa.nameOf n).size + 1 + 1) := by omega
 have p3 : ¬ (9223372036854775807 < (Isa.nameOf n).size + 1 + 1 + (Isa.num (d : Int)).size) := by omega
 rw [rounds_succ]
 obtain ⟨e0, g0⟩ := blk_facts H0.own
 go_wp2_with fail
 go_region_held3 (fun w' => w'.cell? ⟨w.heap.size, 0, none⟩ = some (.int .i64 (n : Int)) ∧ w'.cell? ⟨w.heap.size, 1, none⟩ = some (.int .u8 (d : Int)) ∧ w'.cell? ⟨w.heap.size, 2, none⟩ = some (.int .u8 (a : Int)) ∧ w'.cell? ⟨w.heap.size, 3, none⟩ = some (.int .u8 (b : Int)) ∧ w'.cell? ⟨w.heap.size, 4, none⟩ = some (.int .i32 imm))
  (first | go_keep | (simp [*]; done))
  ((first | (go_at_call 79; refine (q_register.calls _ _ _ _ _ 68 _ _ (RefM.reg_eq _ _ _ _ _ _ (by omega) (by omega) (by omega))).mono ?_; rintro e y1 ⟨rfl, hy1⟩; rw [show RefM.R (d : Int) (a : Int) (b : Int) 68 = (d : Int) from rfl]; have ky1 := blk_keep hy1 H0.own; obtain ⟨ey1, gy1⟩ := blk_facts ky1) | (go_at_call 78; refine (dec_calls k hk20 (d : Int) (by omega) _).mono ?_; rintro e y2 ⟨rfl, hy2⟩; have ky2 := blk_keep hy2.below ky1; obtain ⟨ey2, gy2⟩ := blk_facts ky2)))
 go_wp2_with fail
 refine rounds_world (RTextW w w2.heap.size (n : Int) (d : Int) (a : Int) (b : Int) imm (Isa.nameOf n) 4 ic 105) (by first | exact (H0.below hy1).below hy2.below | exact (H0.drew.below hy1).below hy2.below) ?_
 clear p1 p2 p3 e0 g0 ky1 ey1 gy1 ky2 ey2 gy2 hy1 hy2
 intro v1 H1
 rw [rounds_succ]
 have p1 : ¬ (9223372036854775807 < (Isa.nameOf n).size + 1 + 1 + (Isa.num (d : Int)).size + 2) := by omega
 have p2 : ¬ (9223372036854775807 < (Isa.nameOf n).size + 1 + 1 + (Isa.num (d : Int)).size + 2 + (Isa.num imm).size) := by omega
 have hk5 := (blk_facts H1.kind).1
 go_wp2_with fail
 go_ret
 exact ⟨rfl, H1.bel⟩
theorem rtext_5_0 (k : Nat) (hk : 60 ≤ k) (n : Nat) (h1 : 1 ≤ n) (h2 : n < 49) (hf : (Isa.formOf n : Int) = 5) (hs : RefM.shC (Isa.formOf n) (Isa.shapeOf n) = 49) (ic : Int) (hn : RefM.immC (Isa.numOf n) = ic) (hnu : (ic == 45) = true) (d a b : Nat) (imm x : Int)
 (hd : d ≤ 15) (ha : a ≤ 15) (hb : b ≤ 15) (him : -2147483648 ≤ imm ∧ imm ≤ 2147483647) (hE : Isa.enc (n : Int) (d : Int) (a : Int) (b : Int) imm = (x, 0)) (hnm : (Isa.nameOf n).size ≤ 16) (w : World) :
 Calls Tryz.prog 40 #[.agg #[.int .i64 (n : Int), .int .u8 (d : Int), .int .u8 (a : Int), .int .u8 (b : Int), .int .i32 imm]] w (Isa.TextPost (((Isa.nameOf n ++ ⟨#[32]⟩) ++ ⟨#[114]⟩) ++ Isa.num (d : Int)) w) := by
 have HC := Lib.hid (RefM.enc_eq k hk (n : Int) (d : Int) (a : Int) (b : Int) imm (by omega) (by omega) (by omega) him)
 have HO := Lib.hid (RefM.of_kind k (by omega) n h1 h2 5 49 ic hf hs hn)
 have si := Isa.num_size imm (by omega) (by omega)
 have sd := Isa.num_size (d : Int) (by omega) (by omega)
 have sa := Isa.num_size (a : Int) (by omega) (by omega)
 have sb := Isa.num_size (b : Int) (by omega) (by omega)
 have hk20 : 20 ≤ k := by omega
 have HE := Lib.hid hE
 clear hE hf hs hn
 go_enter Tryz.func40, Tryz.ntmps40
 go_wp2_with fail
 refine (q_Encode.calls k _ _ _ _ _ x 0 _ (HC.out.trans (by rw [HE.out]))).mono ?_
 rintro e w1 ⟨rfl, hb1⟩
 have k1 := blk_keep hb1 (heap_alloc_new _ _)
 have HB1 := Lib.hid (below_next (below_alloc' (Below.refl _ _) _) hb1)
 obtain ⟨d1, f1⟩ := blk_facts k1
 go_wp2_with fail
 refine (q_Of.calls k _ _ _ _ _ _ _ HO.out).mono ?_
 rintro e w2 ⟨rfl, hb2⟩
 have k2 := blk_keep hb2 k1
 have HB2 := Lib.hid (below_next HB1.out hb2)
 clear d1 f1
 obtain ⟨d2, f2⟩ := blk_facts k2
 have z2 := blk_size k2
 have z2k : ∀ k, w.heap.size < w2.heap.size + k := fun k => by omega
 go_wp2_with fail
 refine (q_Fields.calls 5 _ _ _ (RefM.fields ⟨5, by decide⟩)).mono ?_
 rintro e w3' ⟨rfl, hd3⟩
 obtain ⟨w3, rfl⟩ : ∃ w3, w3' = w3 := ⟨_, rfl⟩
 have hb3 := hd3.below
 have k3 := blk_keep hb3 (blk_alloc _ k2)
 have x3 := blk_keep hb3 (heap_alloc_new _ _)
 have HB3 := Lib.hid (below_next (below_alloc' HB2.out _) hb3)
 clear d2 f2 hd3
 obtain ⟨d3, f3⟩ := blk_facts k3
 have dx := (blk_facts x3).1
 go_wp2_with fail
 refine (dec_calls k (by omega) imm him _).mono ?_
 rintro e w4' ⟨rfl, hd4⟩
 obtain ⟨w4, rfl⟩ : ∃ w4, w4' = w4 := ⟨_, rfl⟩
 have hb4 := hd4.below
 have k4 := blk_keep hb4 k3
 have x4 := blk_keep hb4 x3
 have HB4 := Lib.hid (below_next HB3.out hb4)
 clear d3 f3 dx hd4
 obtain ⟨d4, f4⟩ := blk_facts k4
 have dx := (blk_facts x4).1
 simp only [show RefM.letters 5 = ⟨#[68]⟩ from rfl]
 go_wp2_with fail
 refine wp_loop_rounds 2 ?_
 refine rounds_world (RTextW w w2.heap.size (n : Int) (d : Int) (a : Int) (b : Int) imm (Isa.nameOf n) 5 ic 49) ⟨k4, x4, HB4.out⟩ ?_
 clear d4 f4 dx k4 x4 k3 x3 k2 k1 HB1 HB2 HB3 HB4
 intro v0 H0
 have p1 : ¬ (9223372036854775807 < (Isa.nameOf n).size + 1) := by omega
 have p2 : ¬ (9223372036854775807 < (Isa.nameOf n).size + 1 + 1) := by omega
 have p3 : ¬ (9223372036854775807 < (Isa.nameOf n).size + 1 + 1 + (Isa.num (d : Int)).size) := by omega
 rw [rounds_succ]
 obtain ⟨e0, g0⟩ := blk_facts H0.own
 go_wp2_with fail
 go_region_held3 (fun w' => w'.cell? ⟨w.heap.size, 0, none⟩ = some (.int .i64 (n : Int)) ∧ w'.cell? ⟨w.heap.size, 1, none⟩ = some (.int .u8 (d : Int)) ∧ w'.cell? ⟨w.heap.size, 2, none⟩ = some (.int .u8 (a : Int)) ∧ w'.cell? ⟨w.heap.size, 3, none⟩ = some (.int .u8 (b : Int)) ∧ w'.cell? ⟨w.heap.size, 4, none⟩ = some (.int .i32 imm))
  (first | go_keep | (simp [*]; done))
  ((first | (go_at_call 79; refine (q_register.calls _ _ _ _ _ 68 _ _ (RefM.reg_eq _ _ _ _ _ _ (by omega) (by omega) (by omega))).mono ?_; rintro e y1 ⟨rfl, hy1⟩; rw [show RefM.R (d : Int) (a : Int) (b : Int) 68 = (d : Int) from rfl]; have ky1 := blk_keep hy1 H0.own; obtain ⟨ey1, gy1⟩ := blk_facts ky1) | (go_at_call 78; refine (dec_calls k hk20 (d : Int) (by omega) _).mono ?_; rintro e y2 ⟨rfl, hy2⟩; have ky2 := blk_keep hy2.below ky1; obtain ⟨ey2, gy2⟩ := blk_facts ky2)))
 go_wp2_with fail
 refine rounds_world (RTextW w w2.heap.size (n : Int) (d : Int) (a : Int) (b : Int) imm (Isa.nameOf n) 5 ic 49) (by first | exact (H0.below hy1).below hy2.below | exact (H0.drew.below hy1).below hy2.below) ?_
 clear p1 p2 p3 e0 g0 ky1 ey1 gy1 ky2 ey2 gy2 hy1 hy2
 intro v1 H1
 rw [rounds_succ]
 have p1 : ¬ (9223372036854775807 < (Isa.nameOf n).size + 1 + 1 + (Isa.num (d : Int)).size + 2) := by omega
 have p2 : ¬ (9223372036854775807 < (Isa.nameOf n).size + 1 + 1 + (Isa.num (d : Int)).size + 2 + (Isa.num imm).size) := by omega
 have hk5 := (blk_facts H1.kind).1
 go_wp2_with fail
 go_ret
 exact ⟨rfl, H1.bel⟩
theorem rtext_6_0 (k : Nat) (hk : 60 ≤ k) (n : Nat) (h1 : 1 ≤ n) (h2 : n < 49) (hf : (Isa.formOf n : Int) = 6) (hs : RefM.shC (Isa.formOf n) (Isa.shapeOf n) = 49) (ic : Int) (hn : RefM.immC (Isa.numOf n) = ic) (hnu : (ic == 45) = true) (d a b : Nat) (imm x : Int)
 (hd : d ≤ 15) (ha : a ≤ 15) (hb : b ≤ 15) (him : -2147483648 ≤ imm ∧ imm ≤ 2147483647) (hE : Isa.enc (n : Int) (d : Int) (a : Int) (b : Int) imm = (x, 0)) (hnm : (Isa.nameOf n).size ≤ 16) (w : World) :
 Calls Tryz.prog 40 #[.agg #[.int .i64 (n : Int), .int .u8 (d : Int), .int .u8 (a : Int), .int .u8 (b : Int), .int .i32 imm]] w (Isa.TextPost (((Isa.nameOf n ++ ⟨#[32]⟩) ++ ⟨#[114]⟩) ++ Isa.num (a : Int)) w) := by
 have HC := Lib.hid (RefM.enc_eq k hk (n : Int) (d : Int) (a : Int) (b : Int) imm (by omega) (by omega) (by omega) him)
 have HO := Lib.hid (RefM.of_kind k (by omega) n h1 h2 6 49 ic hf hs hn)
 have si := Isa.num_size imm (by omega) (by omega)
 have sd := Isa.num_size (d : Int) (by omega) (by omega)
 have sa := Isa.num_size (a : Int) (by omega) (by omega)
 have sb := Isa.num_size (b : Int) (by omega) (by omega)
 have hk20 : 20 ≤ k := by omega
 have HE := Lib.hid hE
 clear hE hf hs hn
 go_enter Tryz.func40, Tryz.ntmps40
 go_wp2_with fail
 refine (q_Encode.calls k _ _ _ _ _ x 0 _ (HC.out.trans (by rw [HE.out]))).mono ?_
 rintro e w1 ⟨rfl, hb1⟩
 have k1 := blk_keep hb1 (heap_alloc_new _ _)
 have HB1 := Lib.hid (below_next (below_alloc' (Below.refl _ _) _) hb1)
 obtain ⟨d1, f1⟩ := blk_facts k1
 go_wp2_with fail
 refine (q_Of.calls k _ _ _ _ _ _ _ HO.out).mono ?_
 rintro e w2 ⟨rfl, hb2⟩
 have k2 := blk_keep hb2 k1
 have HB2 := Lib.hid (below_next HB1.out hb2)
 clear d1 f1
 obtain ⟨d2, f2⟩ := blk_facts k2
 have z2 := blk_size k2
 have z2k : ∀ k, w.heap.size < w2.heap.size + k := fun k => by omega
 go_wp2_with fail
 refine (q_Fields.calls 6 _ _ _ (RefM.fields ⟨6, by decide⟩)).mono ?_
 rintro e w3' ⟨rfl, hd3⟩
 obtain ⟨w3, rfl⟩ : ∃ w3, w3' = w3 := ⟨_, rfl⟩
 have hb3 := hd3.below
 have k3 := blk_keep hb3 (blk_alloc _ k2)
 have x3 := blk_keep hb3 (heap_alloc_new _ _)
 have HB3 := Lib.hid (below_next (below_alloc' HB2.out _) hb3)
 clear d2 f2 hd3
 obtain ⟨d3, f3⟩ := blk_facts k3
 have dx := (blk_facts x3).1
 go_wp2_with fail
 refine (dec_calls k (by omega) imm him _).mono ?_
 rintro e w4' ⟨rfl, hd4⟩
 obtain ⟨w4, rfl⟩ : ∃ w4, w4' = w4 := ⟨_, rfl⟩
 have hb4 := hd4.below
 have k4 := blk_keep hb4 k3
 have x4 := blk_keep hb4 x3
 have HB4 := Lib.hid (below_next HB3.out hb4)
 clear d3 f3 dx hd4
 obtain ⟨d4, f4⟩ := blk_facts k4
 have dx := (blk_facts x4).1
 simp only [show RefM.letters 6 = ⟨#[65]⟩ from rfl]
 go_wp2_with fail
 refine wp_loop_rounds 2 ?_
 refine rounds_world (RTextW w w2.heap.size (n : Int) (d : Int) (a : Int) (b : Int) imm (Isa.nameOf n) 6 ic 49) ⟨k4, x4, HB4.out⟩ ?_
 clear d4 f4 dx k4 x4 k3 x3 k2 k1 HB1 HB2 HB3 HB4
 intro v0 H0
 have p1 : ¬ (9223372036854775807 < (Isa.nameOf n).size + 1) := by omega
 have p2 : ¬ (9223372036854775807 < (Isa.nameOf n).size + 1 + 1) := by omega
 have p3 : ¬ (9223372036854775807 < (Isa.nameOf n).size + 1 + 1 + (Isa.num (a : Int)).size) := by omega
 rw [rounds_succ]
 obtain ⟨e0, g0⟩ := blk_facts H0.own
 go_wp2_with fail
 go_region_held3 (fun w' => w'.cell? ⟨w.heap.size, 0, none⟩ = some (.int .i64 (n : Int)) ∧ w'.cell? ⟨w.heap.size, 1, none⟩ = some (.int .u8 (d : Int)) ∧ w'.cell? ⟨w.heap.size, 2, none⟩ = some (.int .u8 (a : Int)) ∧ w'.cell? ⟨w.heap.size, 3, none⟩ = some (.int .u8 (b : Int)) ∧ w'.cell? ⟨w.heap.size, 4, none⟩ = some (.int .i32 imm))
  (first | go_keep | (simp [*]; done))
  ((first | (go_at_call 79; refine (q_register.calls _ _ _ _ _ 65 _ _ (RefM.reg_eq _ _ _ _ _ _ (by omega) (by omega) (by omega))).mono ?_; rintro e y1 ⟨rfl, hy1⟩; rw [show RefM.R (d : Int) (a : Int) (b : Int) 65 = (a : Int) from rfl]; have ky1 := blk_keep hy1 H0.own; obtain ⟨ey1, gy1⟩ := blk_facts ky1) | (go_at_call 78; refine (dec_calls k hk20 (a : Int) (by omega) _).mono ?_; rintro e y2 ⟨rfl, hy2⟩; have ky2 := blk_keep hy2.below ky1; obtain ⟨ey2, gy2⟩ := blk_facts ky2)))
 go_wp2_with fail
 refine rounds_world (RTextW w w2.heap.size (n : Int) (d : Int) (a : Int) (b : Int) imm (Isa.nameOf n) 6 ic 49) (by first | exact (H0.below hy1).below hy2.below | exact (H0.drew.below hy1).below hy2.below) ?_
 clear p1 p2 p3 e0 g0 ky1 ey1 gy1 ky2 ey2 gy2 hy1 hy2
 intro v1 H1
 rw [rounds_succ]
 have p1 : ¬ (9223372036854775807 < (Isa.nameOf n).size + 1 + 1 + (Isa.num (a : Int)).size + 2) := by omega
 have p2 : ¬ (9223372036854775807 < (Isa.nameOf n).size + 1 + 1 + (Isa.num (a : Int)).size + 2 + (Isa.num imm).size) := by omega
 have hk5 := (blk_facts H1.kind).1
 go_wp2_with fail
 go_ret
 exact ⟨rfl, H1.bel⟩
theorem rtext_7_0 (k : Nat) (hk : 60 ≤ k) (n : Nat) (h1 : 1 ≤ n) (h2 : n < 49) (hf : (Isa.formOf n : Int) = 7) (hs : RefM.shC (Isa.formOf n) (Isa.shapeOf n) = 106) (ic : Int) (hn : RefM.immC (Isa.numOf n) = ic) (hnu : (ic == 45) = false) (d a b : Nat) (imm x : Int)
 (hd : d ≤ 15) (ha : a ≤ 15) (hb : b ≤ 15) (him : -2147483648 ≤ imm ∧ imm ≤ 2147483647) (hE : Isa.enc (n : Int) (d : Int) (a : Int) (b : Int) imm = (x, 0)) (hnm : (Isa.nameOf n).size ≤ 16) (w : World) :
 Calls Tryz.prog 40 #[.agg #[.int .i64 (n : Int), .int .u8 (d : Int), .int .u8 (a : Int), .int .u8 (b : Int), .int .i32 imm]] w (Isa.TextPost ((Isa.nameOf n ++ ⟨#[32]⟩) ++ Isa.num imm) w) := by
 have HC := Lib.hid (RefM.enc_eq k hk (n : Int) (d : Int) (a : Int) (b : Int) imm (by omega) (by omega) (by omega) him)
 have HO := Lib.hid (RefM.of_kind k (by omega) n h1 h2 7 106 ic hf hs hn)
 have si := Isa.num_size imm (by omega) (by omega)
 have sd := Isa.num_size (d : Int) (by omega) (by omega)
 have sa := Isa.num_size (a : Int) (by omega) (by omega)
 have sb := Isa.num_size (b : Int) (by omega) (by omega)
 have hk20 : 20 ≤ k := by omega
 have HE := Lib.hid hE
 clear hE hf hs hn
 go_enter Tryz.func40, Tryz.ntmps40
 go_wp2_with fail
 refine (q_Encode.calls k _ _ _ _ _ x 0 _ (HC.out.trans (by rw [HE.out]))).mono ?_
 rintro e w1 ⟨rfl, hb1⟩
 have k1 := blk_keep hb1 (heap_alloc_new _ _)
 have HB1 := Lib.hid (below_next (below_alloc' (Below.refl _ _) _) hb1)
 obtain ⟨d1, f1⟩ := blk_facts k1
 go_wp2_with fail
 refine (q_Of.calls k _ _ _ _ _ _ _ HO.out).mono ?_
 rintro e w2 ⟨rfl, hb2⟩
 have k2 := blk_keep hb2 k1
 have HB2 := Lib.hid (below_next HB1.out hb2)
 clear d1 f1
 obtain ⟨d2, f2⟩ := blk_facts k2
 have z2 := blk_size k2
 have z2k : ∀ k, w.heap.size < w2.heap.size + k := fun k => by omega
 go_wp2_with fail
 refine (q_Fields.calls 7 _ _ _ (RefM.fields ⟨7, by decide⟩)).mono ?_
 rintro e w3' ⟨rfl, hd3⟩
 obtain ⟨w3, rfl⟩ : ∃ w3, w3' = w3 := ⟨_, rfl⟩
 have hb3 := hd3.below
 have k3 := blk_keep hb3 (blk_alloc _ k2)
 have x3 := blk_keep hb3 (heap_alloc_new _ _)
 have HB3 := Lib.hid (below_next (below_alloc' HB2.out _) hb3)
 clear d2 f2 hd3
 obtain ⟨d3, f3⟩ := blk_facts k3
 have dx := (blk_facts x3).1
 go_wp2_with fail
 refine (dec_calls k (by omega) imm him _).mono ?_
 rintro e w4' ⟨rfl, hd4⟩
 obtain ⟨w4, rfl⟩ : ∃ w4, w4' = w4 := ⟨_, rfl⟩
 have hb4 := hd4.below
 have k4 := blk_keep hb4 k3
 have x4 := blk_keep hb4 x3
 have HB4 := Lib.hid (below_next HB3.out hb4)
 clear d3 f3 dx hd4
 obtain ⟨d4, f4⟩ := blk_facts k4
 have dx := (blk_facts x4).1
 simp only [show RefM.letters 7 = ⟨#[]⟩ from rfl]
 go_wp2_with fail
 refine wp_loop_rounds 1 ?_
 refine rounds_world (RTextW w w2.heap.size (n : Int) (d : Int) (a : Int) (b : Int) imm (Isa.nameOf n) 7 ic 106) ⟨k4, x4, HB4.out⟩ ?_
 clear d4 f4 dx k4 x4 k3 x3 k2 k1 HB1 HB2 HB3 HB4
 intro v0 H0
 rw [rounds_succ]
 have p1 : ¬ (9223372036854775807 < (Isa.nameOf n).size + 1) := by omega
 have p2 : ¬ (9223372036854775807 < (Isa.nameOf n).size + 1 + (Isa.num imm).size) := by omega
 have hk5 := (blk_facts H0.kind).1
 go_wp2_with fail
 go_ret
 exact ⟨rfl, H0.bel⟩
theorem rtext_8_0 (k : Nat) (hk : 60 ≤ k) (n : Nat) (h1 : 1 ≤ n) (h2 : n < 49) (hf : (Isa.formOf n : Int) = 8) (hs : RefM.shC (Isa.formOf n) (Isa.shapeOf n) = 45) (ic : Int) (hn : RefM.immC (Isa.numOf n) = ic) (hnu : (ic == 45) = true) (d a b : Nat) (imm x : Int)
 (hd : d ≤ 15) (ha : a ≤ 15) (hb : b ≤ 15) (him : -2147483648 ≤ imm ∧ imm ≤ 2147483647) (hE : Isa.enc (n : Int) (d : Int) (a : Int) (b : Int) imm = (x, 0)) (hnm : (Isa.nameOf n).size ≤ 16) (w : World) :
 Calls Tryz.prog 40 #[.agg #[.int .i64 (n : Int), .int .u8 (d : Int), .int .u8 (a : Int), .int .u8 (b : Int), .int .i32 imm]] w (Isa.TextPost (Isa.nameOf n) w) := by
 have HC := Lib.hid (RefM.enc_eq k hk (n : Int) (d : Int) (a : Int) (b : Int) imm (by omega) (by omega) (by omega) him)
 have HO := Lib.hid (RefM.of_kind k (by omega) n h1 h2 8 45 ic hf hs hn)
 have si := Isa.num_size imm (by omega) (by omega)
 have sd := Isa.num_size (d : Int) (by omega) (by omega)
 have sa := Isa.num_size (a : Int) (by omega) (by omega)
 have sb := Isa.num_size (b : Int) (by omega) (by omega)
 have hk20 : 20 ≤ k := by omega
 have HE := Lib.hid hE
 clear hE hf hs hn
 go_enter Tryz.func40, Tryz.ntmps40
 go_wp2_with fail
 refine (q_Encode.calls k _ _ _ _ _ x 0 _ (HC.out.trans (by rw [HE.out]))).mono ?_
 rintro e w1 ⟨rfl, hb1⟩
 have k1 := blk_keep hb1 (heap_alloc_new _ _)
 have HB1 := Lib.hid (below_next (below_alloc' (Below.refl _ _) _) hb1)
 obtain ⟨d1, f1⟩ := blk_facts k1
 go_wp2_with fail
 refine (q_Of.calls k _ _ _ _ _ _ _ HO.out).mono ?_
 rintro e w2 ⟨rfl, hb2⟩
 have k2 := blk_keep hb2 k1
 have HB2 := Lib.hid (below_next HB1.out hb2)
 clear d1 f1
 obtain ⟨d2, f2⟩ := blk_facts k2
 have z2 := blk_size k2
 have z2k : ∀ k, w.heap.size < w2.heap.size + k := fun k => by omega
 go_wp2_with fail
 refine (q_Fields.calls 8 _ _ _ (RefM.fields ⟨8, by decide⟩)).mono ?_
 rintro e w3' ⟨rfl, hd3⟩
 obtain ⟨w3, rfl⟩ : ∃ w3, w3' = w3 := ⟨_, rfl⟩
 have hb3 := hd3.below
 have k3 := blk_keep hb3 (blk_alloc _ k2)
 have x3 := blk_keep hb3 (heap_alloc_new _ _)
 have HB3 := Lib.hid (below_next (below_alloc' HB2.out _) hb3)
 clear d2 f2 hd3
 obtain ⟨d3, f3⟩ := blk_facts k3
 have dx := (blk_facts x3).1
 go_wp2_with fail
 refine (dec_calls k (by omega) imm him _).mono ?_
 rintro e w4' ⟨rfl, hd4⟩
 obtain ⟨w4, rfl⟩ : ∃ w4, w4' = w4 := ⟨_, rfl⟩
 have hb4 := hd4.below
 have k4 := blk_keep hb4 k3
 have x4 := blk_keep hb4 x3
 have HB4 := Lib.hid (below_next HB3.out hb4)
 clear d3 f3 dx hd4
 obtain ⟨d4, f4⟩ := blk_facts k4
 have dx := (blk_facts x4).1
 simp only [show RefM.letters 8 = ⟨#[]⟩ from rfl]
 go_wp2_with fail
 refine wp_loop_rounds 1 ?_
 refine rounds_world (RTextW w w2.heap.size (n : Int) (d : Int) (a : Int) (b : Int) imm (Isa.nameOf n) 8 ic 45) ⟨k4, x4, HB4.out⟩ ?_
 clear d4 f4 dx k4 x4 k3 x3 k2 k1 HB1 HB2 HB3 HB4
 intro v0 H0
 rw [rounds_succ]
 have p1 : ¬ (9223372036854775807 < (Isa.nameOf n).size + 1) := by omega
 have p2 : ¬ (9223372036854775807 < (Isa.nameOf n).size + 1 + (Isa.num imm).size) := by omega
 have hk5 := (blk_facts H0.kind).1
 go_wp2_with fail
 go_ret
 exact ⟨rfl, H0.bel⟩
theorem reg_num (n : Int) : Isa.reg n = ⟨#[114]⟩ ++ Isa.num n := by
 apply ByteArray.ext
 simp [Isa.reg, Isa.num, ByteArray.data_append]
theorem rtext_none (k : Nat) (hk : 60 ≤ k) (op d a b m : Int) (hd : 0 ≤ d ∧ d ≤ 255) (ha : 0 ≤ a ∧ a ≤ 255) (hb : 0 ≤ b ∧ b ≤ 255) (hm : -2147483648 ≤ m ∧ m ≤ 2147483647) (hE : (Isa.enc op d a b m).2 ≠ 0) (w : World) :
 Calls Tryz.prog 40 #[.agg #[.int .i64 op, .int .u8 d, .int .u8 a, .int .u8 b, .int .i32 m]] w (Isa.TextPost ⟨#[]⟩ w) := by
 have hC := RefM.enc_eq k hk op d a b m hd ha hb hm
 obtain ⟨⟨x, y⟩, hx⟩ : ∃ r, Isa.enc op d a b m = r := ⟨_, rfl⟩
 rw [hx] at hC hE
 have HC := Lib.hid hC
 have hq : (y != 0) = true := by simpa using hE
 have hq2 : (y == 0) = false := by simpa using hE
 clear hE hx hC
 go_enter Tryz.func40, Tryz.ntmps40
 go_wp2_with fail
 refine (q_Encode.calls k _ _ _ _ _ _ _ _ HC.out).mono ?_
 rintro e w1 ⟨rfl, hb1⟩
 have HB1 := Lib.hid (below_next (below_alloc' (Below.refl _ _) _) hb1)
 go_wp2_with fail
 go_ret
 exact ⟨rfl, HB1.out⟩
theorem RefM.sh_1_0 : ∀ n : Fin 49, 1 ≤ n.1 → Isa.formOf n.1 = 1 → Isa.shapeOf n.1 = 0 → RefM.shC (Isa.formOf n.1) (Isa.shapeOf n.1) = 51 ∧ (RefM.immC (Isa.numOf n.1) == 45) = true := by decide
theorem RefM.sh_2_0 : ∀ n : Fin 49, 1 ≤ n.1 → Isa.formOf n.1 = 2 → Isa.shapeOf n.1 = 0 → RefM.shC (Isa.formOf n.1) (Isa.shapeOf n.1) = 105 ∧ (RefM.immC (Isa.numOf n.1) == 45) = false := by decide
theorem RefM.sh_2_1 : ∀ n : Fin 49, 1 ≤ n.1 → Isa.formOf n.1 = 2 → Isa.shapeOf n.1 = 1 → RefM.shC (Isa.formOf n.1) (Isa.shapeOf n.1) = 109 ∧ (RefM.immC (Isa.numOf n.1) == 45) = false := by decide
theorem RefM.sh_3_0 : ∀ n : Fin 49, 1 ≤ n.1 → Isa.formOf n.1 = 3 → Isa.shapeOf n.1 = 0 → RefM.shC (Isa.formOf n.1) (Isa.shapeOf n.1) = 105 ∧ (RefM.immC (Isa.numOf n.1) == 45) = false := by decide
theorem RefM.sh_3_1 : ∀ n : Fin 49, 1 ≤ n.1 → Isa.formOf n.1 = 3 → Isa.shapeOf n.1 = 1 → RefM.shC (Isa.formOf n.1) (Isa.shapeOf n.1) = 109 ∧ (RefM.immC (Isa.numOf n.1) == 45) = false := by decide
theorem RefM.sh_4_0 : ∀ n : Fin 49, 1 ≤ n.1 → Isa.formOf n.1 = 4 → Isa.shapeOf n.1 = 0 → RefM.shC (Isa.formOf n.1) (Isa.shapeOf n.1) = 105 ∧ (RefM.immC (Isa.numOf n.1) == 45) = false := by decide
theorem RefM.sh_5_0 : ∀ n : Fin 49, 1 ≤ n.1 → Isa.formOf n.1 = 5 → Isa.shapeOf n.1 = 0 → RefM.shC (Isa.formOf n.1) (Isa.shapeOf n.1) = 49 ∧ (RefM.immC (Isa.numOf n.1) == 45) = true := by decide
theorem RefM.sh_6_0 : ∀ n : Fin 49, 1 ≤ n.1 → Isa.formOf n.1 = 6 → Isa.shapeOf n.1 = 0 → RefM.shC (Isa.formOf n.1) (Isa.shapeOf n.1) = 49 ∧ (RefM.immC (Isa.numOf n.1) == 45) = true := by decide
theorem RefM.sh_7_0 : ∀ n : Fin 49, 1 ≤ n.1 → Isa.formOf n.1 = 7 → Isa.shapeOf n.1 = 0 → RefM.shC (Isa.formOf n.1) (Isa.shapeOf n.1) = 106 ∧ (RefM.immC (Isa.numOf n.1) == 45) = false := by decide
theorem RefM.sh_8_0 : ∀ n : Fin 49, 1 ≤ n.1 → Isa.formOf n.1 = 8 → Isa.shapeOf n.1 = 0 → RefM.shC (Isa.formOf n.1) (Isa.shapeOf n.1) = 45 ∧ (RefM.immC (Isa.numOf n.1) == 45) = true := by decide
theorem rtext_calls (k : Nat) (hk : 60 ≤ k) (op d a b m : Int) (hd : 0 ≤ d ∧ d ≤ 255) (ha : 0 ≤ a ∧ a ≤ 255) (hb : 0 ≤ b ∧ b ≤ 255) (hm : -2147483648 ≤ m ∧ m ≤ 2147483647) (w : World) :
 Calls Tryz.prog 40 #[.agg #[.int .i64 op, .int .u8 d, .int .u8 a, .int .u8 b, .int .i32 m]] w (Isa.TextPost (Isa.text op d a b m) w) := by
 unfold Isa.text
 by_cases hE : (Isa.enc op d a b m).2 = 0
 · rw [if_neg (by simpa using hE)]
   have hx : Isa.enc op d a b m = ((Isa.enc op d a b m).1, 0) := by rw [← hE]
   obtain ⟨ho, b1, b2, b3, hf, _⟩ := Isa.enc_ok hE
   have b1' := (Isa.badAt_le b1).1
   have b2' := (Isa.badAt_le b2).1
   have b3' := (Isa.badAt_le b3).1
   clear b1 b2 b3 hf
   obtain ⟨n, rfl⟩ : ∃ n : Nat, op = (n : Int) := ⟨op.toNat, by omega⟩
   obtain ⟨d, rfl⟩ : ∃ n : Nat, d = (n : Int) := ⟨d.toNat, by omega⟩
   obtain ⟨a, rfl⟩ : ∃ n : Nat, a = (n : Int) := ⟨a.toNat, by omega⟩
   obtain ⟨b, rfl⟩ : ∃ n : Nat, b = (n : Int) := ⟨b.toNat, by omega⟩
   have h1 : 1 ≤ n := by omega
   have h2 : n < 49 := by omega
   have hn := Isa.name_le ⟨n, h2⟩
   have hc := Isa.text_combos ⟨n, h2⟩ h1
   simp only [Int.toNat_natCast] at hc hn ⊢
   have im : ∀ u : Nat, RefM.immC u = 45 ∨ RefM.immC u = 115 ∨ RefM.immC u = 117 ∨ RefM.immC u = 110 := by
    intro u
    unfold RefM.immC
    split
    · exact .inr (.inl rfl)
    · split
      · exact .inr (.inr (.inl rfl))
      · split
        · exact .inr (.inr (.inr rfl))
        · exact .inl rfl
   rcases hc with ⟨e1, e2, e3⟩ | ⟨e1, e2, e3⟩ | ⟨e1, e2, e3⟩ | ⟨e1, e2, e3⟩ | ⟨e1, e2, e3⟩ | ⟨e1, e2, e3⟩ | ⟨e1, e2, e3⟩ | ⟨e1, e2, e3⟩ | ⟨e1, e2, e3⟩ | ⟨e1, e2, e3⟩
   · have q := RefM.sh_1_0 ⟨n, h2⟩ h1 e1 e2
     have r := rtext_1_0 k hk n h1 h2 (by rw [e1]; rfl) q.1 _ rfl q.2 d a b m _ (by omega) (by omega) (by omega) hm hx hn w
     have q : Isa.textF (Isa.formOf n) (Isa.numOf n) (Isa.shapeOf n) (Isa.nameOf n) (d : Int) (a : Int) (b : Int) m = (((((((((Isa.nameOf n ++ ⟨#[32]⟩) ++ ⟨#[114]⟩) ++ Isa.num (d : Int)) ++ ⟨#[44, 32]⟩) ++ ⟨#[114]⟩) ++ Isa.num (a : Int)) ++ ⟨#[44, 32]⟩) ++ ⟨#[114]⟩) ++ Isa.num (b : Int)) := by
      rw [e1, e2]; rw [e3]
      apply ByteArray.ext
      apply Array.toList_inj.1
      simp [Isa.textF, Isa.parts, Isa.atD, Isa.atA, Isa.atB, Isa.layD, Isa.layA, Isa.layB, Isa.joined, reg_num, Lib.join, List.intercalate, List.intersperse, ByteArray.data_append]
     rw [q]; exact r
   · have q := RefM.sh_2_0 ⟨n, h2⟩ h1 e1 e2
     have r := rtext_2_0 k hk n h1 h2 (by rw [e1]; rfl) q.1 _ rfl q.2 d a b m _ (by omega) (by omega) (by omega) hm hx hn w
     have q : Isa.textF (Isa.formOf n) (Isa.numOf n) (Isa.shapeOf n) (Isa.nameOf n) (d : Int) (a : Int) (b : Int) m = ((((((((Isa.nameOf n ++ ⟨#[32]⟩) ++ ⟨#[114]⟩) ++ Isa.num (d : Int)) ++ ⟨#[44, 32]⟩) ++ ⟨#[114]⟩) ++ Isa.num (a : Int)) ++ ⟨#[44, 32]⟩) ++ Isa.num m) := by
      rw [e1, e2]
      apply ByteArray.ext
      apply Array.toList_inj.1
      simp [Isa.textF, Isa.parts, Isa.atD, Isa.atA, Isa.atB, Isa.layD, Isa.layA, Isa.layB, Isa.joined, reg_num, Lib.join, List.intercalate, List.intersperse, ByteArray.data_append, e3]
     rw [q]; exact r
   · have q := RefM.sh_2_1 ⟨n, h2⟩ h1 e1 e2
     have r := rtext_2_1 k hk n h1 h2 (by rw [e1]; rfl) q.1 _ rfl q.2 d a b m _ (by omega) (by omega) (by omega) hm hx hn w
     have q : Isa.textF (Isa.formOf n) (Isa.numOf n) (Isa.shapeOf n) (Isa.nameOf n) (d : Int) (a : Int) (b : Int) m = (((((((Isa.nameOf n ++ ⟨#[32, 114]⟩) ++ Isa.num (d : Int)) ++ ⟨#[44, 32]⟩) ++ Isa.num m) ++ ⟨#[40, 114]⟩) ++ Isa.num (a : Int)) ++ ⟨#[41]⟩) := by
      rw [e1, e2]
      apply ByteArray.ext
      apply Array.toList_inj.1
      simp [Isa.textF, Isa.parts, Isa.atD, Isa.atA, Isa.atB, Isa.layD, Isa.layA, Isa.layB, Isa.joined, reg_num, Lib.join, List.intercalate, List.intersperse, ByteArray.data_append, e3]
     rw [q]; exact r
   · have q := RefM.sh_3_0 ⟨n, h2⟩ h1 e1 e2
     have r := rtext_3_0 k hk n h1 h2 (by rw [e1]; rfl) q.1 _ rfl q.2 d a b m _ (by omega) (by omega) (by omega) hm hx hn w
     have q : Isa.textF (Isa.formOf n) (Isa.numOf n) (Isa.shapeOf n) (Isa.nameOf n) (d : Int) (a : Int) (b : Int) m = ((((((((Isa.nameOf n ++ ⟨#[32]⟩) ++ ⟨#[114]⟩) ++ Isa.num (a : Int)) ++ ⟨#[44, 32]⟩) ++ ⟨#[114]⟩) ++ Isa.num (b : Int)) ++ ⟨#[44, 32]⟩) ++ Isa.num m) := by
      rw [e1, e2]
      apply ByteArray.ext
      apply Array.toList_inj.1
      simp [Isa.textF, Isa.parts, Isa.atD, Isa.atA, Isa.atB, Isa.layD, Isa.layA, Isa.layB, Isa.joined, reg_num, Lib.join, List.intercalate, List.intersperse, ByteArray.data_append, e3]
     rw [q]; exact r
   · have q := RefM.sh_3_1 ⟨n, h2⟩ h1 e1 e2
     have r := rtext_3_1 k hk n h1 h2 (by rw [e1]; rfl) q.1 _ rfl q.2 d a b m _ (by omega) (by omega) (by omega) hm hx hn w
     have q : Isa.textF (Isa.formOf n) (Isa.numOf n) (Isa.shapeOf n) (Isa.nameOf n) (d : Int) (a : Int) (b : Int) m = (((((((Isa.nameOf n ++ ⟨#[32, 114]⟩) ++ Isa.num (b : Int)) ++ ⟨#[44, 32]⟩) ++ Isa.num m) ++ ⟨#[40, 114]⟩) ++ Isa.num (a : Int)) ++ ⟨#[41]⟩) := by
      rw [e1, e2]
      apply ByteArray.ext
      apply Array.toList_inj.1
      simp [Isa.textF, Isa.parts, Isa.atD, Isa.atA, Isa.atB, Isa.layD, Isa.layA, Isa.layB, Isa.joined, reg_num, Lib.join, List.intercalate, List.intersperse, ByteArray.data_append, e3]
     rw [q]; exact r
   · have q := RefM.sh_4_0 ⟨n, h2⟩ h1 e1 e2
     have r := rtext_4_0 k hk n h1 h2 (by rw [e1]; rfl) q.1 _ rfl q.2 d a b m _ (by omega) (by omega) (by omega) hm hx hn w
     have q : Isa.textF (Isa.formOf n) (Isa.numOf n) (Isa.shapeOf n) (Isa.nameOf n) (d : Int) (a : Int) (b : Int) m = (((((Isa.nameOf n ++ ⟨#[32]⟩) ++ ⟨#[114]⟩) ++ Isa.num (d : Int)) ++ ⟨#[44, 32]⟩) ++ Isa.num m) := by
      rw [e1, e2]
      apply ByteArray.ext
      apply Array.toList_inj.1
      simp [Isa.textF, Isa.parts, Isa.atD, Isa.atA, Isa.atB, Isa.layD, Isa.layA, Isa.layB, Isa.joined, reg_num, Lib.join, List.intercalate, List.intersperse, ByteArray.data_append, e3]
     rw [q]; exact r
   · have q := RefM.sh_5_0 ⟨n, h2⟩ h1 e1 e2
     have r := rtext_5_0 k hk n h1 h2 (by rw [e1]; rfl) q.1 _ rfl q.2 d a b m _ (by omega) (by omega) (by omega) hm hx hn w
     have q : Isa.textF (Isa.formOf n) (Isa.numOf n) (Isa.shapeOf n) (Isa.nameOf n) (d : Int) (a : Int) (b : Int) m = (((Isa.nameOf n ++ ⟨#[32]⟩) ++ ⟨#[114]⟩) ++ Isa.num (d : Int)) := by
      rw [e1, e2]; rw [e3]
      apply ByteArray.ext
      apply Array.toList_inj.1
      simp [Isa.textF, Isa.parts, Isa.atD, Isa.atA, Isa.atB, Isa.layD, Isa.layA, Isa.layB, Isa.joined, reg_num, Lib.join, List.intercalate, List.intersperse, ByteArray.data_append]
     rw [q]; exact r
   · have q := RefM.sh_6_0 ⟨n, h2⟩ h1 e1 e2
     have r := rtext_6_0 k hk n h1 h2 (by rw [e1]; rfl) q.1 _ rfl q.2 d a b m _ (by omega) (by omega) (by omega) hm hx hn w
     have q : Isa.textF (Isa.formOf n) (Isa.numOf n) (Isa.shapeOf n) (Isa.nameOf n) (d : Int) (a : Int) (b : Int) m = (((Isa.nameOf n ++ ⟨#[32]⟩) ++ ⟨#[114]⟩) ++ Isa.num (a : Int)) := by
      rw [e1, e2]; rw [e3]
      apply ByteArray.ext
      apply Array.toList_inj.1
      simp [Isa.textF, Isa.parts, Isa.atD, Isa.atA, Isa.atB, Isa.layD, Isa.layA, Isa.layB, Isa.joined, reg_num, Lib.join, List.intercalate, List.intersperse, ByteArray.data_append]
     rw [q]; exact r
   · have q := RefM.sh_7_0 ⟨n, h2⟩ h1 e1 e2
     have r := rtext_7_0 k hk n h1 h2 (by rw [e1]; rfl) q.1 _ rfl q.2 d a b m _ (by omega) (by omega) (by omega) hm hx hn w
     have q : Isa.textF (Isa.formOf n) (Isa.numOf n) (Isa.shapeOf n) (Isa.nameOf n) (d : Int) (a : Int) (b : Int) m = ((Isa.nameOf n ++ ⟨#[32]⟩) ++ Isa.num m) := by
      rw [e1, e2]
      apply ByteArray.ext
      apply Array.toList_inj.1
      simp [Isa.textF, Isa.parts, Isa.atD, Isa.atA, Isa.atB, Isa.layD, Isa.layA, Isa.layB, Isa.joined, reg_num, Lib.join, List.intercalate, List.intersperse, ByteArray.data_append, e3]
     rw [q]; exact r
   · have q := RefM.sh_8_0 ⟨n, h2⟩ h1 e1 e2
     have r := rtext_8_0 k hk n h1 h2 (by rw [e1]; rfl) q.1 _ rfl q.2 d a b m _ (by omega) (by omega) (by omega) hm hx hn w
     have q : Isa.textF (Isa.formOf n) (Isa.numOf n) (Isa.shapeOf n) (Isa.nameOf n) (d : Int) (a : Int) (b : Int) m = (Isa.nameOf n) := by
      rw [e1, e2]; rw [e3]
      apply ByteArray.ext
      apply Array.toList_inj.1
      simp [Isa.textF, Isa.parts, Isa.atD, Isa.atA, Isa.atB, Isa.layD, Isa.layA, Isa.layB, Isa.joined, reg_num, Lib.join, List.intercalate, List.intersperse, ByteArray.data_append]
     rw [q]; exact r
 · rw [if_pos hE]
   exact rtext_none k hk op d a b m hd ha hb hm hE w
namespace Hex
def pad : Nat → Nat → List UInt8
 | 0, _ => []
 | j + 1, u => pad j (u / 16) ++ [dig (u % 16)]
theorem pad_zero : ∀ j, pad j 0 = List.replicate j 48
 | 0 => rfl
 | j + 1 => by
  rw [pad, show 0 / 16 = 0 from rfl, pad_zero j, List.replicate_succ']
  rfl
theorem pad_text : ∀ (j n : Nat), 1 ≤ j → n < 16 ^ j → pad j n = List.replicate (j - (text n).length) 48 ++ text n
 | 0, _, h, _ => by omega
 | j + 1, n, _, h => by
  by_cases hs : n < 16
  · rw [text_small n hs, pad, show n / 16 = 0 by omega, pad_zero, show n % 16 = n by omega]
    simp
  · have hj : 1 ≤ j := by
     cases j with
     | zero => simp at h; omega
     | succ j => omega
    have h2 : n / 16 < 16 ^ j := by rw [Nat.div_lt_iff_lt_mul (by decide)]; rw [Nat.pow_succ] at h; exact h
    rw [text_big n hs, pad, pad_text j (n / 16) hj h2]
    simp
theorem eight_pad (n : Nat) (hn : n < 4294967296) : eight n = [48, 120] ++ pad 8 n := by
 rw [pad_text 8 n (by decide) hn]
 unfold eight
 simp
theorem ref_dig : ∀ v : Fin 16, (⟨#[48, 49, 50, 51, 52, 53, 54, 55, 56, 57, 97, 98, 99, 100, 101, 102]⟩ : ByteArray).extract v.1 (v.1 + 1) = ⟨#[dig v.1]⟩ := by decide +kernel
theorem ref_loop : ∀ (j u k : Nat) (s : List UInt8), u < 4294967296 → j ≤ 8 → j < k → s.length + j ≤ 100 → r_eight.l0 k (u : Int) ⟨s.toArray⟩ ((8 - j : Nat) : Int) = some ⟨([48, 120] ++ (pad j u ++ s)).toArray⟩
 | 0, u, k, s, hu, hj, hk, hs => by
  obtain ⟨k, rfl⟩ : ∃ m, k = m + 1 := ⟨k - 1, by omega⟩
  have hsz : (⟨s.toArray⟩ : ByteArray).size = s.length := by simp [ByteArray.size]
  unfold r_eight.l0
  rw [if_neg (by decide), if_pos (by rw [hsz]; omega)]
  refine congrArg some ?_
  apply ByteArray.ext
  simp [pad]
 | j + 1, u, k, s, hu, hj, hk, hs => by
  obtain ⟨k, rfl⟩ : ∃ m, k = m + 1 := ⟨k - 1, by omega⟩
  have hsz : (⟨s.toArray⟩ : ByteArray).size = s.length := by simp [ByteArray.size]
  have e1 : Int.tmod (u : Int) 16 = ((u % 16 : Nat) : Int) := by rw [Int.tmod_eq_emod_of_nonneg (by omega)]; omega
  have e2 : Int.tdiv (u : Int) 16 = ((u / 16 : Nat) : Int) := by rw [Int.tdiv_eq_ediv_of_nonneg (by omega)]; omega
  have e3 : ((((u % 16 : Nat) : Int) + 1) % 4294967296) = ((u % 16 + 1 : Nat) : Int) := by omega
  have e4 : (((u / 16 : Nat) : Int) % 4294967296) = ((u / 16 : Nat) : Int) := by omega
  have e5 : wrap64 (((8 - (j + 1) : Nat) : Int) + 1) = ((8 - j : Nat) : Int) := by unfold wrap64; omega
  have hd := ref_dig ⟨u % 16, Nat.mod_lt _ (by decide)⟩
  simp only at hd
  unfold r_eight.l0
  rw [if_pos (by omega), e1, e2, e3, e4, e5]
  simp only [Int.toNat_natCast]
  have c1 : (0 : Int) ≤ ((u % 16 : Nat) : Int) := by omega
  have c2 : ((u % 16 : Nat) : Int) ≤ ((u % 16 + 1 : Nat) : Int) := by omega
  have c3 : ((u % 16 + 1 : Nat) : Int) ≤ 16 := by omega
  have c4 : (⟨#[dig (u % 16)]⟩ : ByteArray).size + (⟨s.toArray⟩ : ByteArray).size ≤ 9223372036854775807 := by
   have q : (⟨#[dig (u % 16)]⟩ : ByteArray).size = 1 := rfl
   rw [hsz, q]; omega
  rw [hd, if_pos c1, if_pos c2, if_pos c3, if_pos c4]
  have hcat : (⟨#[dig (u % 16)]⟩ : ByteArray) ++ ⟨s.toArray⟩ = ⟨(dig (u % 16) :: s).toArray⟩ := by apply ByteArray.ext; simp
  rw [hcat, ref_loop j (u / 16) k (dig (u % 16) :: s) (by omega) (by omega) (by omega) (by simp; omega)]
  rw [pad]
  simp
theorem ref_eight (n k : Nat) (hn : n < 4294967296) (hk : 9 ≤ k) : r_eight.f k (n : Int) = some ⟨(eight n).toArray⟩ := by
 have h := ref_loop 8 n k [] hn (by decide) (by omega) (by simp)
 rw [eight_pad n hn]
 unfold r_eight.f
 simpa using h
end Hex
theorem reight_calls (n : Nat) (hn : n < 4294967296) (w : World) : Calls Tryz.prog 35 #[.int .u32 (n : Int)] w fun e w' => e = .returned (.string ⟨(Hex.eight n).toArray⟩) ∧ ∃ m, w' = w.drewN m :=
 (r_eight.calls 9 (n : Int) _ w (Hex.ref_eight n 9 hn (by decide))).mono fun _ _ h => ⟨h.1, h.2.out⟩
theorem rline_calls (x at_ : Nat) (hx : x < 4294967296) (ha : at_ < 4294967296) (w : World) : Calls Tryz.prog 21 #[.int .u32 (x : Int), .int .u32 (at_ : Int)] w fun e w' => e = .returned (.string (Asm.lineText x at_)) ∧ Below w.heap.size w w' := by
 obtain ⟨op, d, a, b, m, er, hd⟩ : ∃ op d a b m er, Isa.dec x = (op, d, a, b, m, er) := ⟨_, _, _, _, _, _, rfl⟩
 have hdec := fun W => q_Decode.calls 36 (x : Int) op d a b m er W (by rw [← hd]; exact RefD.decode_eq (x : Int) (by omega) (by omega) 36 (by decide))
 unfold Asm.lineText
 rw [hd]
 simp only
 by_cases h0 : er = 0
 · subst h0
   have h1' := Isa.enc_dec (x := (x : Int)) (by omega) (by omega) (by rw [hd])
   obtain ⟨op', d', a', b', m', hd', henc, h1, h2, g1, g2, g3, g4, g5, g6, g7, g8⟩ := h1'
   rw [hd] at hd'
   cases hd'
   simp only [if_true]
   have hts := Isa.text_size op d a b m h1 h2 ⟨g1, g2⟩ ⟨g3, g4⟩ ⟨g5, g6⟩ ⟨g7, g8⟩
   have htx := fun W => rtext_calls 60 (by decide) op d a b m (by omega) (by omega) (by omega) ⟨g7, g8⟩ W
   obtain ⟨tx, htxe⟩ : ∃ tx, Isa.text op d a b m = tx := ⟨_, rfl⟩
   rw [htxe] at hts htx ⊢
   clear htxe henc hd
   obtain ⟨Q, hQ⟩ : ∃ Q : Nat, (Q : Int) = ((at_ : Int) + 4 * (m % 4294967296)) % 4294967296 := ⟨(((at_ : Int) + 4 * (m % 4294967296)) % 4294967296).toNat, by omega⟩
   have hQ1 : Q < 4294967296 := by omega
   have hQe : (((at_ : Int) + 4 * (m % 4294967296)) % 4294967296).toNat = Q := by omega
   rw [hQe]
   have k1 : IntKind.u32.wrap m = m % 4294967296 := by rw [IntKind.wrap_u32]
   obtain ⟨M, hM⟩ : ∃ M : Nat, (M : Int) = m % 4294967296 := ⟨(m % 4294967296).toNat, by omega⟩
   have k3 : IntKind.u32.wrap ((at_ : Int) + IntKind.u32.wrap (4 * IntKind.u32.wrap m)) = (Q : Int) := by simp only [IntKind.wrap_u32]; omega
   obtain ⟨et, het⟩ : ∃ et : ByteArray, (⟨(Hex.eight Q).toArray⟩ : ByteArray) = et := ⟨_, rfl⟩
   have hes : et.size ≤ 10 := by rw [← het]; simp [ByteArray.size, Hex.eight_len Q hQ1]
   have hei : ∀ Y, Calls Tryz.prog 35 #[.int .u32 (((at_ : Int) + 4 * (m % 4294967296)) % 4294967296)] Y fun e w' => e = .returned (.string ⟨(Hex.eight Q).toArray⟩) ∧ ∃ n, w' = Y.drewN n := fun Y => by rw [← hQ]; exact reight_calls Q hQ1 Y
   rw [het] at hei ⊢
   have HEI := Lib.hid hei
   have HTX := Lib.hid htx
   have HDEC := Lib.hid hdec
   have K3 := Lib.hid k3
   clear het hei hQe hM hQ htx hdec k1 k3
   obtain ⟨R, hR⟩ : ∃ R : ByteArray, (if Asm.goes op = true then tx ++ ⟨#[32, 35, 32]⟩ ++ et else tx) = R := ⟨_, rfl⟩
   rw [hR]
   have HR := Lib.hid hR
   clear hR
   have s1 : ¬ (9223372036854775807 < tx.size + 3) := by omega
   have s2 : ¬ (9223372036854775807 < tx.size + 3 + et.size) := by omega
   go_enter Tryz.func21, Tryz.ntmps21
   go_wp2_with fail
   refine (HDEC.out _).mono ?_
   rintro e w1 ⟨rfl, hb1⟩
   have HB1 := Lib.hid (below_alloc' hb1 (.cells #[.int .i64 op, .int .u8 d, .int .u8 a, .int .u8 b, .int .i32 m] 96))
   have KX := heap_alloc_new w1 (.cells #[.int .i64 op, .int .u8 d, .int .u8 a, .int .u8 b, .int .i32 m] 96)
   have HKX := Lib.hid KX
   clear hb1 KX
   go_wp2_with fail
   refine (HTX.out _).mono ?_
   rintro e w2 ⟨rfl, hb2⟩
   have kx := blk_keep hb2 HKX.out
   have c0 : w2.cell? ⟨w1.heap.size, 0, none⟩ = some (.int .i64 op) := (blk_facts kx).1 0
   have c4 : w2.cell? ⟨w1.heap.size, 4, none⟩ = some (.int .i32 m) := (blk_facts kx).1 4
   have zx := blk_size kx
   have HB2 := Lib.hid (below_next HB1.out hb2)
   clear kx hb2
   cases hgo : Asm.goes op with
   | false =>
    obtain rfl : tx = R := by have h := HR.out; rw [hgo] at h; simpa using h
    have h3 : ¬ (32 ≤ op ∧ op ≤ 38) := by intro h; simp [Asm.goes] at hgo; omega
    have q1 : (op == 38) = false := by simp; omega
    by_cases h32 : 32 ≤ op
    · have q2 : ¬ op ≤ 37 := by omega
      go_wp2_with fail
      go_ret
      exact ⟨rfl, HB2.out⟩
    · go_wp2_with fail
      go_ret
      exact ⟨rfl, HB2.out⟩
   | true =>
    have hR : tx ++ ⟨#[32, 35, 32]⟩ ++ et = R := by have h := HR.out; rw [hgo] at h; simpa using h
    have HR2 := Lib.hid hR
    clear hR HR
    have h3 : 32 ≤ op ∧ op ≤ 38 := by simp [Asm.goes] at hgo; omega
    obtain ⟨h31, h32⟩ := h3
    by_cases h38 : op = 38
    · have q1 : (op == 38) = true := by simp [h38]
      go_wp2_with fail
      refine (HEI.out _).mono ?_
      rintro e w3 ⟨rfl, nq, rfl⟩
      go_wp2_with fail
      go_ret
      exact ⟨by rw [← HR2.out]; rfl, below_drewN' HB2.out nq⟩
    · have q1 : (op == 38) = false := by simp [h38]
      have q2 : op ≤ 37 := by omega
      go_wp2_with fail
      refine (HEI.out _).mono ?_
      rintro e w3 ⟨rfl, nq, rfl⟩
      go_wp2_with fail
      go_ret
      exact ⟨by rw [← HR2.out]; rfl, below_drewN' HB2.out nq⟩
 · rw [if_neg h0]
   have hne : (er == 0) = false := by simpa using h0
   have hne2 : (er != 0) = true := by simpa using h0
   obtain ⟨et, het⟩ : ∃ et : ByteArray, (⟨(Hex.eight x).toArray⟩ : ByteArray) = et := ⟨_, rfl⟩
   have hes : et.size ≤ 10 := by rw [← het]; simp [ByteArray.size, Hex.eight_len x hx]
   have hei := fun Y => reight_calls x hx Y
   rw [het] at hei ⊢
   have s1 : ¬ (9223372036854775807 < 6 + et.size) := by omega
   have HEI := Lib.hid hei
   clear het hei hd
   go_enter Tryz.func21, Tryz.ntmps21
   go_wp2_with fail
   refine (hdec _).mono ?_
   rintro e w1 ⟨rfl, hb1⟩
   go_wp2_with fail
   refine (HEI.out _).mono ?_
   rintro e w2 ⟨rfl, nq, rfl⟩
   go_wp2_with fail
   go_ret
   exact ⟨rfl, below_drewN' (below_alloc' hb1 _) nq⟩
end Go.Proofs.YtabmlbnnhhpaoaaGreatDoor
