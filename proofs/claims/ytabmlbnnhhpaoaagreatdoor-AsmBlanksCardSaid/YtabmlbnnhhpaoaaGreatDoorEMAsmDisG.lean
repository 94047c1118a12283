/- What this claim needs of IsaBackRound, AsmLine, AsmDis. -/
import Derived.Test.YtabmlbnnhhpaoaaGreatDoorEMIsaTextB
import Derived.Test.YtabmlbnnhhpaoaaGreatDoorEMIsaDecB
import Derived.Test.YtabmlbnnhhpaoaaGreatDoorEMAsmHexG
import Derived.Test.YtabmlbnnhhpaoaaGreatDoorEMAsmMark
import Derived.Deep.RegionHeld3
set_option linter.unusedSimpArgs false
set_option linter.unusedVariables false
namespace Go.Proofs.YtabmlbnnhhpaoaaGreatDoor
namespace Isa
theorem out_ok {n d a b y : Int} {f nu : Nat} (h : (decOut n f nu d a b y).2.2.2.2.2 = 0) : ¬ (2 ^ bits f ≤ y) ∧ ∃ m, decOut n f nu d a b y = (n, d, a, b, m, 0) ∧ fits f nu m = true ∧ ((nu = 1 ∧ 2 ^ (bits f - 1) ≤ y ∧ m = y - 2 ^ bits f) ∨ (¬ (nu = 1 ∧ 2 ^ (bits f - 1) ≤ y) ∧ m = y)) := by
 unfold decOut at h ⊢
 by_cases h1 : 2 ^ bits f ≤ y
 · rw [if_pos h1] at h; exact absurd h (by decide)
 · rw [if_neg h1] at h ⊢
   refine ⟨h1, ?_⟩
   by_cases h2 : nu = 1 ∧ 2 ^ (bits f - 1) ≤ y
   · rw [if_pos h2] at h ⊢
     by_cases h3 : fits f nu (y - 2 ^ bits f) = true
     · rw [if_pos h3]; exact ⟨_, rfl, h3, .inl ⟨h2.1, h2.2, rfl⟩⟩
     · rw [if_neg h3] at h; exact absurd h (by decide)
   · rw [if_neg h2] at h ⊢
     by_cases h3 : fits f nu y = true
     · rw [if_pos h3]; exact ⟨_, rfl, h3, .inr ⟨h2, rfl⟩⟩
     · rw [if_neg h3] at h; exact absurd h (by decide)
theorem back_1_0 (n y : Int) (hn : 1 ≤ n ∧ n < 49) (hy0 : 0 ≤ y) (hy1 : y ≤ 67108863) (h : (decF 1 0 n y).2.2.2.2.2 = 0) : ∃ d a b m, decF 1 0 n y = (n, d, a, b, m, 0) ∧ encF 1 0 n d a b m = (n * 67108864 + y, 0) ∧ 0 ≤ d ∧ d ≤ 15 ∧ 0 ≤ a ∧ a ≤ 15 ∧ 0 ≤ b ∧ b ≤ 15 ∧ -2147483648 ≤ m ∧ m ≤ 2147483647 := by
 have e : decF 1 0 n y = decOut n 1 0 (y / 4194304) ((y % 4194304) / 262144) (((y % 4194304) % 262144) / 16384) (((y % 4194304) % 262144) % 16384) := by
  unfold decF
  simp [high, rest, atD, atA, atB, layD, layA, layB]
 rw [e] at h ⊢
 obtain ⟨h1, m, h2, h3, h4⟩ := out_ok h
 simp only [bits, layN, List.getD_cons_succ, List.getD_cons_zero] at h1 h4
 refine ⟨_, _, _, m, h2, ?_, by omega, by omega, by omega, by omega, by omega, by omega, by omega, by omega⟩
 unfold encF
 rw [if_neg (show ¬ (badAt (atD 1) (y / 4194304) || badAt (atA 1) ((y % 4194304) / 262144) || badAt (atB 1) (((y % 4194304) % 262144) / 16384)) = true by simp [badAt, atD, atA, atB, layD, layA, layB]; try omega), if_pos h3]
 have hw : wordF 1 n (y / 4194304) ((y % 4194304) / 262144) (((y % 4194304) % 262144) / 16384) m = n * 67108864 + y := by
  simp [wordF, place, bits, layN, atD, atA, atB, layD, layA, layB]
  omega
 rw [hw]
theorem back_2_1 (n y : Int) (hn : 1 ≤ n ∧ n < 49) (hy0 : 0 ≤ y) (hy1 : y ≤ 67108863) (h : (decF 2 1 n y).2.2.2.2.2 = 0) : ∃ d a b m, decF 2 1 n y = (n, d, a, b, m, 0) ∧ encF 2 1 n d a b m = (n * 67108864 + y, 0) ∧ 0 ≤ d ∧ d ≤ 15 ∧ 0 ≤ a ∧ a ≤ 15 ∧ 0 ≤ b ∧ b ≤ 15 ∧ -2147483648 ≤ m ∧ m ≤ 2147483647 := by
 have e : decF 2 1 n y = decOut n 2 1 (y / 4194304) ((y % 4194304) / 262144) 0 ((y % 4194304) % 262144) := by
  unfold decF
  simp [high, rest, atD, atA, atB, layD, layA, layB]
 rw [e] at h ⊢
 obtain ⟨h1, m, h2, h3, h4⟩ := out_ok h
 simp only [bits, layN, List.getD_cons_succ, List.getD_cons_zero] at h1 h4
 refine ⟨_, _, _, m, h2, ?_, by omega, by omega, by omega, by omega, by omega, by omega, by omega, by omega⟩
 unfold encF
 rw [if_neg (show ¬ (badAt (atD 2) (y / 4194304) || badAt (atA 2) ((y % 4194304) / 262144) || badAt (atB 2) 0) = true by simp [badAt, atD, atA, atB, layD, layA, layB]; try omega), if_pos h3]
 have hw : wordF 2 n (y / 4194304) ((y % 4194304) / 262144) 0 m = n * 67108864 + y := by
  simp [wordF, place, bits, layN, atD, atA, atB, layD, layA, layB]
  omega
 rw [hw]
theorem back_2_2 (n y : Int) (hn : 1 ≤ n ∧ n < 49) (hy0 : 0 ≤ y) (hy1 : y ≤ 67108863) (h : (decF 2 2 n y).2.2.2.2.2 = 0) : ∃ d a b m, decF 2 2 n y = (n, d, a, b, m, 0) ∧ encF 2 2 n d a b m = (n * 67108864 + y, 0) ∧ 0 ≤ d ∧ d ≤ 15 ∧ 0 ≤ a ∧ a ≤ 15 ∧ 0 ≤ b ∧ b ≤ 15 ∧ -2147483648 ≤ m ∧ m ≤ 2147483647 := by
 have e : decF 2 2 n y = decOut n 2 2 (y / 4194304) ((y % 4194304) / 262144) 0 ((y % 4194304) % 262144) := by
  unfold decF
  simp [high, rest, atD, atA, atB, layD, layA, layB]
 rw [e] at h ⊢
 obtain ⟨h1, m, h2, h3, h4⟩ := out_ok h
 simp only [bits, layN, List.getD_cons_succ, List.getD_cons_zero] at h1 h4
 refine ⟨_, _, _, m, h2, ?_, by omega, by omega, by omega, by omega, by omega, by omega, by omega, by omega⟩
 unfold encF
 rw [if_neg (show ¬ (badAt (atD 2) (y / 4194304) || badAt (atA 2) ((y % 4194304) / 262144) || badAt (atB 2) 0) = true by simp [badAt, atD, atA, atB, layD, layA, layB]; try omega), if_pos h3]
 have hw : wordF 2 n (y / 4194304) ((y % 4194304) / 262144) 0 m = n * 67108864 + y := by
  simp [wordF, place, bits, layN, atD, atA, atB, layD, layA, layB]
  omega
 rw [hw]
theorem back_2_3 (n y : Int) (hn : 1 ≤ n ∧ n < 49) (hy0 : 0 ≤ y) (hy1 : y ≤ 67108863) (h : (decF 2 3 n y).2.2.2.2.2 = 0) : ∃ d a b m, decF 2 3 n y = (n, d, a, b, m, 0) ∧ encF 2 3 n d a b m = (n * 67108864 + y, 0) ∧ 0 ≤ d ∧ d ≤ 15 ∧ 0 ≤ a ∧ a ≤ 15 ∧ 0 ≤ b ∧ b ≤ 15 ∧ -2147483648 ≤ m ∧ m ≤ 2147483647 := by
 have e : decF 2 3 n y = decOut n 2 3 (y / 4194304) ((y % 4194304) / 262144) 0 ((y % 4194304) % 262144) := by
  unfold decF
  simp [high, rest, atD, atA, atB, layD, layA, layB]
 rw [e] at h ⊢
 obtain ⟨h1, m, h2, h3, h4⟩ := out_ok h
 simp only [bits, layN, List.getD_cons_succ, List.getD_cons_zero] at h1 h4
 refine ⟨_, _, _, m, h2, ?_, by omega, by omega, by omega, by omega, by omega, by omega, by omega, by omega⟩
 unfold encF
 rw [if_neg (show ¬ (badAt (atD 2) (y / 4194304) || badAt (atA 2) ((y % 4194304) / 262144) || badAt (atB 2) 0) = true by simp [badAt, atD, atA, atB, layD, layA, layB]; try omega), if_pos h3]
 have hw : wordF 2 n (y / 4194304) ((y % 4194304) / 262144) 0 m = n * 67108864 + y := by
  simp [wordF, place, bits, layN, atD, atA, atB, layD, layA, layB]
  omega
 rw [hw]
theorem back_3_1 (n y : Int) (hn : 1 ≤ n ∧ n < 49) (hy0 : 0 ≤ y) (hy1 : y ≤ 67108863) (h : (decF 3 1 n y).2.2.2.2.2 = 0) : ∃ d a b m, decF 3 1 n y = (n, d, a, b, m, 0) ∧ encF 3 1 n d a b m = (n * 67108864 + y, 0) ∧ 0 ≤ d ∧ d ≤ 15 ∧ 0 ≤ a ∧ a ≤ 15 ∧ 0 ≤ b ∧ b ≤ 15 ∧ -2147483648 ≤ m ∧ m ≤ 2147483647 := by
 have e : decF 3 1 n y = decOut n 3 1 0 (y / 4194304) ((y % 4194304) / 262144) ((y % 4194304) % 262144) := by
  unfold decF
  simp [high, rest, atD, atA, atB, layD, layA, layB]
 rw [e] at h ⊢
 obtain ⟨h1, m, h2, h3, h4⟩ := out_ok h
 simp only [bits, layN, List.getD_cons_succ, List.getD_cons_zero] at h1 h4
 refine ⟨_, _, _, m, h2, ?_, by omega, by omega, by omega, by omega, by omega, by omega, by omega, by omega⟩
 unfold encF
 rw [if_neg (show ¬ (badAt (atD 3) 0 || badAt (atA 3) (y / 4194304) || badAt (atB 3) ((y % 4194304) / 262144)) = true by simp [badAt, atD, atA, atB, layD, layA, layB]; try omega), if_pos h3]
 have hw : wordF 3 n 0 (y / 4194304) ((y % 4194304) / 262144) m = n * 67108864 + y := by
  simp [wordF, place, bits, layN, atD, atA, atB, layD, layA, layB]
  omega
 rw [hw]
theorem back_4_1 (n y : Int) (hn : 1 ≤ n ∧ n < 49) (hy0 : 0 ≤ y) (hy1 : y ≤ 67108863) (h : (decF 4 1 n y).2.2.2.2.2 = 0) : ∃ d a b m, decF 4 1 n y = (n, d, a, b, m, 0) ∧ encF 4 1 n d a b m = (n * 67108864 + y, 0) ∧ 0 ≤ d ∧ d ≤ 15 ∧ 0 ≤ a ∧ a ≤ 15 ∧ 0 ≤ b ∧ b ≤ 15 ∧ -2147483648 ≤ m ∧ m ≤ 2147483647 := by
 have e : decF 4 1 n y = decOut n 4 1 (y / 4194304) 0 0 (y % 4194304) := by
  unfold decF
  simp [high, rest, atD, atA, atB, layD, layA, layB]
 rw [e] at h ⊢
 obtain ⟨h1, m, h2, h3, h4⟩ := out_ok h
 simp only [bits, layN, List.getD_cons_succ, List.getD_cons_zero] at h1 h4
 refine ⟨_, _, _, m, h2, ?_, by omega, by omega, by omega, by omega, by omega, by omega, by omega, by omega⟩
 unfold encF
 rw [if_neg (show ¬ (badAt (atD 4) (y / 4194304) || badAt (atA 4) 0 || badAt (atB 4) 0) = true by simp [badAt, atD, atA, atB, layD, layA, layB]; try omega), if_pos h3]
 have hw : wordF 4 n (y / 4194304) 0 0 m = n * 67108864 + y := by
  simp [wordF, place, bits, layN, atD, atA, atB, layD, layA, layB]
  omega
 rw [hw]
theorem back_4_2 (n y : Int) (hn : 1 ≤ n ∧ n < 49) (hy0 : 0 ≤ y) (hy1 : y ≤ 67108863) (h : (decF 4 2 n y).2.2.2.2.2 = 0) : ∃ d a b m, decF 4 2 n y = (n, d, a, b, m, 0) ∧ encF 4 2 n d a b m = (n * 67108864 + y, 0) ∧ 0 ≤ d ∧ d ≤ 15 ∧ 0 ≤ a ∧ a ≤ 15 ∧ 0 ≤ b ∧ b ≤ 15 ∧ -2147483648 ≤ m ∧ m ≤ 2147483647 := by
 have e : decF 4 2 n y = decOut n 4 2 (y / 4194304) 0 0 (y % 4194304) := by
  unfold decF
  simp [high, rest, atD, atA, atB, layD, layA, layB]
 rw [e] at h ⊢
 obtain ⟨h1, m, h2, h3, h4⟩ := out_ok h
 simp only [bits, layN, List.getD_cons_succ, List.getD_cons_zero] at h1 h4
 refine ⟨_, _, _, m, h2, ?_, by omega, by omega, by omega, by omega, by omega, by omega, by omega, by omega⟩
 unfold encF
 rw [if_neg (show ¬ (badAt (atD 4) (y / 4194304) || badAt (atA 4) 0 || badAt (atB 4) 0) = true by simp [badAt, atD, atA, atB, layD, layA, layB]; try omega), if_pos h3]
 have hw : wordF 4 n (y / 4194304) 0 0 m = n * 67108864 + y := by
  simp [wordF, place, bits, layN, atD, atA, atB, layD, layA, layB]
  omega
 rw [hw]
theorem back_5_0 (n y : Int) (hn : 1 ≤ n ∧ n < 49) (hy0 : 0 ≤ y) (hy1 : y ≤ 67108863) (h : (decF 5 0 n y).2.2.2.2.2 = 0) : ∃ d a b m, decF 5 0 n y = (n, d, a, b, m, 0) ∧ encF 5 0 n d a b m = (n * 67108864 + y, 0) ∧ 0 ≤ d ∧ d ≤ 15 ∧ 0 ≤ a ∧ a ≤ 15 ∧ 0 ≤ b ∧ b ≤ 15 ∧ -2147483648 ≤ m ∧ m ≤ 2147483647 := by
 have e : decF 5 0 n y = decOut n 5 0 (y / 4194304) 0 0 (y % 4194304) := by
  unfold decF
  simp [high, rest, atD, atA, atB, layD, layA, layB]
 rw [e] at h ⊢
 obtain ⟨h1, m, h2, h3, h4⟩ := out_ok h
 simp only [bits, layN, List.getD_cons_succ, List.getD_cons_zero] at h1 h4
 refine ⟨_, _, _, m, h2, ?_, by omega, by omega, by omega, by omega, by omega, by omega, by omega, by omega⟩
 unfold encF
 rw [if_neg (show ¬ (badAt (atD 5) (y / 4194304) || badAt (atA 5) 0 || badAt (atB 5) 0) = true by simp [badAt, atD, atA, atB, layD, layA, layB]; try omega), if_pos h3]
 have hw : wordF 5 n (y / 4194304) 0 0 m = n * 67108864 + y := by
  simp [wordF, place, bits, layN, atD, atA, atB, layD, layA, layB]
  omega
 rw [hw]
theorem back_6_0 (n y : Int) (hn : 1 ≤ n ∧ n < 49) (hy0 : 0 ≤ y) (hy1 : y ≤ 67108863) (h : (decF 6 0 n y).2.2.2.2.2 = 0) : ∃ d a b m, decF 6 0 n y = (n, d, a, b, m, 0) ∧ encF 6 0 n d a b m = (n * 67108864 + y, 0) ∧ 0 ≤ d ∧ d ≤ 15 ∧ 0 ≤ a ∧ a ≤ 15 ∧ 0 ≤ b ∧ b ≤ 15 ∧ -2147483648 ≤ m ∧ m ≤ 2147483647 := by
 have e : decF 6 0 n y = decOut n 6 0 0 (y / 4194304) 0 (y % 4194304) := by
  unfold decF
  simp [high, rest, atD, atA, atB, layD, layA, layB]
 rw [e] at h ⊢
 obtain ⟨h1, m, h2, h3, h4⟩ := out_ok h
 simp only [bits, layN, List.getD_cons_succ, List.getD_cons_zero] at h1 h4
 refine ⟨_, _, _, m, h2, ?_, by omega, by omega, by omega, by omega, by omega, by omega, by omega, by omega⟩
 unfold encF
 rw [if_neg (show ¬ (badAt (atD 6) 0 || badAt (atA 6) (y / 4194304) || badAt (atB 6) 0) = true by simp [badAt, atD, atA, atB, layD, layA, layB]; try omega), if_pos h3]
 have hw : wordF 6 n 0 (y / 4194304) 0 m = n * 67108864 + y := by
  simp [wordF, place, bits, layN, atD, atA, atB, layD, layA, layB]
  omega
 rw [hw]
theorem back_7_2 (n y : Int) (hn : 1 ≤ n ∧ n < 49) (hy0 : 0 ≤ y) (hy1 : y ≤ 67108863) (h : (decF 7 2 n y).2.2.2.2.2 = 0) : ∃ d a b m, decF 7 2 n y = (n, d, a, b, m, 0) ∧ encF 7 2 n d a b m = (n * 67108864 + y, 0) ∧ 0 ≤ d ∧ d ≤ 15 ∧ 0 ≤ a ∧ a ≤ 15 ∧ 0 ≤ b ∧ b ≤ 15 ∧ -2147483648 ≤ m ∧ m ≤ 2147483647 := by
 have e : decF 7 2 n y = decOut n 7 2 0 0 0 y := by
  unfold decF
  simp [high, rest, atD, atA, atB, layD, layA, layB]
 rw [e] at h ⊢
 obtain ⟨h1, m, h2, h3, h4⟩ := out_ok h
 simp only [bits, layN, List.getD_cons_succ, List.getD_cons_zero] at h1 h4
 refine ⟨_, _, _, m, h2, ?_, by omega, by omega, by omega, by omega, by omega, by omega, by omega, by omega⟩
 unfold encF
 rw [if_neg (show ¬ (badAt (atD 7) 0 || badAt (atA 7) 0 || badAt (atB 7) 0) = true by simp [badAt, atD, atA, atB, layD, layA, layB]; try omega), if_pos h3]
 have hw : wordF 7 n 0 0 0 m = n * 67108864 + y := by
  simp [wordF, place, bits, layN, atD, atA, atB, layD, layA, layB]
  omega
 rw [hw]
theorem back_8_0 (n y : Int) (hn : 1 ≤ n ∧ n < 49) (hy0 : 0 ≤ y) (hy1 : y ≤ 67108863) (h : (decF 8 0 n y).2.2.2.2.2 = 0) : ∃ d a b m, decF 8 0 n y = (n, d, a, b, m, 0) ∧ encF 8 0 n d a b m = (n * 67108864 + y, 0) ∧ 0 ≤ d ∧ d ≤ 15 ∧ 0 ≤ a ∧ a ≤ 15 ∧ 0 ≤ b ∧ b ≤ 15 ∧ -2147483648 ≤ m ∧ m ≤ 2147483647 := by
 have e : decF 8 0 n y = decOut n 8 0 0 0 0 y := by
  unfold decF
  simp [high, rest, atD, atA, atB, layD, layA, layB]
 rw [e] at h ⊢
 obtain ⟨h1, m, h2, h3, h4⟩ := out_ok h
 simp only [bits, layN, List.getD_cons_succ, List.getD_cons_zero] at h1 h4
 refine ⟨_, _, _, m, h2, ?_, by omega, by omega, by omega, by omega, by omega, by omega, by omega, by omega⟩
 unfold encF
 rw [if_neg (show ¬ (badAt (atD 8) 0 || badAt (atA 8) 0 || badAt (atB 8) 0) = true by simp [badAt, atD, atA, atB, layD, layA, layB]; try omega), if_pos h3]
 have hw : wordF 8 n 0 0 0 m = n * 67108864 + y := by
  simp [wordF, place, bits, layN, atD, atA, atB, layD, layA, layB]
  omega
 rw [hw]
theorem enc_dec {x : Int} (h0 : 0 ≤ x) (h1 : x ≤ 4294967295) (h : (dec x).2.2.2.2.2 = 0) : ∃ op d a b m, dec x = (op, d, a, b, m, 0) ∧ enc op d a b m = (x, 0) ∧ 1 ≤ op ∧ op < 49 ∧ 0 ≤ d ∧ d ≤ 15 ∧ 0 ≤ a ∧ a ≤ 15 ∧ 0 ≤ b ∧ b ≤ 15 ∧ -2147483648 ≤ m ∧ m ≤ 2147483647 := by
 unfold dec at h ⊢
 by_cases ho : x / 67108864 < 1 ∨ 49 ≤ x / 67108864
 · rw [if_pos ho] at h; exact absurd h (by decide)
 · rw [if_neg ho] at h ⊢
   obtain ⟨n, hn⟩ : ∃ n : Nat, x / 67108864 = (n : Int) := ⟨(x / 67108864).toNat, by omega⟩
   rw [hn] at h ⊢
   simp only [Int.toNat_natCast] at h ⊢
   have hc := combos ⟨n, by omega⟩ (by simp only; omega)
   simp only at hc
   have hx : (n : Int) * 67108864 + x % 67108864 = x := by omega
   have key : (∃ d a b m, decF (formOf n) (numOf n) (n : Int) (x % 67108864) = ((n : Int), d, a, b, m, 0) ∧ encF (formOf n) (numOf n) (n : Int) d a b m = ((n : Int) * 67108864 + x % 67108864, 0) ∧ 0 ≤ d ∧ d ≤ 15 ∧ 0 ≤ a ∧ a ≤ 15 ∧ 0 ≤ b ∧ b ≤ 15 ∧ -2147483648 ≤ m ∧ m ≤ 2147483647) := by
    rcases hc with ⟨e1, e2⟩ | ⟨e1, e2⟩ | ⟨e1, e2⟩ | ⟨e1, e2⟩ | ⟨e1, e2⟩ | ⟨e1, e2⟩ | ⟨e1, e2⟩ | ⟨e1, e2⟩ | ⟨e1, e2⟩ | ⟨e1, e2⟩ | ⟨e1, e2⟩
    · rw [e1, e2] at h ⊢; exact back_1_0 _ _ (by omega) (by omega) (by omega) h
    · rw [e1, e2] at h ⊢; exact back_2_1 _ _ (by omega) (by omega) (by omega) h
    · rw [e1, e2] at h ⊢; exact back_2_2 _ _ (by omega) (by omega) (by omega) h
    · rw [e1, e2] at h ⊢; exact back_2_3 _ _ (by omega) (by omega) (by omega) h
    · rw [e1, e2] at h ⊢; exact back_3_1 _ _ (by omega) (by omega) (by omega) h
    · rw [e1, e2] at h ⊢; exact back_4_1 _ _ (by omega) (by omega) (by omega) h
    · rw [e1, e2] at h ⊢; exact back_4_2 _ _ (by omega) (by omega) (by omega) h
    · rw [e1, e2] at h ⊢; exact back_5_0 _ _ (by omega) (by omega) (by omega) h
    · rw [e1, e2] at h ⊢; exact back_6_0 _ _ (by omega) (by omega) (by omega) h
    · rw [e1, e2] at h ⊢; exact back_7_2 _ _ (by omega) (by omega) (by omega) h
    · rw [e1, e2] at h ⊢; exact back_8_0 _ _ (by omega) (by omega) (by omega) h
   obtain ⟨d, a, b, m, k1, k2, k3⟩ := key
   refine ⟨(n : Int), d, a, b, m, k1, ?_, by omega, by omega, k3⟩
   unfold enc
   rw [if_neg (by omega)]
   simp only [Int.toNat_natCast]
   rw [k2, hx]
end Isa
end Go.Proofs.YtabmlbnnhhpaoaaGreatDoor
set_option maxHeartbeats 4000000
set_option maxRecDepth 100000
namespace Go.Proofs.YtabmlbnnhhpaoaaGreatDoor
open Go.RowKit Go.Shelf
namespace Asm
def lineText (x at_ : Nat) : ByteArray :=
 if (Isa.dec x).2.2.2.2.2 = 0 then
  (if goes (Isa.dec x).1 = true then (Isa.text (Isa.dec x).1 (Isa.dec x).2.1 (Isa.dec x).2.2.1 (Isa.dec x).2.2.2.1 (Isa.dec x).2.2.2.2.1 ++ ⟨#[32, 35, 32]⟩) ++ ⟨(Hex.eight (((at_ : Int) + 4 * ((Isa.dec x).2.2.2.2.1 % 4294967296)) % 4294967296).toNat).toArray⟩
   else Isa.text (Isa.dec x).1 (Isa.dec x).2.1 (Isa.dec x).2.2.1 (Isa.dec x).2.2.2.1 (Isa.dec x).2.2.2.2.1)
 else ⟨#[46, 119, 111, 114, 100, 32]⟩ ++ ⟨(Hex.eight x).toArray⟩
end Asm
theorem Hex.eight_len (n : Nat) (hn : n < 4294967296) : (Hex.eight n).length = 10 := by
 have h1 := Hex.text_pos n
 have h2 := Hex.text_len 7 n (by omega)
 simp [Hex.eight]; omega
theorem Isa.text_size (op d a b m : Int) (h1 : 1 ≤ op) (h2 : op < 49) (hd : 0 ≤ d ∧ d ≤ 15) (ha : 0 ≤ a ∧ a ≤ 15) (hb : 0 ≤ b ∧ b ≤ 15) (hm : -2147483648 ≤ m ∧ m ≤ 2147483647) : (Isa.text op d a b m).size ≤ 200 := by
 unfold Isa.text
 split
 · exact Nat.zero_le _
 · have hn := Isa.name_le ⟨op.toNat, by omega⟩
   simp only at hn
   have rd := Isa.reg_size d (by omega) (by omega)
   have ra := Isa.reg_size a (by omega) (by omega)
   have rb := Isa.reg_size b (by omega) (by omega)
   have rm := Isa.num_size m (by omega) (by omega)
   unfold Isa.textF
   split
   · have rx : (Isa.reg (if 0 ≤ Isa.atB (Isa.formOf op.toNat) then b else d)).size ≤ 22 := by split <;> assumption
     simp only [ByteArray.size_append]
     have e1 : (⟨#[32]⟩ : ByteArray).size = 1 := rfl
     have e2 : (⟨#[44, 32]⟩ : ByteArray).size = 2 := rfl
     have e3 : (⟨#[40]⟩ : ByteArray).size = 1 := rfl
     have e4 : (⟨#[41]⟩ : ByteArray).size = 1 := rfl
     omega
   · split
     · omega
     · have hp : ∀ p ∈ Isa.parts (Isa.formOf op.toNat) (Isa.numOf op.toNat) d a b m, p.size ≤ 22 := by
        intro p hp
        unfold Isa.parts at hp
        simp only [List.mem_append] at hp
        rcases hp with ((h | h) | h) | h
        all_goals (split at h <;> simp at h <;> (subst h; omega))
       have hj := Isa.joined_size _ 22 hp
       have hl : (Isa.parts (Isa.formOf op.toNat) (Isa.numOf op.toNat) d a b m).length ≤ 4 := by
        unfold Isa.parts
        simp only [List.length_append]
        have q1 : (if 0 ≤ Isa.atD (Isa.formOf op.toNat) then [Isa.reg d] else []).length ≤ 1 := by split <;> simp
        have q2 : (if 0 ≤ Isa.atA (Isa.formOf op.toNat) then [Isa.reg a] else []).length ≤ 1 := by split <;> simp
        have q3 : (if 0 ≤ Isa.atB (Isa.formOf op.toNat) then [Isa.reg b] else []).length ≤ 1 := by split <;> simp
        have q4 : (if Isa.numOf op.toNat ≠ 0 then [Isa.num m] else []).length ≤ 1 := by split <;> simp
        omega
       simp only [ByteArray.size_append]
       have e1 : (⟨#[32]⟩ : ByteArray).size = 1 := rfl
       omega
theorem line_calls (x at_ : Nat) (hx : x < 4294967296) (ha : at_ < 4294967296) (w : World) (hL : Isa.Laid w) (hH : Hex.Laid w) : Calls Tryz.prog 20 #[.int .u32 (x : Int), .int .u32 (at_ : Int)] w fun e w' => e = .returned (.string (Asm.lineText x at_)) ∧ Below w.heap.size w w' := by
 have hdec := Decode_calls (x : Int) (by omega) (by omega)
 unfold Asm.lineText
 by_cases h0 : (Isa.dec x).2.2.2.2.2 = 0
 · obtain ⟨op, d, a, b, m, hd, henc, h1, h2, g1, g2, g3, g4, g5, g6, g7, g8⟩ := Isa.enc_dec (x := (x : Int)) (by omega) (by omega) h0
   have h3 : (0 ≤ d ∧ d ≤ 15) ∧ (0 ≤ a ∧ a ≤ 15) ∧ (0 ≤ b ∧ b ≤ 15) ∧ (-2147483648 ≤ m ∧ m ≤ 2147483647) := ⟨⟨g1, g2⟩, ⟨g3, g4⟩, ⟨g5, g6⟩, ⟨g7, g8⟩⟩
   rw [hd] at hdec ⊢
   simp only [if_true] at hdec ⊢
   have hts := Isa.text_size op d a b m h1 h2 h3.1 h3.2.1 h3.2.2.1 h3.2.2.2
   have htx := fun W (hW : Isa.Laid W) => Text_calls op d a b m (by omega) (by omega) (by omega) h3.2.2.2 W hW
   obtain ⟨tx, htxe⟩ : ∃ tx, Isa.text op d a b m = tx := ⟨_, rfl⟩
   rw [htxe] at hts htx ⊢
   clear htxe
   have HTX := Lib.hid htx
   clear htx
   have hm0 := h3.2.2.2.1
   have hm1 := h3.2.2.2.2
   clear hd henc
   have hidec := Lib.hid hdec
   clear hdec h0
   obtain ⟨R, hR⟩ : ∃ R : ByteArray, (if Asm.goes op = true then tx ++ ⟨#[32, 35, 32]⟩ ++ ⟨(Hex.eight (((at_ : Int) + 4 * (m % 4294967296)) % 4294967296).toNat).toArray⟩ else tx) = R := ⟨_, rfl⟩
   rw [hR]
   have HR := Lib.hid hR
   clear hR
   go_enter Tryz.func20, Tryz.ntmps20
   go_wp2_with fail
   refine (hidec.out _ hL).mono ?_
   rintro e w1 ⟨rfl, hb1⟩
   clear hidec
   have hH1 := hH.below hb1
   have hL1 := hL.below hb1
   have KX := heap_alloc_new w1 (.cells #[.int .i64 op, .int .u8 d, .int .u8 a, .int .u8 b, .int .i32 m] 96)
   have hBX : Below w1.heap.size w1 (w1.alloc (.cells #[.int .i64 op, .int .u8 d, .int .u8 a, .int .u8 b, .int .i32 m] 96)) := below_alloc' (Below.refl _ _) _
   have HLX := hL1.below hBX
   have HHX := hH1.below hBX
   have HKX := Lib.hid KX
   have HBX := Lib.hid (below_next hb1 hBX)
   clear KX hBX
   go_wp2_with fail
   refine (goes_calls op _).mono ?_
   rintro e w2 ⟨rfl, h9⟩
   rw [h9]
   clear h9
   cases hgo : Asm.goes op with
   | false =>
    obtain rfl : tx = R := by have h := HR.out; rw [hgo] at h; simpa using h
    go_wp2_with fail
    refine (HTX.out _ HLX).mono ?_
    rintro e w3 ⟨rfl, hb3⟩
    go_wp2_with fail
    go_ret
    exact ⟨rfl, below_next HBX.out hb3⟩
   | true =>
    have hR : tx ++ ⟨#[32, 35, 32]⟩ ++ ⟨(Hex.eight (((at_ : Int) + 4 * (m % 4294967296)) % 4294967296).toNat).toArray⟩ = R := by have h := HR.out; rw [hgo] at h; simpa using h
    clear HR
    generalize (w1.alloc (.cells #[.int .i64 op, .int .u8 d, .int .u8 a, .int .u8 b, .int .i32 m] 96)) = W at HKX HBX HLX HHX ⊢
    obtain ⟨d0, d1, d2, d3, d4, gx⟩ : W.cell? ⟨w1.heap.size, 0, none⟩ = some (.int .i64 op) ∧ W.cell? ⟨w1.heap.size, 1, none⟩ = some (.int .u8 d) ∧ W.cell? ⟨w1.heap.size, 2, none⟩ = some (.int .u8 a) ∧ W.cell? ⟨w1.heap.size, 3, none⟩ = some (.int .u8 b) ∧ W.cell? ⟨w1.heap.size, 4, none⟩ = some (.int .i32 m) ∧ w1.heap.size < W.heap.size := ⟨(blk_facts HKX.out).1 0, (blk_facts HKX.out).1 1, (blk_facts HKX.out).1 2, (blk_facts HKX.out).1 3, (blk_facts HKX.out).1 4, blk_size HKX.out⟩
    obtain ⟨M, hM⟩ : ∃ M : Nat, (M : Int) = m % 4294967296 := ⟨(m % 4294967296).toNat, by omega⟩
    have hM1 : M < 4294967296 := by omega
    obtain ⟨Q, hQ⟩ : ∃ Q : Nat, (Q : Int) = ((at_ : Int) + 4 * (m % 4294967296)) % 4294967296 := ⟨(((at_ : Int) + 4 * (m % 4294967296)) % 4294967296).toNat, by omega⟩
    have hQ1 : Q < 4294967296 := by omega
    have k1 : IntKind.u32.wrap m = (M : Int) := by rw [IntKind.wrap_u32]; exact hM.symm
    have k2 : IntKind.u32.wrap (4 * (M : Int)) = ((4 * M % 4294967296 : Nat) : Int) := by rw [IntKind.wrap_u32]; omega
    have k3 : IntKind.u32.wrap ((at_ : Int) + ((4 * M % 4294967296 : Nat) : Int)) = (Q : Int) := by rw [IntKind.wrap_u32]; omega
    obtain ⟨P, hP⟩ : ∃ P : Nat, 4 * M % 4294967296 = P := ⟨_, rfl⟩
    rw [hP] at k2 k3
    have hQe : (((at_ : Int) + 4 * (m % 4294967296)) % 4294967296).toNat = Q := by omega
    rw [hQe] at hR
    clear hQe hQ hM hP
    obtain ⟨et, het⟩ : ∃ et : ByteArray, (⟨(Hex.eight Q).toArray⟩ : ByteArray) = et := ⟨_, rfl⟩
    have hes : et.size ≤ 10 := by rw [← het]; simp [ByteArray.size, Hex.eight_len Q hQ1]
    have hei := fun Y (hY : Hex.Laid Y) => eight_calls Q hQ1 Y hY
    rw [het] at hei hR
    have HR := Lib.hid hR
    clear hR
    have HEI := Lib.hid hei
    clear het hei
    have s1 : ¬ (9223372036854775807 < tx.size + 3) := by omega
    have s2 : ¬ (9223372036854775807 < tx.size + 3 + et.size) := by omega
    go_wp2_with fail
    go_region_held3 (fun w' => w'.cell? ⟨w1.heap.size, 0, none⟩ = some (.int .i64 op) ∧ w'.cell? ⟨w1.heap.size, 1, none⟩ = some (.int .u8 d) ∧ w'.cell? ⟨w1.heap.size, 2, none⟩ = some (.int .u8 a) ∧ w'.cell? ⟨w1.heap.size, 3, none⟩ = some (.int .u8 b) ∧ w'.cell? ⟨w1.heap.size, 4, none⟩ = some (.int .i32 m) ∧ Below W.heap.size W w')
     (first | assumption | exact ⟨d0, d1, d2, d3, d4, below_drewN' (Below.refl _ _) 1⟩ | exact ⟨(hb4.cell (p := ⟨w1.heap.size, 0, none⟩) gx).trans d0, (hb4.cell (p := ⟨w1.heap.size, 1, none⟩) gx).trans d1, (hb4.cell (p := ⟨w1.heap.size, 2, none⟩) gx).trans d2, (hb4.cell (p := ⟨w1.heap.size, 3, none⟩) gx).trans d3, (hb4.cell (p := ⟨w1.heap.size, 4, none⟩) gx).trans d4, hb4⟩)
     ((first | (go_at_call 38; obtain ⟨_, _, _, _, _, hbw⟩ := ‹_ ∧ _ ∧ _ ∧ _ ∧ _ ∧ _›; refine (HTX.out _ (HLX.below hbw)).mono ?_; rintro e w3 ⟨rfl, hb3⟩; have hb4 := below_next hbw hb3) | (go_at_call 30; obtain ⟨_, _, _, _, _, hbw⟩ := ‹_ ∧ _ ∧ _ ∧ _ ∧ _ ∧ _›; refine (HEI.out _ (HHX.below hbw)).mono ?_; rintro e w3 ⟨rfl, hb3⟩; have hb4 := below_next hbw hb3)))
    all_goals
     have hbw := (‹_ ∧ _ ∧ _ ∧ _ ∧ _ ∧ _›).2.2.2.2.2
     go_wp2_with fail
     go_ret
     exact ⟨by rw [← HR.out]; rfl, below_next HBX.out hbw⟩
 · rw [if_neg h0]
   obtain ⟨op, d, a, b, m, er, hd⟩ : ∃ op d a b m er, Isa.dec x = (op, d, a, b, m, er) := ⟨_, _, _, _, _, _, rfl⟩
   rw [hd] at hdec h0
   simp only at h0
   have hne : (er == 0) = false := by simpa using h0
   have hne2 : (er != 0) = true := by simpa using h0
   obtain ⟨et, het⟩ : ∃ et : ByteArray, (⟨(Hex.eight x).toArray⟩ : ByteArray) = et := ⟨_, rfl⟩
   have hes : et.size ≤ 10 := by rw [← het]; simp [ByteArray.size, Hex.eight_len x hx]
   have hei := fun Y (hY : Hex.Laid Y) => eight_calls x hx Y hY
   rw [het] at hei ⊢
   have s1 : ¬ (9223372036854775807 < 6 + et.size) := by omega
   have HEI := Lib.hid hei
   clear het hei hd
   go_enter Tryz.func20, Tryz.ntmps20
   go_wp2_with fail
   refine (hdec _ hL).mono ?_
   rintro e w1 ⟨rfl, hb1⟩
   go_wp2_with fail
   refine (HEI.out _ ?hh).mono ?_
   case hh => exact (hH.below hb1).below (below_alloc' (Below.refl _ _) _)
   rintro e w2 ⟨rfl, hb2⟩
   go_wp2_with fail
   go_ret
   exact ⟨rfl, below_next (below_alloc' hb1 _) hb2⟩
end Go.Proofs.YtabmlbnnhhpaoaaGreatDoor
set_option maxHeartbeats 1500000
set_option maxRecDepth 100000
namespace Go.Proofs.YtabmlbnnhhpaoaaGreatDoor
open Go.RowKit Go.Shelf
namespace Asm
def oneLine (x at_ : Nat) : List UInt8 := [9] ++ (lineText x at_).data.toList ++ [10]
def disBody : Nat → List Nat → List Lab → List UInt8
 | at_, [], ls => (takeAt at_ ls).1
 | at_, x :: ws, ls => (takeAt at_ ls).1 ++ (oneLine x at_ ++ disBody (at_ + 4) ws (takeAt at_ ls).2)
def disHead (o : Nat) : List UInt8 := [46, 111, 114, 103, 32] ++ Hex.eight o ++ [10]
def disText (o : Nat) (ws : List Nat) (ls : List Lab) : List UInt8 := disHead o ++ disBody o ws ls
def dis (o : Nat) (ws : List Nat) (ls : List Lab) : List UInt8 × Int :=
 if sound o ws.length ls = true then (if 20000 < (disText o ws ls).length then ([], 110) else (disText o ws ls, 0)) else ([], 116)
theorem lineText_size (x at_ : Nat) (hx : x < 4294967296) (ha : at_ < 4294967296) : (lineText x at_).size ≤ 220 := by
 unfold lineText
 split
 · rename_i h0
   obtain ⟨op, d, a, b, m, hd, _, h1, h2, g1, g2, g3, g4, g5, g6, g7, g8⟩ := Isa.enc_dec (x := (x : Int)) (by omega) (by omega) h0
   rw [hd]
   have hts := Isa.text_size op d a b m h1 h2 ⟨g1, g2⟩ ⟨g3, g4⟩ ⟨g5, g6⟩ ⟨g7, g8⟩
   simp only
   split
   · have he := Hex.eight_len (((at_ : Int) + 4 * (m % 4294967296)) % 4294967296).toNat (by omega)
     have e1 : (⟨#[32, 35, 32]⟩ : ByteArray).size = 3 := rfl
     have e2 : (⟨(Hex.eight (((at_ : Int) + 4 * (m % 4294967296)) % 4294967296).toNat).toArray⟩ : ByteArray).size = 10 := by simpa [ByteArray.size] using he
     simp only [ByteArray.size_append, e1, e2]
     omega
   · omega
 · have he := Hex.eight_len x hx
   have e1 : (⟨#[46, 119, 111, 114, 100, 32]⟩ : ByteArray).size = 6 := rfl
   have e2 : (⟨(Hex.eight x).toArray⟩ : ByteArray).size = 10 := by simpa [ByteArray.size] using he
   simp only [ByteArray.size_append, e1, e2]
   omega
theorem oneLine_len (x at_ : Nat) (hx : x < 4294967296) (ha : at_ < 4294967296) : (oneLine x at_).length ≤ 222 := by
 have h := lineText_size x at_ hx ha
 have e : (lineText x at_).data.toList.length = (lineText x at_).size := rfl
 unfold oneLine
 rw [List.length_append, List.length_append, e]
 simp only [List.length_cons, List.length_nil]
 omega
theorem nameOk_len {l : List UInt8} (h : nameOk l = true) : l.length ≤ 16 := by
 cases l with
 | nil => simp
 | cons c l => simp [nameOk] at h; simp; omega
theorem labelsOk_len (o t : Nat) : ∀ (ls : List Lab) (seen : List (List UInt8)), labelsOk o t seen ls = true → (labText ls).length ≤ 18 * ls.length
 | [], _, _ => by simp [labText]
 | x :: l, seen, h => by
  unfold labelsOk at h
  simp only [Bool.and_eq_true] at h
  have h1 := nameOk_len h.1
  have h2 := labelsOk_len o t l _ h.2.2.2.2.2
  simp [labText] at h2 ⊢
  omega
theorem takeAt_mem (a : Nat) (x : Lab) : ∀ l : List Lab, x ∈ (takeAt a l).2 → x ∈ l
 | [], h => h
 | y :: l, h => by
  unfold takeAt at h
  split at h
  · exact List.mem_cons_of_mem _ (takeAt_mem a x l h)
  · exact h
theorem Bld.far {n0 bb : Nat} {v : Value} {t : List UInt8} {w w' : World} (hB : Bld n0 bb v t w) (h : Off (fun g => g = bb ∨ v.ownBlock = some g) w w') {g : Nat} {cs : Array Value} {T : TypeId} {fr : Nat × Nat} (hg : w.heap[g]? = some (.cells cs T fr)) (h1 : T ≠ 5) (h2 : T ≠ 85) : w'.heap[g]? = some (.cells cs T fr) :=
 (h.block g (blk_size hg) (fun e => by
  obtain ⟨p, _, _, hk, hr⟩ := hB
  rcases e with e | e
  · rw [e, hk] at hg; cases hg; exact h2 rfl
  · obtain ⟨c, hc⟩ := row_type hr e
    rw [hg] at hc
    cases hc
    exact h1 rfl)).trans hg
def wordCells (x : Nat) : Value := .int .u32 (x : Int)
end Asm
theorem idx_word (g o n cap k : Nat) (hk : k < n) (W : World) : (Instr.indexAt 24 (.slice (some ⟨g, o, none⟩) n cap) (.int .i64 (k : Int))).run Tryz.prog W = .ok (.pointer (some ⟨g, o + k, none⟩)) W := by
 have hs : (sizeOf (Tryz.prog.elem 24)).run Tryz.prog W = .ok 1 W := by kernel_rfl
 rw [run_indexAt_slice (P := Tryz.prog) (w := W) 24 ⟨g, o, none⟩ n cap .i64 (k : Int) (by kernel_rfl), if_pos ⟨by omega, by omega⟩, hs]
 simp [Result.andThen, Addr.add]
theorem dis_calls {Tw Tl : TypeId} (o : Nat) (ws : List Nat) (ls : List Asm.Lab) (wv lv : Value) (w : World) (ho : o < 4294967296) (hws : ∀ x ∈ ws, x < 4294967296) (hwl : ws.length ≤ 140737488355328) (hww : Asm.RowView w Tw wv ws.length (ws.map Asm.wordCells)) (hlv : Asm.RowView w Tl lv ls.length (ls.flatMap Asm.labCells))
 (hls : ∀ x ∈ ls, x.1.length ≤ 9223372036854775806 ∧ x.2 < 4294967296) (hll : ls.length * 24 ≤ 140737488351232) (hL : Isa.Laid w) (hH : Hex.Laid w) :
 Calls Tryz.prog 18 #[.agg #[.int .u32 (o : Int), wv, lv]] w fun e w' => e = .returned (.tuple #[.string ⟨(Asm.dis o ws ls).1.toArray⟩, .int .i64 (Asm.dis o ws ls).2]) ∧ Below w.heap.size w w' := by
 have hmf : ∀ (fn : Fn) (first cap : Array Value) (w : World), (Instr.makeFunc fn first cap).run Tryz.prog w = .ok (.func fn first cap) w := fun _ _ _ _ => rfl
 obtain ⟨pw, cw, rfl⟩ : ∃ p c, wv = .slice p ws.length c := by obtain ⟨p, c, e, _⟩ := hww; exact ⟨p, c, e⟩
 have K0 := heap_alloc_new w (.cells #[.int .u32 (o : Int), .slice pw ws.length cw, lv] 27)
 have B0 : Below w.heap.size w (w.alloc (.cells #[.int .u32 (o : Int), .slice pw ws.length cw, lv] 27)) := below_alloc' (Below.refl _ _) _
 have hS := fun W (hb : Below w.heap.size w W) => sound_calls o ws.length ho hwl pw cw ls lv W (hlv.below hb) (by omega) hls
 obtain ⟨n, hn⟩ : ∃ n, ws.length = n := ⟨_, rfl⟩
 rw [hn] at hS K0 B0 hwl ⊢
 have HS := Lib.hid hS
 have HN := Lib.hid hn
 have HW := Lib.hid hww
 have HLV := Lib.hid hlv
 have HLS := Lib.hid hls
 have HWS := Lib.hid hws
 clear hS hn hww hlv hls hws
 obtain ⟨pl, cl, rfl⟩ : ∃ p c, lv = .slice p ls.length c := by obtain ⟨p, c, e, _⟩ := HLV.out; exact ⟨p, c, e⟩
 obtain ⟨R, hR⟩ : ∃ R, Asm.dis o ws ls = R := ⟨_, rfl⟩
 rw [hR]
 have HR := Lib.hid hR
 clear hR
 obtain ⟨len, hlen⟩ : ∃ len, ls.length = len := ⟨_, rfl⟩
 rw [hlen] at HS K0 B0 hll ⊢
 have HLEN := Lib.hid hlen
 clear hlen
 go_enter Tryz.func18, Tryz.ntmps18
 go_wp2_with fail
 refine (HS.out _ B0).mono ?_
 rintro e w1 ⟨rfl, hb1⟩
 have KB := blk_keep hb1 K0
 have B1 := below_next B0 hb1
 have HB1 := Lib.hid B1
 clear B0 K0 hb1 B1 HS
 cases hs : Asm.sound o n ls with
 | false =>
  have hr : R = ([], 116) := by rw [← HR.out]; unfold Asm.dis; rw [HN.out, hs]; simp
  subst hr
  go_wp2_with fail
  go_ret2
  exact ⟨rfl, HB1.out⟩
 | true =>
  have c0 : w1.cell? ⟨w.heap.size, 0, none⟩ = some (.int .u32 (o : Int)) := (blk_facts KB).1 0
  have z0 := blk_size KB
  have s0 := HB1.out.size
  have hlo : (Asm.labText ls).length ≤ 18 * len := by
   have h := hs
   unfold Asm.sound at h
   simp only [Bool.and_eq_true] at h
   rw [← HLEN.out]
   exact Asm.labelsOk_len _ _ ls [] h.2.2.2.1
  have hn4 : n ≤ 4096 ∧ o + 4 * n ≤ 4294967296 := by
   have h := hs
   unfold Asm.sound at h
   simp only [Bool.and_eq_true, decide_eq_true_eq] at h
   exact ⟨h.2.1, h.2.2.1⟩
  obtain ⟨hn4, hto⟩ := hn4
  have hdis : R = if 20000 < (Asm.disText o ws ls).length then ([], 110) else (Asm.disText o ws ls, 0) := by rw [← HR.out]; unfold Asm.dis; rw [HN.out, hs, if_pos rfl]
  have HDIS := Lib.hid hdis
  clear hdis HR
  obtain ⟨et, het⟩ : ∃ et : ByteArray, (⟨(Hex.eight o).toArray⟩ : ByteArray) = et := ⟨_, rfl⟩
  have hes : et.size ≤ 10 := by rw [← het]; simp [ByteArray.size, Hex.eight_len o ho]
  have hei := fun Y (hY : Hex.Laid Y) => eight_calls o ho Y hY
  rw [het] at hei
  have hcat : ((⟨#[46, 111, 114, 103, 32]⟩ : ByteArray) ++ et) ++ ⟨#[10]⟩ = ⟨(Asm.disHead o).toArray⟩ := by rw [← het]; apply ByteArray.ext; simp [Asm.disHead]
  have hhl : (Asm.disHead o).length = 16 := by simp [Asm.disHead, Hex.eight_len o ho]
  have q1 : ¬ (9223372036854775807 < 5 + et.size) := by omega
  have q2 : ¬ (9223372036854775807 < 5 + et.size + 1) := by omega
  have HEI := Lib.hid hei
  have HCAT := Lib.hid hcat
  clear hei hcat het
  have BB : Below w1.heap.size w1 (w1.alloc (.cells #[.pointer none, .slice none 0 0] 85)) := below_alloc' (Below.refl _ _) _
  have hbl : Asm.Bld w.heap.size w1.heap.size (.slice none 0 0) [] (w1.alloc (.cells #[.pointer none, .slice none 0 0] 85)) :=
   .mk' (.inl rfl) s0 (heap_alloc_new _ _) (World.ownsRow_nil _ _ _ _)
  have HBL := Lib.hid hbl
  have HBB := Lib.hid (below_next HB1.out BB)
  clear hbl BB
  go_wp2_with fail
  refine (HEI.out _ (hH.below HBB.out)).mono ?_
  rintro e w2 ⟨rfl, hb2⟩
  have hB2 := HBL.out.below hb2
  have hbw2 := below_next HBB.out hb2
  have KB2 := blk_keep (below_next (below_alloc' (Below.refl w1.heap.size w1) (.cells #[.pointer none, .slice none 0 0] 85)) hb2) KB
  have hW := bld_write w.heap.size w1.heap.size (.slice none 0 0) [] (Asm.disHead o) w2 hB2 (by simp; omega) hbw2.size
  rw [← HCAT.out] at hW
  have HWR := Lib.hid hW
  have HB2 := Lib.hid hB2
  have HBW2 := Lib.hid hbw2
  have HKB2 := Lib.hid KB2
  clear hW hB2 hbw2 KB2 HBL KB c0 hb2
  go_wp2_with fail
  refine HWR.out.mono ?_
  rintro e w3 ⟨rfl, v3, hB3, ho3⟩
  have KB3 := hB3
  have kb3 := HB2.out.far ho3 HKB2.out (by decide) (by decide)
  have d0 : w3.cell? ⟨w.heap.size, 0, none⟩ = some (.int .u32 (o : Int)) := (blk_facts kb3).1 0
  have d1 : w3.cell? ⟨w.heap.size, 1, none⟩ = some (.slice pw n cw) := (blk_facts kb3).1 1
  have d2 : w3.cell? ⟨w.heap.size, 2, none⟩ = some (.slice pl len cl) := (blk_facts kb3).1 2
  have z3 := blk_size kb3
  have st3 := Asm.Stays.of_write (lb := w3.heap.size) HB2.out ho3
  have hbw3 : Below w.heap.size w w3 := HBW2.out.trans (st3.below s0 (Nat.le_of_lt (by have := HB2.out; obtain ⟨p, _, hb, _⟩ := HB2.out; omega)) HBW2.out.size)
  have BL : Below w3.heap.size w3 (w3.alloc (.cells #[.slice pl len cl] 25)) := below_alloc' (Below.refl _ _) _
  have hblL := hB3.below BL
  have hkL := heap_alloc_new w3 (.cells #[.slice pl len cl] 25)
  have hbwL := below_next hbw3 BL
  have hvL := (Asm.RowLow.of_view HLV.out).below hbwL
  have HB3 := Lib.hid hblL
  have HKL := Lib.hid hkL
  have HBL := Lib.hid hbwL
  have HVL := Lib.hid hvL
  have hlb : w.heap.size ≤ w3.heap.size := hbw3.size
  have hne : w1.heap.size < w3.heap.size := by
   obtain ⟨p, _, _, hk, _⟩ := hB3
   exact blk_size hk
  clear hbw3 BL hblL hkL hbwL hvL KB3 kb3 ho3 st3 hB3
  go_wp2_with fail
  have hrel0 : ∃ (k a : Nat) (t' : List UInt8) (ls' : List Asm.Lab) (v' lv' : Value), Value.int .i64 (0 : Int) = .int .i64 (k : Int) ∧ k ≤ n ∧ Value.int .i64 (o : Int) = .int .i64 (a : Int) ∧ Hid (a = o + 4 * k) ∧ Hid (Asm.disText o ws ls = t' ++ Asm.disBody a (ws.drop k) ls') ∧ Hid (Asm.Bld w.heap.size w1.heap.size v' t' (w3.alloc (.cells #[.slice pl len cl] 25))) ∧ Hid ((w3.alloc (.cells #[.slice pl len cl] 25)).heap[w3.heap.size]? = some (.cells #[lv'] 25 (0, 0))) ∧ Hid (Asm.RowLow w.heap.size (w3.alloc (.cells #[.slice pl len cl] 25)) lv' ls'.length (ls'.flatMap Asm.labCells)) ∧ Hid (t'.length + (Asm.labText ls').length + 300 * (n - k) ≤ 16 + 18 * len + 300 * n) ∧ Hid (∀ x ∈ ls', x.2 < 4294967296) ∧ Hid (Asm.Stays w.heap.size w1.heap.size w3.heap.size (w3.alloc (.cells #[.slice pl len cl] 25)) (w3.alloc (.cells #[.slice pl len cl] 25))) :=
   ⟨0, o, Asm.disHead o, ls, v3, _, rfl, Nat.zero_le _, rfl, Lib.hid (by omega), Lib.hid rfl, by have h := HB3.out; exact Lib.hid h, HKL, by rw [← HLEN.out] at HVL ⊢; exact HVL, Lib.hid (by rw [hhl]; omega), Lib.hid (fun x hx => (HLS.out x hx).2), Lib.hid (Asm.Stays.refl _ _ _ _)⟩
  have HREL := Lib.hid hrel0
  clear hrel0 HB3 HKL HVL
  generalize hWW : (w3.alloc (.cells #[.slice pl len cl] 25)) = W at HREL HBL ⊢
  clear hWW
  obtain ⟨bb, hbb⟩ : ∃ bb, w1.heap.size = bb := ⟨_, rfl⟩
  obtain ⟨lb, hlbe⟩ : ∃ lb, w3.heap.size = lb := ⟨_, rfl⟩
  rw [hbb, hlbe] at HREL
  rw [hbb] at s0 z0 hne ⊢
  rw [hlbe] at hlb hne ⊢
  go_loopw [7, 28] (fun v7 v28 wr => ∃ (k a : Nat) (t' : List UInt8) (ls' : List Asm.Lab) (v' lv' : Value), v28 = .int .i64 (k : Int) ∧ k ≤ n ∧ v7 = .int .i64 (a : Int) ∧ Hid (a = o + 4 * k) ∧ Hid (Asm.disText o ws ls = t' ++ Asm.disBody a (ws.drop k) ls') ∧ Hid (Asm.Bld w.heap.size bb v' t' wr) ∧ Hid (wr.heap[lb]? = some (.cells #[lv'] 25 (0, 0))) ∧ Hid (Asm.RowLow w.heap.size wr lv' ls'.length (ls'.flatMap Asm.labCells)) ∧ Hid (t'.length + (Asm.labText ls').length + 300 * (n - k) ≤ 16 + 18 * len + 300 * n) ∧ Hid (∀ x ∈ ls', x.2 < 4294967296) ∧ Hid (Asm.Stays w.heap.size bb lb W wr)) (fun _ v _ => n - (intOf v).toNat)
  case atStart =>
   obtain ⟨k, a, t', ls', v', lv', e1, e2, e3, e4, e5, e6, e7, e8, e9, e10, e11⟩ := HREL.out
   exact ⟨k, a, t', ls', v', lv', e1, e2, e3, e4, e5, e6, e7, e8, e9, e10, e11⟩
  case round =>
   clear HREL
   obtain ⟨k, a, t', ls', v', lv', rfl, hk, rfl, ha, HT, HB, HL, HV, HS, HX, HST⟩ := hrel
   have hbw : Below w.heap.size w wr := HBL.out.trans (HST.out.below s0 hlb HBL.out.size)
   have HBW := Lib.hid hbw
   have hsw := hbw.size
   clear hbw
   have hal : a + 4 * (n - k) ≤ 4294967296 := by have := ha.out; omega
   by_cases hlt : k < n
   · obtain ⟨x, hx⟩ : ∃ x, ws[k]? = some x := ⟨ws[k]'(by have := HN.out; omega), List.getElem?_eq_getElem _⟩
     obtain ⟨g, og, cap, ep, hc1, hc2, hg, hcell⟩ := HW.out.cells (by have := HN.out; omega)
     injection ep with ep1 ep2 ep3
     subst ep1
     subst ep3
     have c0 : wr.cell? ⟨g, og + k, none⟩ = some (.int .u32 (x : Int)) := (HBW.out.cell (p := ⟨g, og + k, none⟩) hg).trans (hcell k _ (by rw [List.getElem?_map, hx]; rfl))
     have hx1 : x < 4294967296 := HWS.out x (List.mem_of_getElem? hx)
     have ix := fun W => idx_word g og n cw k hlt W
     have ha1 : a < 4294967296 := by omega
     have wa : IntKind.u32.wrap (a : Int) = (a : Int) := by rw [IntKind.wrap_u32]; omega
     have hdrop : ws.drop k = x :: ws.drop (k + 1) := by
      obtain ⟨h1, h2⟩ := List.getElem?_eq_some_iff.1 hx
      rw [List.drop_eq_getElem_cons h1, h2]
     have hstep : Asm.disText o ws ls = (t' ++ (Asm.takeAt a ls').1 ++ Asm.oneLine x a) ++ Asm.disBody (a + 4) (ws.drop (k + 1)) (Asm.takeAt a ls').2 := by rw [HT.out, hdrop, Asm.disBody]; simp
     have hlab := dislab_calls w.heap.size bb lb a v' t' ls' lv' wr (by omega) HB.out HL.out HV.out hsw hlb (by have := HS.out; omega) HX.out
     have HSTEP := Lib.hid hstep
     have HLAB := Lib.hid hlab
     have HTL := Lib.hid (Asm.takeAt_len a ls')
     clear hstep hlab hcell hdrop hx
     go_wp2_with fail
     refine HLAB.out.mono ?_
     rintro e w4 ⟨rfl, v4, lv4, hB4, hl4, hv4, st4⟩
     have hbw4 : Below w.heap.size w w4 := HBW.out.trans (st4.below s0 hlb hsw)
     have hline := line_calls x a hx1 ha1 w4 (hL.below hbw4) (hH.below hbw4)
     have htl := Asm.lineText_size x a hx1 ha1
     have HONE : Hid (Asm.oneLine x a = [9] ++ (Asm.lineText x a).data.toList ++ [10]) := Lib.hid rfl
     obtain ⟨tl, htle⟩ : ∃ tl, Asm.lineText x a = tl := ⟨_, rfl⟩
     rw [htle] at hline htl HONE
     have HLINE := Lib.hid hline
     have HB4 := Lib.hid hB4
     have HL4 := Lib.hid hl4
     have HV4 := Lib.hid hv4
     have HST4 := Lib.hid st4
     have HBW4 := Lib.hid hbw4
     clear hline hB4 hl4 hv4 st4 hbw4 htle
     go_wp2_with fail
     refine HLINE.out.mono ?_
     rintro e w5 ⟨rfl, hb5⟩
     have hB5 := HB4.out.below hb5
     have hbw5 := below_next HBW4.out hb5
     have hl5 := blk_keep hb5 HL4.out
     have hv5 := HV4.out.below hb5
     have hlen5 : (t' ++ (Asm.takeAt a ls').1).length + (Asm.oneLine x a).length ≤ 140737488355328 := by
      have h1 := HTL.out
      have h2 := HS.out
      have h3 := Asm.oneLine_len x a hx1 ha1
      simp only [List.length_append]
      omega
     have hcat : ((⟨#[9]⟩ : ByteArray) ++ tl) ++ ⟨#[10]⟩ = ⟨(Asm.oneLine x a).toArray⟩ := by rw [HONE.out]; apply ByteArray.ext; simp
     have hW := bld_write w.heap.size bb v4 (t' ++ (Asm.takeAt a ls').1) (Asm.oneLine x a) w5 hB5 hlen5 hbw5.size
     rw [← hcat] at hW
     have s1 : ¬ (9223372036854775807 < 1 + tl.size) := by omega
     have s2 : ¬ (9223372036854775807 < 1 + tl.size + 1) := by omega
     have HWR := Lib.hid hW
     have HB5 := Lib.hid hB5
     have HL5 := Lib.hid hl5
     have HV5 := Lib.hid hv5
     have HBW5 := Lib.hid hbw5
     have HB5' := Lib.hid hb5
     clear hW hB5 hl5 hv5 hbw5 hcat hlen5 hb5
     go_wp2_with fail
     refine HWR.out.mono ?_
     rintro e w6 ⟨rfl, v6, hB6, ho6⟩
     have hl6 := HB5.out.far ho6 HL5.out (by decide) (by decide)
     have st6 := Asm.Stays.of_write (lb := lb) HB5.out ho6
     have hv6 := HV5.out.stays st6 s0 hlb
     have stA := ((HST.out.trans HST4.out).trans (Asm.Stays.of_below HB5'.out)).trans st6
     have HB6 := Lib.hid hB6
     have HL6 := Lib.hid hl6
     have HV6 := Lib.hid hv6
     have HSTA := Lib.hid stA
     have hw4 : IntKind.i64.wrap ((a : Int) + 4) = ((a + 4 : Nat) : Int) := by rw [show ((a + 4 : Nat) : Int) = (a : Int) + 4 by omega]; exact IntWalk.i64_in _ (by omega)
     clear hB6 ho6 hl6 st6 hv6 stA
     go_wp2_with fail
     go_roundw
     case rel =>
      refine ⟨k + 1, a + 4, _, _, _, _, by go_num, by omega, by go_num, Lib.hid (by have := ha.out; omega), HSTEP, HB6, HL6, HV6, Lib.hid ?_, Lib.hid (fun y hy => HX.out y (Asm.takeAt_mem a y ls' hy)), HSTA⟩
      have h1 := HTL.out
      have h2 := HS.out
      have h3 := Asm.oneLine_len x a hx1 ha1
      simp only [List.length_append]
      omega
     case measure => simp [intOf]; omega
   · obtain rfl : k = n := by omega
     have hd : ws.drop k = [] := List.drop_eq_nil_of_le (by rw [HN.out]; exact Nat.le_refl _)
     have hfin : Asm.disText o ws ls = t' ++ (Asm.takeAt a ls').1 := by rw [HT.out, hd]; rfl
     have hlab := dislab_calls w.heap.size bb lb a v' t' ls' lv' wr (by have := ha.out; omega) HB.out HL.out HV.out hsw hlb (by have := HS.out; omega) HX.out
     have HFIN := Lib.hid hfin
     have HLAB := Lib.hid hlab
     clear hd hfin hlab
     go_wp2_with fail
     refine HLAB.out.mono ?_
     rintro e w4 ⟨rfl, v4, lv4, hB4, hl4, hv4, st4⟩
     have hbw4 : Below w.heap.size w w4 := HBW.out.trans (st4.below s0 hlb hsw)
     rw [← HFIN.out] at hB4
     have hlenc := Tryz.Builder_Len w.heap.size bb _ w4 hB4.isBuilder
     have hstr := fun W (hb : Asm.Bld w.heap.size bb v4 (Asm.disText o ws ls) W) (hs : w.heap.size ≤ W.heap.size) => Tryz.Builder_String_any w.heap.size bb _ W hb.isBuilder hs
     rw [Lib.byteCells_length] at hlenc
     obtain ⟨tx, htx⟩ : ∃ tx, Asm.disText o ws ls = tx := ⟨_, rfl⟩
     rw [htx] at hB4 hlenc hstr HDIS
     have HB4 := Lib.hid hB4
     have HLC := Lib.hid hlenc
     have HSTR := Lib.hid hstr
     have HBW4 := Lib.hid hbw4
     have hs4 := hbw4.size
     clear htx hB4 hlenc hstr hbw4 hl4 hv4 st4 HFIN
     go_wp2_with fail
     refine HLC.out.mono ?_
     rintro e w5 ⟨rfl, h5⟩
     rw [h5]
     clear h5
     by_cases h2 : 20000 < tx.length
     · have hr : R = ([], 110) := by rw [HDIS.out, if_pos h2]
       subst hr
       go_wp2_with fail
       go_ret2
       exact ⟨rfl, HBW4.out⟩
     · have hr : R = (tx, 0) := by rw [HDIS.out, if_neg h2]
       subst hr
       go_wp2_with fail
       refine (HSTR.out _ HB4.out hs4).mono ?_
       rintro e w6 ⟨rfl, hb6⟩
       go_wp2_with fail
       go_ret2
       exact ⟨rfl, HBW4.out.trans hb6⟩
end Go.Proofs.YtabmlbnnhhpaoaaGreatDoor
