/- What Isa.dec takes, Isa.enc writes again: plain numbers. -/
import Derived.Test.YtedjkbekhhffeaaDoorIsaRound
namespace Go.Proofs.YtedjkbekhhffeaaDoor
set_option linter.unusedSimpArgs false
set_option linter.unusedVariables false
namespace Isa
theorem out_ok {n d a b y : Int} {f nu : Nat} (h : (decOut n f nu d a b y).2.2.2.2.2 = 0) : ¬ (2 ^ bits f ≤ y) ∧ ∃ m, decOut n f nu d a b y = (n, d, a, b, m, 0) ∧ fits f nu m = true ∧ ((nu = 1 ∧ 2 ^ (bits f - 1) ≤ y ∧ m = y - 2 ^ bits f) ∨ (¬ (nu = 1 ∧ 2 ^ (bits f - 1) ≤ y) ∧ m = y)) := by
  unfold decOut at h ⊢
  by_cases h1 : 2 ^ bits f ≤ y
  · rw [if_pos h1] at h; exact absurd h (by decide)
  · rw [if_neg h1] at h ⊢
    refine ⟨h1, ?_⟩
    by_cases h2 : nu = 1 ∧ 2 ^ (bits f - 1) ≤ y
    · rw [if_pos h2] at h ⊢
      by_cases h3 : fits f nu (y - 2 ^ bits f) = true
      · rw [if_pos h3]; exact ⟨_, rfl, h3, .inl ⟨h2.1, h2.2, rfl⟩⟩
      · rw [if_neg h3] at h; exact absurd h (by decide)
    · rw [if_neg h2] at h ⊢
      by_cases h3 : fits f nu y = true
      · rw [if_pos h3]; exact ⟨_, rfl, h3, .inr ⟨h2, rfl⟩⟩
      · rw [if_neg h3] at h; exact absurd h (by decide)
theorem back_1_0 (n y : Int) (hn : 1 ≤ n ∧ n < 49) (hy0 : 0 ≤ y) (hy1 : y ≤ 67108863) (h : (decF 1 0 n y).2.2.2.2.2 = 0) : ∃ d a b m, decF 1 0 n y = (n, d, a, b, m, 0) ∧ encF 1 0 n d a b m = (n * 67108864 + y, 0) ∧ 0 ≤ d ∧ d ≤ 15 ∧ 0 ≤ a ∧ a ≤ 15 ∧ 0 ≤ b ∧ b ≤ 15 ∧ -2147483648 ≤ m ∧ m ≤ 2147483647 := by
  have e : decF 1 0 n y = decOut n 1 0 (y / 4194304) ((y % 4194304) / 262144) (((y % 4194304) % 262144) / 16384) (((y % 4194304) % 262144) % 16384) := by
    unfold decF
    simp [high, rest, atD, atA, atB, layD, layA, layB]
  rw [e] at h ⊢
  obtain ⟨h1, m, h2, h3, h4⟩ := out_ok h
  simp only [bits, layN, List.getD_cons_succ, List.getD_cons_zero] at h1 h4
  refine ⟨_, _, _, m, h2, ?_, by omega, by omega, by omega, by omega, by omega, by omega, by omega, by omega⟩
  unfold encF
  rw [if_neg (show ¬ (badAt (atD 1) (y / 4194304) || badAt (atA 1) ((y % 4194304) / 262144) || badAt (atB 1) (((y % 4194304) % 262144) / 16384)) = true by simp [badAt, atD, atA, atB, layD, layA, layB]; try omega), if_pos h3]
  have hw : wordF 1 n (y / 4194304) ((y % 4194304) / 262144) (((y % 4194304) % 262144) / 16384) m = n * 67108864 + y := by
    simp [wordF, place, bits, layN, atD, atA, atB, layD, layA, layB]
    omega
  rw [hw]
theorem back_2_1 (n y : Int) (hn : 1 ≤ n ∧ n < 49) (hy0 : 0 ≤ y) (hy1 : y ≤ 67108863) (h : (decF 2 1 n y).2.2.2.2.2 = 0) : ∃ d a b m, decF 2 1 n y = (n, d, a, b, m, 0) ∧ encF 2 1 n d a b m = (n * 67108864 + y, 0) ∧ 0 ≤ d ∧ d ≤ 15 ∧ 0 ≤ a ∧ a ≤ 15 ∧ 0 ≤ b ∧ b ≤ 15 ∧ -2147483648 ≤ m ∧ m ≤ 2147483647 := by
  have e : decF 2 1 n y = decOut n 2 1 (y / 4194304) ((y % 4194304) / 262144) 0 ((y % 4194304) % 262144) := by
    unfold decF
    simp [high, rest, atD, atA, atB, layD, layA, layB]
  rw [e] at h ⊢
  obtain ⟨h1, m, h2, h3, h4⟩ := out_ok h
  simp only [bits, layN, List.getD_cons_succ, List.getD_cons_zero] at h1 h4
  refine ⟨_, _, _, m, h2, ?_, by omega, by omega, by omega, by omega, by omega, by omega, by omega, by omega⟩
  unfold encF
  rw [if_neg (show ¬ (badAt (atD 2) (y / 4194304) || badAt (atA 2) ((y % 4194304) / 262144) || badAt (atB 2) 0) = true by simp [badAt, atD, atA, atB, layD, layA, layB]; try omega), if_pos h3]
  have hw : wordF 2 n (y / 4194304) ((y % 4194304) / 262144) 0 m = n * 67108864 + y := by
    simp [wordF, place, bits, layN, atD, atA, atB, layD, layA, layB]
    omega
  rw [hw]
theorem back_2_2 (n y : Int) (hn : 1 ≤ n ∧ n < 49) (hy0 : 0 ≤ y) (hy1 : y ≤ 67108863) (h : (decF 2 2 n y).2.2.2.2.2 = 0) : ∃ d a b m, decF 2 2 n y = (n, d, a, b, m, 0) ∧ encF 2 2 n d a b m = (n * 67108864 + y, 0) ∧ 0 ≤ d ∧ d ≤ 15 ∧ 0 ≤ a ∧ a ≤ 15 ∧ 0 ≤ b ∧ b ≤ 15 ∧ -2147483648 ≤ m ∧ m ≤ 2147483647 := by
  have e : decF 2 2 n y = decOut n 2 2 (y / 4194304) ((y % 4194304) / 262144) 0 ((y % 4194304) % 262144) := by
    unfold decF
    simp [high, rest, atD, atA, atB, layD, layA, layB]
  rw [e] at h ⊢
  obtain ⟨h1, m, h2, h3, h4⟩ := out_ok h
  simp only [bits, layN, List.getD_cons_succ, List.getD_cons_zero] at h1 h4
  refine ⟨_, _, _, m, h2, ?_, by omega, by omega, by omega, by omega, by omega, by omega, by omega, by omega⟩
  unfold encF
  rw [if_neg (show ¬ (badAt (atD 2) (y / 4194304) || badAt (atA 2) ((y % 4194304) / 262144) || badAt (atB 2) 0) = true by simp [badAt, atD, atA, atB, layD, layA, layB]; try omega), if_pos h3]
  have hw : wordF 2 n (y / 4194304) ((y % 4194304) / 262144) 0 m = n * 67108864 + y := by
    simp [wordF, place, bits, layN, atD, atA, atB, layD, layA, layB]
    omega
  rw [hw]
theorem back_2_3 (n y : Int) (hn : 1 ≤ n ∧ n < 49) (hy0 : 0 ≤ y) (hy1 : y ≤ 67108863) (h : (decF 2 3 n y).2.2.2.2.2 = 0) : ∃ d a b m, decF 2 3 n y = (n, d, a, b, m, 0) ∧ encF 2 3 n d a b m = (n * 67108864 + y, 0) ∧ 0 ≤ d ∧ d ≤ 15 ∧ 0 ≤ a ∧ a ≤ 15 ∧ 0 ≤ b ∧ b ≤ 15 ∧ -2147483648 ≤ m ∧ m ≤ 2147483647 := by
  have e : decF 2 3 n y = decOut n 2 3 (y / 4194304) ((y % 4194304) / 262144) 0 ((y % 4194304) % 262144) := by
    unfold decF
    simp [high, rest, atD, atA, atB, layD, layA, layB]
  rw [e] at h ⊢
  obtain ⟨h1, m, h2, h3, h4⟩ := out_ok h
  simp only [bits, layN, List.getD_cons_succ, List.getD_cons_zero] at h1 h4
  refine ⟨_, _, _, m, h2, ?_, by omega, by omega, by omega, by omega, by omega, by omega, by omega, by omega⟩
  unfold encF
  rw [if_neg (show ¬ (badAt (atD 2) (y / 4194304) || badAt (atA 2) ((y % 4194304) / 262144) || badAt (atB 2) 0) = true by simp [badAt, atD, atA, atB, layD, layA, layB]; try omega), if_pos h3]
  have hw : wordF 2 n (y / 4194304) ((y % 4194304) / 262144) 0 m = n * 67108864 + y := by
    simp [wordF, place, bits, layN, atD, atA, atB, layD, layA, layB]
    omega
  rw [hw]
theorem back_3_1 (n y : Int) (hn : 1 ≤ n ∧ n < 49) (hy0 : 0 ≤ y) (hy1 : y ≤ 67108863) (h : (decF 3 1 n y).2.2.2.2.2 = 0) : ∃ d a b m, decF 3 1 n y = (n, d, a, b, m, 0) ∧ encF 3 1 n d a b m = (n * 67108864 + y, 0) ∧ 0 ≤ d ∧ d ≤ 15 ∧ 0 ≤ a ∧ a ≤ 15 ∧ 0 ≤ b ∧ b ≤ 15 ∧ -2147483648 ≤ m ∧ m ≤ 2147483647 := by
  have e : decF 3 1 n y = decOut n 3 1 0 (y / 4194304) ((y % 4194304) / 262144) ((y % 4194304) % 262144) := by
    unfold decF
    simp [high, rest, atD, atA, atB, layD, layA, layB]
  rw [e] at h ⊢
  obtain ⟨h1, m, h2, h3, h4⟩ := out_ok h
  simp only [bits, layN, List.getD_cons_succ, List.getD_cons_zero] at h1 h4
  refine ⟨_, _, _, m, h2, ?_, by omega, by omega, by omega, by omega, by omega, by omega, by omega, by omega⟩
  unfold encF
  rw [if_neg (show ¬ (badAt (atD 3) 0 || badAt (atA 3) (y / 4194304) || badAt (atB 3) ((y % 4194304) / 262144)) = true by simp [badAt, atD, atA, atB, layD, layA, layB]; try omega), if_pos h3]
  have hw : wordF 3 n 0 (y / 4194304) ((y % 4194304) / 262144) m = n * 67108864 + y := by
    simp [wordF, place, bits, layN, atD, atA, atB, layD, layA, layB]
    omega
  rw [hw]
theorem back_4_1 (n y : Int) (hn : 1 ≤ n ∧ n < 49) (hy0 : 0 ≤ y) (hy1 : y ≤ 67108863) (h : (decF 4 1 n y).2.2.2.2.2 = 0) : ∃ d a b m, decF 4 1 n y = (n, d, a, b, m, 0) ∧ encF 4 1 n d a b m = (n * 67108864 + y, 0) ∧ 0 ≤ d ∧ d ≤ 15 ∧ 0 ≤ a ∧ a ≤ 15 ∧ 0 ≤ b ∧ b ≤ 15 ∧ -2147483648 ≤ m ∧ m ≤ 2147483647 := by
  have e : decF 4 1 n y = decOut n 4 1 (y / 4194304) 0 0 (y % 4194304) := by
    unfold decF
    simp [high, rest, atD, atA, atB, layD, layA, layB]
  rw [e] at h ⊢
  obtain ⟨h1, m, h2, h3, h4⟩ := out_ok h
  simp only [bits, layN, List.getD_cons_succ, List.getD_cons_zero] at h1 h4
  refine ⟨_, _, _, m, h2, ?_, by omega, by omega, by omega, by omega, by omega, by omega, by omega, by omega⟩
  unfold encF
  rw [if_neg (show ¬ (badAt (atD 4) (y / 4194304) || badAt (atA 4) 0 || badAt (atB 4) 0) = true by simp [badAt, atD, atA, atB, layD, layA, layB]; try omega), if_pos h3]
  have hw : wordF 4 n (y / 4194304) 0 0 m = n * 67108864 + y := by
    simp [wordF, place, bits, layN, atD, atA, atB, layD, layA, layB]
    omega
  rw [hw]
theorem back_4_2 (n y : Int) (hn : 1 ≤ n ∧ n < 49) (hy0 : 0 ≤ y) (hy1 : y ≤ 67108863) (h : (decF 4 2 n y).2.2.2.2.2 = 0) : ∃ d a b m, decF 4 2 n y = (n, d, a, b, m, 0) ∧ encF 4 2 n d a b m = (n * 67108864 + y, 0) ∧ 0 ≤ d ∧ d ≤ 15 ∧ 0 ≤ a ∧ a ≤ 15 ∧ 0 ≤ b ∧ b ≤ 15 ∧ -2147483648 ≤ m ∧ m ≤ 2147483647 := by
  have e : decF 4 2 n y = decOut n 4 2 (y / 4194304) 0 0 (y % 4194304) := by
    unfold decF
    simp [high, rest, atD, atA, atB, layD, layA, layB]
  rw [e] at h ⊢
  obtain ⟨h1, m, h2, h3, h4⟩ := out_ok h
  simp only [bits, layN, List.getD_cons_succ, List.getD_cons_zero] at h1 h4
  refine ⟨_, _, _, m, h2, ?_, by omega, by omega, by omega, by omega, by omega, by omega, by omega, by omega⟩
  unfold encF
  rw [if_neg (show ¬ (badAt (atD 4) (y / 4194304) || badAt (atA 4) 0 || badAt (atB 4) 0) = true by simp [badAt, atD, atA, atB, layD, layA, layB]; try omega), if_pos h3]
  have hw : wordF 4 n (y / 4194304) 0 0 m = n * 67108864 + y := by
    simp [wordF, place, bits, layN, atD, atA, atB, layD, layA, layB]
    omega
  rw [hw]
theorem back_5_0 (n y : Int) (hn : 1 ≤ n ∧ n < 49) (hy0 : 0 ≤ y) (hy1 : y ≤ 67108863) (h : (decF 5 0 n y).2.2.2.2.2 = 0) : ∃ d a b m, decF 5 0 n y = (n, d, a, b, m, 0) ∧ encF 5 0 n d a b m = (n * 67108864 + y, 0) ∧ 0 ≤ d ∧ d ≤ 15 ∧ 0 ≤ a ∧ a ≤ 15 ∧ 0 ≤ b ∧ b ≤ 15 ∧ -2147483648 ≤ m ∧ m ≤ 2147483647 := by
  have e : decF 5 0 n y = decOut n 5 0 (y / 4194304) 0 0 (y % 4194304) := by
    unfold decF
    simp [high, rest, atD, atA, atB, layD, layA, layB]
  rw [e] at h ⊢
  obtain ⟨h1, m, h2, h3, h4⟩ := out_ok h
  simp only [bits, layN, List.getD_cons_succ, List.getD_cons_zero] at h1 h4
  refine ⟨_, _, _, m, h2, ?_, by omega, by omega, by omega, by omega, by omega, by omega, by omega, by omega⟩
  unfold encF
  rw [if_neg (show ¬ (badAt (atD 5) (y / 4194304) || badAt (atA 5) 0 || badAt (atB 5) 0) = true by simp [badAt, atD, atA, atB, layD, layA, layB]; try omega), if_pos h3]
  have hw : wordF 5 n (y / 4194304) 0 0 m = n * 67108864 + y := by
    simp [wordF, place, bits, layN, atD, atA, atB, layD, layA, layB]
    omega
  rw [hw]
theorem back_6_0 (n y : Int) (hn : 1 ≤ n ∧ n < 49) (hy0 : 0 ≤ y) (hy1 : y ≤ 67108863) (h : (decF 6 0 n y).2.2.2.2.2 = 0) : ∃ d a b m, decF 6 0 n y = (n, d, a, b, m, 0) ∧ encF 6 0 n d a b m = (n * 67108864 + y, 0) ∧ 0 ≤ d ∧ d ≤ 15 ∧ 0 ≤ a ∧ a ≤ 15 ∧ 0 ≤ b ∧ b ≤ 15 ∧ -2147483648 ≤ m ∧ m ≤ 2147483647 := by
  have e : decF 6 0 n y = decOut n 6 0 0 (y / 4194304) 0 (y % 4194304) := by
    unfold decF
    simp [high, rest, atD, atA, atB, layD, layA, layB]
  rw [e] at h ⊢
  obtain ⟨h1, m, h2, h3, h4⟩ := out_ok h
  simp only [bits, layN, List.getD_cons_succ, List.getD_cons_zero] at h1 h4
  refine ⟨_, _, _, m, h2, ?_, by omega, by omega, by omega, by omega, by omega, by omega, by omega, by omega⟩
  unfold encF
  rw [if_neg (show ¬ (badAt (atD 6) 0 || badAt (atA 6) (y / 4194304) || badAt (atB 6) 0) = true by simp [badAt, atD, atA, atB, layD, layA, layB]; try omega), if_pos h3]
  have hw : wordF 6 n 0 (y / 4194304) 0 m = n * 67108864 + y := by
    simp [wordF, place, bits, layN, atD, atA, atB, layD, layA, layB]
    omega
  rw [hw]
theorem back_7_2 (n y : Int) (hn : 1 ≤ n ∧ n < 49) (hy0 : 0 ≤ y) (hy1 : y ≤ 67108863) (h : (decF 7 2 n y).2.2.2.2.2 = 0) : ∃ d a b m, decF 7 2 n y = (n, d, a, b, m, 0) ∧ encF 7 2 n d a b m = (n * 67108864 + y, 0) ∧ 0 ≤ d ∧ d ≤ 15 ∧ 0 ≤ a ∧ a ≤ 15 ∧ 0 ≤ b ∧ b ≤ 15 ∧ -2147483648 ≤ m ∧ m ≤ 2147483647 := by
  have e : decF 7 2 n y = decOut n 7 2 0 0 0 y := by
    unfold decF
    simp [high, rest, atD, atA, atB, layD, layA, layB]
  rw [e] at h ⊢
  obtain ⟨h1, m, h2, h3, h4⟩ := out_ok h
  simp only [bits, layN, List.getD_cons_succ, List.getD_cons_zero] at h1 h4
  refine ⟨_, _, _, m, h2, ?_, by omega, by omega, by omega, by omega, by omega, by omega, by omega, by omega⟩
  unfold encF
  rw [if_neg (show ¬ (badAt (atD 7) 0 || badAt (atA 7) 0 || badAt (atB 7) 0) = true by simp [badAt, atD, atA, atB, layD, layA, layB]; try omega), if_pos h3]
  have hw : wordF 7 n 0 0 0 m = n * 67108864 + y := by
    simp [wordF, place, bits, layN, atD, atA, atB, layD, layA, layB]
    omega
  rw [hw]
theorem back_8_0 (n y : Int) (hn : 1 ≤ n ∧ n < 49) (hy0 : 0 ≤ y) (hy1 : y ≤ 67108863) (h : (decF 8 0 n y).2.2.2.2.2 = 0) : ∃ d a b m, decF 8 0 n y = (n, d, a, b, m, 0) ∧ encF 8 0 n d a b m = (n * 67108864 + y, 0) ∧ 0 ≤ d ∧ d ≤ 15 ∧ 0 ≤ a ∧ a ≤ 15 ∧ 0 ≤ b ∧ b ≤ 15 ∧ -2147483648 ≤ m ∧ m ≤ 2147483647 := by
  have e : decF 8 0 n y = decOut n 8 0 0 0 0 y := by
    unfold decF
    simp [high, rest, atD, atA, atB, layD, layA, layB]
  rw [e] at h ⊢
  obtain ⟨h1, m, h2, h3, h4⟩ := out_ok h
  simp only [bits, layN, List.getD_cons_succ, List.getD_cons_zero] at h1 h4
  refine ⟨_, _, _, m, h2, ?_, by omega, by omega, by omega, by omega, by omega, by omega, by omega, by omega⟩
  unfold encF
  rw [if_neg (show ¬ (badAt (atD 8) 0 || badAt (atA 8) 0 || badAt (atB 8) 0) = true by simp [badAt, atD, atA, atB, layD, layA, layB]; try omega), if_pos h3]
  have hw : wordF 8 n 0 0 0 m = n * 67108864 + y := by
    simp [wordF, place, bits, layN, atD, atA, atB, layD, layA, layB]
    omega
  rw [hw]
/-- What Decode takes, Encode writes again. -/
theorem enc_dec {x : Int} (h0 : 0 ≤ x) (h1 : x ≤ 4294967295) (h : (dec x).2.2.2.2.2 = 0) : ∃ op d a b m, dec x = (op, d, a, b, m, 0) ∧ enc op d a b m = (x, 0) ∧ 1 ≤ op ∧ op < 49 ∧ 0 ≤ d ∧ d ≤ 15 ∧ 0 ≤ a ∧ a ≤ 15 ∧ 0 ≤ b ∧ b ≤ 15 ∧ -2147483648 ≤ m ∧ m ≤ 2147483647 := by
  unfold dec at h ⊢
  by_cases ho : x / 67108864 < 1 ∨ 49 ≤ x / 67108864
  · rw [if_pos ho] at h; exact absurd h (by decide)
  · rw [if_neg ho] at h ⊢
    obtain ⟨n, hn⟩ : ∃ n : Nat, x / 67108864 = (n : Int) := ⟨(x / 67108864).toNat, by omega⟩
    rw [hn] at h ⊢
    simp only [Int.toNat_natCast] at h ⊢
    have hc := combos ⟨n, by omega⟩ (by simp only; omega)
    simp only at hc
    have hx : (n : Int) * 67108864 + x % 67108864 = x := by omega
    have key : (∃ d a b m, decF (formOf n) (numOf n) (n : Int) (x % 67108864) = ((n : Int), d, a, b, m, 0) ∧ encF (formOf n) (numOf n) (n : Int) d a b m = ((n : Int) * 67108864 + x % 67108864, 0) ∧ 0 ≤ d ∧ d ≤ 15 ∧ 0 ≤ a ∧ a ≤ 15 ∧ 0 ≤ b ∧ b ≤ 15 ∧ -2147483648 ≤ m ∧ m ≤ 2147483647) := by
      rcases hc with ⟨e1, e2⟩ | ⟨e1, e2⟩ | ⟨e1, e2⟩ | ⟨e1, e2⟩ | ⟨e1, e2⟩ | ⟨e1, e2⟩ | ⟨e1, e2⟩ | ⟨e1, e2⟩ | ⟨e1, e2⟩ | ⟨e1, e2⟩ | ⟨e1, e2⟩
      · rw [e1, e2] at h ⊢; exact back_1_0 _ _ (by omega) (by omega) (by omega) h
      · rw [e1, e2] at h ⊢; exact back_2_1 _ _ (by omega) (by omega) (by omega) h
      · rw [e1, e2] at h ⊢; exact back_2_2 _ _ (by omega) (by omega) (by omega) h
      · rw [e1, e2] at h ⊢; exact back_2_3 _ _ (by omega) (by omega) (by omega) h
      · rw [e1, e2] at h ⊢; exact back_3_1 _ _ (by omega) (by omega) (by omega) h
      · rw [e1, e2] at h ⊢; exact back_4_1 _ _ (by omega) (by omega) (by omega) h
      · rw [e1, e2] at h ⊢; exact back_4_2 _ _ (by omega) (by omega) (by omega) h
      · rw [e1, e2] at h ⊢; exact back_5_0 _ _ (by omega) (by omega) (by omega) h
      · rw [e1, e2] at h ⊢; exact back_6_0 _ _ (by omega) (by omega) (by omega) h
      · rw [e1, e2] at h ⊢; exact back_7_2 _ _ (by omega) (by omega) (by omega) h
      · rw [e1, e2] at h ⊢; exact back_8_0 _ _ (by omega) (by omega) (by omega) h
    obtain ⟨d, a, b, m, k1, k2, k3⟩ := key
    refine ⟨(n : Int), d, a, b, m, k1, ?_, by omega, by omega, k3⟩
    unfold enc
    rw [if_neg (by omega)]
    simp only [Int.toNat_natCast]
    rw [k2, hx]
/-- What Decode refuses is nothing. -/
theorem dec_none_zero (x : Int) (h : (dec x).2.2.2.2.2 ≠ 0) : (dec x).1 = 0 ∧ (dec x).2.1 = 0 ∧ (dec x).2.2.1 = 0 ∧ (dec x).2.2.2.1 = 0 ∧ (dec x).2.2.2.2.1 = 0 := by
  unfold dec decF decOut at h ⊢
  split
  · exact ⟨rfl, rfl, rfl, rfl, rfl⟩
  · rename_i h1
    rw [if_neg h1] at h
    split
    · exact ⟨rfl, rfl, rfl, rfl, rfl⟩
    · rename_i h2
      rw [if_neg h2] at h
      split
      · rename_i h3
        rw [if_pos h3] at h
        split
        · rename_i h4
          rw [if_pos h4] at h
          exact absurd rfl h
        · exact ⟨rfl, rfl, rfl, rfl, rfl⟩
      · rename_i h3
        rw [if_neg h3] at h
        split
        · rename_i h4
          rw [if_pos h4] at h
          exact absurd rfl h
        · exact ⟨rfl, rfl, rfl, rfl, rfl⟩
end Isa
end Go.Proofs.YtedjkbekhhffeaaDoor
