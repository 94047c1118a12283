/- Isa.enc and Isa.dec undo each other: plain numbers. -/
import Derived.Test.YtedjkbekhhffeaaDoorIsaTop
import Derived.Test.YtedjkbekhhffeaaDoorIsaDecAll
namespace Go.Proofs.YtedjkbekhhffeaaDoor
set_option linter.unusedSimpArgs false
set_option linter.unusedVariables false
namespace Isa
theorem round_1_0 (n d a b imm : Int) (hd0 : 0 ≤ d) (ha0 : 0 ≤ a) (hb0 : 0 ≤ b) (hd : badAt (atD 1) d = false) (ha : badAt (atA 1) a = false) (hb : badAt (atB 1) b = false) (hf : fits 1 0 imm = true) (hn : 1 ≤ n ∧ n < 49) (hi : -2147483648 ≤ imm ∧ imm ≤ 2147483647) :
    wordF 1 n d a b imm / 67108864 = n ∧ 0 ≤ wordF 1 n d a b imm ∧ wordF 1 n d a b imm ≤ 4294967295 ∧ decF 1 0 n (wordF 1 n d a b imm % 67108864) = (n, d, a, b, imm, 0) := by
  have hd1 := badAt_le hd
  have ha1 := badAt_le ha
  have hb1 := badAt_le hb
  clear hd ha hb
  simp [atD, atA, atB, layD, layA, layB] at hd1 ha1 hb1
  have d1 : d ≤ 15 := by omega
  have a1 : a ≤ 15 := by omega
  have b1 : b ≤ 15 := by omega
  have hr : imm = 0 := by
    simp [fits, bits, layN] at hf
    omega
  have hw : wordF 1 n d a b imm = n * 67108864 + d * 4194304 + a * 262144 + b * 16384 + imm % 1 := by simp [wordF, place, bits, layN, atD, atA, atB, layD, layA, layB]
  rw [hw]
  obtain ⟨m, hm⟩ : ∃ m, imm % 1 = m := ⟨_, rfl⟩
  rw [hm]
  refine ⟨by omega, by omega, by omega, ?_⟩
  have hy : (n * 67108864 + d * 4194304 + a * 262144 + b * 16384 + m) % 67108864 = d * 4194304 + a * 262144 + b * 16384 + m := by omega
  rw [hy]
  have q0 : (d * 4194304 + a * 262144 + b * 16384 + m) / 4194304 = d := by omega
  have s0 : (d * 4194304 + a * 262144 + b * 16384 + m) % 4194304 = a * 262144 + b * 16384 + m := by omega
  have q1 : (a * 262144 + b * 16384 + m) / 262144 = a := by omega
  have s1 : (a * 262144 + b * 16384 + m) % 262144 = b * 16384 + m := by omega
  have q2 : (b * 16384 + m) / 16384 = b := by omega
  have s2 : (b * 16384 + m) % 16384 = m := by omega
  have e : decF 1 0 n (d * 4194304 + a * 262144 + b * 16384 + m) = decOut n 1 0 d a b m := by
    unfold decF
    simp [high, rest, atD, atA, atB, layD, layA, layB, q0, s0, q1, s1, q2, s2]
  rw [e]
  unfold decOut
  rw [if_neg (show ¬ ((2 : Int) ^ bits 1 ≤ m) by simp [bits, layN]; omega)]
  have hm2 : m = imm := by omega
  rw [if_neg (show ¬ (0 = 1 ∧ (2 : Int) ^ (bits 1 - 1) ≤ m) from fun hh => absurd hh.1 (by decide)), hm2, if_pos hf]
theorem round_2_1 (n d a b imm : Int) (hd0 : 0 ≤ d) (ha0 : 0 ≤ a) (hb0 : 0 ≤ b) (hd : badAt (atD 2) d = false) (ha : badAt (atA 2) a = false) (hb : badAt (atB 2) b = false) (hf : fits 2 1 imm = true) (hn : 1 ≤ n ∧ n < 49) (hi : -2147483648 ≤ imm ∧ imm ≤ 2147483647) :
    wordF 2 n d a b imm / 67108864 = n ∧ 0 ≤ wordF 2 n d a b imm ∧ wordF 2 n d a b imm ≤ 4294967295 ∧ decF 2 1 n (wordF 2 n d a b imm % 67108864) = (n, d, a, b, imm, 0) := by
  have hd1 := badAt_le hd
  have ha1 := badAt_le ha
  have hb1 := badAt_le hb
  clear hd ha hb
  simp [atD, atA, atB, layD, layA, layB] at hd1 ha1 hb1
  have d1 : d ≤ 15 := by omega
  have a1 : a ≤ 15 := by omega
  obtain ⟨b1, b2⟩ : b ≤ 15 ∧ b = 0 := by omega
  subst b2
  have hr : -131072 ≤ imm ∧ imm < 131072 := by
    simp [fits, bits, layN] at hf
    omega
  have hw : wordF 2 n d a 0 imm = n * 67108864 + d * 4194304 + a * 262144 + imm % 262144 := by simp [wordF, place, bits, layN, atD, atA, atB, layD, layA, layB]
  rw [hw]
  obtain ⟨m, hm⟩ : ∃ m, imm % 262144 = m := ⟨_, rfl⟩
  rw [hm]
  refine ⟨by omega, by omega, by omega, ?_⟩
  have hy : (n * 67108864 + d * 4194304 + a * 262144 + m) % 67108864 = d * 4194304 + a * 262144 + m := by omega
  rw [hy]
  have q0 : (d * 4194304 + a * 262144 + m) / 4194304 = d := by omega
  have s0 : (d * 4194304 + a * 262144 + m) % 4194304 = a * 262144 + m := by omega
  have q1 : (a * 262144 + m) / 262144 = a := by omega
  have s1 : (a * 262144 + m) % 262144 = m := by omega
  have e : decF 2 1 n (d * 4194304 + a * 262144 + m) = decOut n 2 1 d a 0 m := by
    unfold decF
    simp [high, rest, atD, atA, atB, layD, layA, layB, q0, s0, q1, s1]
  rw [e]
  unfold decOut
  rw [if_neg (show ¬ ((2 : Int) ^ bits 2 ≤ m) by simp [bits, layN]; omega)]
  by_cases hneg : imm < 0
  · have hm2 : m - 2 ^ bits 2 = imm := by simp [bits, layN]; omega
    rw [if_pos (show 1 = 1 ∧ (2 : Int) ^ (bits 2 - 1) ≤ m by simp [bits, layN]; omega), hm2, if_pos hf]
  · have hm2 : m = imm := by omega
    rw [if_neg (show ¬ (1 = 1 ∧ (2 : Int) ^ (bits 2 - 1) ≤ m) by simp [bits, layN]; omega), hm2, if_pos hf]
theorem round_2_2 (n d a b imm : Int) (hd0 : 0 ≤ d) (ha0 : 0 ≤ a) (hb0 : 0 ≤ b) (hd : badAt (atD 2) d = false) (ha : badAt (atA 2) a = false) (hb : badAt (atB 2) b = false) (hf : fits 2 2 imm = true) (hn : 1 ≤ n ∧ n < 49) (hi : -2147483648 ≤ imm ∧ imm ≤ 2147483647) :
    wordF 2 n d a b imm / 67108864 = n ∧ 0 ≤ wordF 2 n d a b imm ∧ wordF 2 n d a b imm ≤ 4294967295 ∧ decF 2 2 n (wordF 2 n d a b imm % 67108864) = (n, d, a, b, imm, 0) := by
  have hd1 := badAt_le hd
  have ha1 := badAt_le ha
  have hb1 := badAt_le hb
  clear hd ha hb
  simp [atD, atA, atB, layD, layA, layB] at hd1 ha1 hb1
  have d1 : d ≤ 15 := by omega
  have a1 : a ≤ 15 := by omega
  obtain ⟨b1, b2⟩ : b ≤ 15 ∧ b = 0 := by omega
  subst b2
  have hr : 0 ≤ imm ∧ imm ≤ 262143 := by
    simp [fits, bits, layN] at hf
    omega
  have hw : wordF 2 n d a 0 imm = n * 67108864 + d * 4194304 + a * 262144 + imm % 262144 := by simp [wordF, place, bits, layN, atD, atA, atB, layD, layA, layB]
  rw [hw]
  obtain ⟨m, hm⟩ : ∃ m, imm % 262144 = m := ⟨_, rfl⟩
  rw [hm]
  refine ⟨by omega, by omega, by omega, ?_⟩
  have hy : (n * 67108864 + d * 4194304 + a * 262144 + m) % 67108864 = d * 4194304 + a * 262144 + m := by omega
  rw [hy]
  have q0 : (d * 4194304 + a * 262144 + m) / 4194304 = d := by omega
  have s0 : (d * 4194304 + a * 262144 + m) % 4194304 = a * 262144 + m := by omega
  have q1 : (a * 262144 + m) / 262144 = a := by omega
  have s1 : (a * 262144 + m) % 262144 = m := by omega
  have e : decF 2 2 n (d * 4194304 + a * 262144 + m) = decOut n 2 2 d a 0 m := by
    unfold decF
    simp [high, rest, atD, atA, atB, layD, layA, layB, q0, s0, q1, s1]
  rw [e]
  unfold decOut
  rw [if_neg (show ¬ ((2 : Int) ^ bits 2 ≤ m) by simp [bits, layN]; omega)]
  have hm2 : m = imm := by omega
  rw [if_neg (show ¬ (2 = 1 ∧ (2 : Int) ^ (bits 2 - 1) ≤ m) from fun hh => absurd hh.1 (by decide)), hm2, if_pos hf]
theorem round_2_3 (n d a b imm : Int) (hd0 : 0 ≤ d) (ha0 : 0 ≤ a) (hb0 : 0 ≤ b) (hd : badAt (atD 2) d = false) (ha : badAt (atA 2) a = false) (hb : badAt (atB 2) b = false) (hf : fits 2 3 imm = true) (hn : 1 ≤ n ∧ n < 49) (hi : -2147483648 ≤ imm ∧ imm ≤ 2147483647) :
    wordF 2 n d a b imm / 67108864 = n ∧ 0 ≤ wordF 2 n d a b imm ∧ wordF 2 n d a b imm ≤ 4294967295 ∧ decF 2 3 n (wordF 2 n d a b imm % 67108864) = (n, d, a, b, imm, 0) := by
  have hd1 := badAt_le hd
  have ha1 := badAt_le ha
  have hb1 := badAt_le hb
  clear hd ha hb
  simp [atD, atA, atB, layD, layA, layB] at hd1 ha1 hb1
  have d1 : d ≤ 15 := by omega
  have a1 : a ≤ 15 := by omega
  obtain ⟨b1, b2⟩ : b ≤ 15 ∧ b = 0 := by omega
  subst b2
  have hr : 0 ≤ imm ∧ imm ≤ 31 := by
    simp [fits, bits, layN] at hf
    omega
  have hw : wordF 2 n d a 0 imm = n * 67108864 + d * 4194304 + a * 262144 + imm % 262144 := by simp [wordF, place, bits, layN, atD, atA, atB, layD, layA, layB]
  rw [hw]
  obtain ⟨m, hm⟩ : ∃ m, imm % 262144 = m := ⟨_, rfl⟩
  rw [hm]
  refine ⟨by omega, by omega, by omega, ?_⟩
  have hy : (n * 67108864 + d * 4194304 + a * 262144 + m) % 67108864 = d * 4194304 + a * 262144 + m := by omega
  rw [hy]
  have q0 : (d * 4194304 + a * 262144 + m) / 4194304 = d := by omega
  have s0 : (d * 4194304 + a * 262144 + m) % 4194304 = a * 262144 + m := by omega
  have q1 : (a * 262144 + m) / 262144 = a := by omega
  have s1 : (a * 262144 + m) % 262144 = m := by omega
  have e : decF 2 3 n (d * 4194304 + a * 262144 + m) = decOut n 2 3 d a 0 m := by
    unfold decF
    simp [high, rest, atD, atA, atB, layD, layA, layB, q0, s0, q1, s1]
  rw [e]
  unfold decOut
  rw [if_neg (show ¬ ((2 : Int) ^ bits 2 ≤ m) by simp [bits, layN]; omega)]
  have hm2 : m = imm := by omega
  rw [if_neg (show ¬ (3 = 1 ∧ (2 : Int) ^ (bits 2 - 1) ≤ m) from fun hh => absurd hh.1 (by decide)), hm2, if_pos hf]
theorem round_3_1 (n d a b imm : Int) (hd0 : 0 ≤ d) (ha0 : 0 ≤ a) (hb0 : 0 ≤ b) (hd : badAt (atD 3) d = false) (ha : badAt (atA 3) a = false) (hb : badAt (atB 3) b = false) (hf : fits 3 1 imm = true) (hn : 1 ≤ n ∧ n < 49) (hi : -2147483648 ≤ imm ∧ imm ≤ 2147483647) :
    wordF 3 n d a b imm / 67108864 = n ∧ 0 ≤ wordF 3 n d a b imm ∧ wordF 3 n d a b imm ≤ 4294967295 ∧ decF 3 1 n (wordF 3 n d a b imm % 67108864) = (n, d, a, b, imm, 0) := by
  have hd1 := badAt_le hd
  have ha1 := badAt_le ha
  have hb1 := badAt_le hb
  clear hd ha hb
  simp [atD, atA, atB, layD, layA, layB] at hd1 ha1 hb1
  obtain ⟨d1, d2⟩ : d ≤ 15 ∧ d = 0 := by omega
  have a1 : a ≤ 15 := by omega
  have b1 : b ≤ 15 := by omega
  subst d2
  have hr : -131072 ≤ imm ∧ imm < 131072 := by
    simp [fits, bits, layN] at hf
    omega
  have hw : wordF 3 n 0 a b imm = n * 67108864 + a * 4194304 + b * 262144 + imm % 262144 := by simp [wordF, place, bits, layN, atD, atA, atB, layD, layA, layB]
  rw [hw]
  obtain ⟨m, hm⟩ : ∃ m, imm % 262144 = m := ⟨_, rfl⟩
  rw [hm]
  refine ⟨by omega, by omega, by omega, ?_⟩
  have hy : (n * 67108864 + a * 4194304 + b * 262144 + m) % 67108864 = a * 4194304 + b * 262144 + m := by omega
  rw [hy]
  have q0 : (a * 4194304 + b * 262144 + m) / 4194304 = a := by omega
  have s0 : (a * 4194304 + b * 262144 + m) % 4194304 = b * 262144 + m := by omega
  have q1 : (b * 262144 + m) / 262144 = b := by omega
  have s1 : (b * 262144 + m) % 262144 = m := by omega
  have e : decF 3 1 n (a * 4194304 + b * 262144 + m) = decOut n 3 1 0 a b m := by
    unfold decF
    simp [high, rest, atD, atA, atB, layD, layA, layB, q0, s0, q1, s1]
  rw [e]
  unfold decOut
  rw [if_neg (show ¬ ((2 : Int) ^ bits 3 ≤ m) by simp [bits, layN]; omega)]
  by_cases hneg : imm < 0
  · have hm2 : m - 2 ^ bits 3 = imm := by simp [bits, layN]; omega
    rw [if_pos (show 1 = 1 ∧ (2 : Int) ^ (bits 3 - 1) ≤ m by simp [bits, layN]; omega), hm2, if_pos hf]
  · have hm2 : m = imm := by omega
    rw [if_neg (show ¬ (1 = 1 ∧ (2 : Int) ^ (bits 3 - 1) ≤ m) by simp [bits, layN]; omega), hm2, if_pos hf]
theorem round_4_1 (n d a b imm : Int) (hd0 : 0 ≤ d) (ha0 : 0 ≤ a) (hb0 : 0 ≤ b) (hd : badAt (atD 4) d = false) (ha : badAt (atA 4) a = false) (hb : badAt (atB 4) b = false) (hf : fits 4 1 imm = true) (hn : 1 ≤ n ∧ n < 49) (hi : -2147483648 ≤ imm ∧ imm ≤ 2147483647) :
    wordF 4 n d a b imm / 67108864 = n ∧ 0 ≤ wordF 4 n d a b imm ∧ wordF 4 n d a b imm ≤ 4294967295 ∧ decF 4 1 n (wordF 4 n d a b imm % 67108864) = (n, d, a, b, imm, 0) := by
  have hd1 := badAt_le hd
  have ha1 := badAt_le ha
  have hb1 := badAt_le hb
  clear hd ha hb
  simp [atD, atA, atB, layD, layA, layB] at hd1 ha1 hb1
  have d1 : d ≤ 15 := by omega
  obtain ⟨a1, a2⟩ : a ≤ 15 ∧ a = 0 := by omega
  obtain ⟨b1, b2⟩ : b ≤ 15 ∧ b = 0 := by omega
  subst a2
  subst b2
  have hr : -2097152 ≤ imm ∧ imm < 2097152 := by
    simp [fits, bits, layN] at hf
    omega
  have hw : wordF 4 n d 0 0 imm = n * 67108864 + d * 4194304 + imm % 4194304 := by simp [wordF, place, bits, layN, atD, atA, atB, layD, layA, layB]
  rw [hw]
  obtain ⟨m, hm⟩ : ∃ m, imm % 4194304 = m := ⟨_, rfl⟩
  rw [hm]
  refine ⟨by omega, by omega, by omega, ?_⟩
  have hy : (n * 67108864 + d * 4194304 + m) % 67108864 = d * 4194304 + m := by omega
  rw [hy]
  have q0 : (d * 4194304 + m) / 4194304 = d := by omega
  have s0 : (d * 4194304 + m) % 4194304 = m := by omega
  have e : decF 4 1 n (d * 4194304 + m) = decOut n 4 1 d 0 0 m := by
    unfold decF
    simp [high, rest, atD, atA, atB, layD, layA, layB, q0, s0]
  rw [e]
  unfold decOut
  rw [if_neg (show ¬ ((2 : Int) ^ bits 4 ≤ m) by simp [bits, layN]; omega)]
  by_cases hneg : imm < 0
  · have hm2 : m - 2 ^ bits 4 = imm := by simp [bits, layN]; omega
    rw [if_pos (show 1 = 1 ∧ (2 : Int) ^ (bits 4 - 1) ≤ m by simp [bits, layN]; omega), hm2, if_pos hf]
  · have hm2 : m = imm := by omega
    rw [if_neg (show ¬ (1 = 1 ∧ (2 : Int) ^ (bits 4 - 1) ≤ m) by simp [bits, layN]; omega), hm2, if_pos hf]
theorem round_4_2 (n d a b imm : Int) (hd0 : 0 ≤ d) (ha0 : 0 ≤ a) (hb0 : 0 ≤ b) (hd : badAt (atD 4) d = false) (ha : badAt (atA 4) a = false) (hb : badAt (atB 4) b = false) (hf : fits 4 2 imm = true) (hn : 1 ≤ n ∧ n < 49) (hi : -2147483648 ≤ imm ∧ imm ≤ 2147483647) :
    wordF 4 n d a b imm / 67108864 = n ∧ 0 ≤ wordF 4 n d a b imm ∧ wordF 4 n d a b imm ≤ 4294967295 ∧ decF 4 2 n (wordF 4 n d a b imm % 67108864) = (n, d, a, b, imm, 0) := by
  have hd1 := badAt_le hd
  have ha1 := badAt_le ha
  have hb1 := badAt_le hb
  clear hd ha hb
  simp [atD, atA, atB, layD, layA, layB] at hd1 ha1 hb1
  have d1 : d ≤ 15 := by omega
  obtain ⟨a1, a2⟩ : a ≤ 15 ∧ a = 0 := by omega
  obtain ⟨b1, b2⟩ : b ≤ 15 ∧ b = 0 := by omega
  subst a2
  subst b2
  have hr : 0 ≤ imm ∧ imm ≤ 262143 := by
    simp [fits, bits, layN] at hf
    omega
  have hw : wordF 4 n d 0 0 imm = n * 67108864 + d * 4194304 + imm % 4194304 := by simp [wordF, place, bits, layN, atD, atA, atB, layD, layA, layB]
  rw [hw]
  obtain ⟨m, hm⟩ : ∃ m, imm % 4194304 = m := ⟨_, rfl⟩
  rw [hm]
  refine ⟨by omega, by omega, by omega, ?_⟩
  have hy : (n * 67108864 + d * 4194304 + m) % 67108864 = d * 4194304 + m := by omega
  rw [hy]
  have q0 : (d * 4194304 + m) / 4194304 = d := by omega
  have s0 : (d * 4194304 + m) % 4194304 = m := by omega
  have e : decF 4 2 n (d * 4194304 + m) = decOut n 4 2 d 0 0 m := by
    unfold decF
    simp [high, rest, atD, atA, atB, layD, layA, layB, q0, s0]
  rw [e]
  unfold decOut
  rw [if_neg (show ¬ ((2 : Int) ^ bits 4 ≤ m) by simp [bits, layN]; omega)]
  have hm2 : m = imm := by omega
  rw [if_neg (show ¬ (2 = 1 ∧ (2 : Int) ^ (bits 4 - 1) ≤ m) from fun hh => absurd hh.1 (by decide)), hm2, if_pos hf]
theorem round_5_0 (n d a b imm : Int) (hd0 : 0 ≤ d) (ha0 : 0 ≤ a) (hb0 : 0 ≤ b) (hd : badAt (atD 5) d = false) (ha : badAt (atA 5) a = false) (hb : badAt (atB 5) b = false) (hf : fits 5 0 imm = true) (hn : 1 ≤ n ∧ n < 49) (hi : -2147483648 ≤ imm ∧ imm ≤ 2147483647) :
    wordF 5 n d a b imm / 67108864 = n ∧ 0 ≤ wordF 5 n d a b imm ∧ wordF 5 n d a b imm ≤ 4294967295 ∧ decF 5 0 n (wordF 5 n d a b imm % 67108864) = (n, d, a, b, imm, 0) := by
  have hd1 := badAt_le hd
  have ha1 := badAt_le ha
  have hb1 := badAt_le hb
  clear hd ha hb
  simp [atD, atA, atB, layD, layA, layB] at hd1 ha1 hb1
  have d1 : d ≤ 15 := by omega
  obtain ⟨a1, a2⟩ : a ≤ 15 ∧ a = 0 := by omega
  obtain ⟨b1, b2⟩ : b ≤ 15 ∧ b = 0 := by omega
  subst a2
  subst b2
  have hr : imm = 0 := by
    simp [fits, bits, layN] at hf
    omega
  have hw : wordF 5 n d 0 0 imm = n * 67108864 + d * 4194304 + imm % 1 := by simp [wordF, place, bits, layN, atD, atA, atB, layD, layA, layB]
  rw [hw]
  obtain ⟨m, hm⟩ : ∃ m, imm % 1 = m := ⟨_, rfl⟩
  rw [hm]
  refine ⟨by omega, by omega, by omega, ?_⟩
  have hy : (n * 67108864 + d * 4194304 + m) % 67108864 = d * 4194304 + m := by omega
  rw [hy]
  have q0 : (d * 4194304 + m) / 4194304 = d := by omega
  have s0 : (d * 4194304 + m) % 4194304 = m := by omega
  have e : decF 5 0 n (d * 4194304 + m) = decOut n 5 0 d 0 0 m := by
    unfold decF
    simp [high, rest, atD, atA, atB, layD, layA, layB, q0, s0]
  rw [e]
  unfold decOut
  rw [if_neg (show ¬ ((2 : Int) ^ bits 5 ≤ m) by simp [bits, layN]; omega)]
  have hm2 : m = imm := by omega
  rw [if_neg (show ¬ (0 = 1 ∧ (2 : Int) ^ (bits 5 - 1) ≤ m) from fun hh => absurd hh.1 (by decide)), hm2, if_pos hf]
theorem round_6_0 (n d a b imm : Int) (hd0 : 0 ≤ d) (ha0 : 0 ≤ a) (hb0 : 0 ≤ b) (hd : badAt (atD 6) d = false) (ha : badAt (atA 6) a = false) (hb : badAt (atB 6) b = false) (hf : fits 6 0 imm = true) (hn : 1 ≤ n ∧ n < 49) (hi : -2147483648 ≤ imm ∧ imm ≤ 2147483647) :
    wordF 6 n d a b imm / 67108864 = n ∧ 0 ≤ wordF 6 n d a b imm ∧ wordF 6 n d a b imm ≤ 4294967295 ∧ decF 6 0 n (wordF 6 n d a b imm % 67108864) = (n, d, a, b, imm, 0) := by
  have hd1 := badAt_le hd
  have ha1 := badAt_le ha
  have hb1 := badAt_le hb
  clear hd ha hb
  simp [atD, atA, atB, layD, layA, layB] at hd1 ha1 hb1
  obtain ⟨d1, d2⟩ : d ≤ 15 ∧ d = 0 := by omega
  have a1 : a ≤ 15 := by omega
  obtain ⟨b1, b2⟩ : b ≤ 15 ∧ b = 0 := by omega
  subst d2
  subst b2
  have hr : imm = 0 := by
    simp [fits, bits, layN] at hf
    omega
  have hw : wordF 6 n 0 a 0 imm = n * 67108864 + a * 4194304 + imm % 1 := by simp [wordF, place, bits, layN, atD, atA, atB, layD, layA, layB]
  rw [hw]
  obtain ⟨m, hm⟩ : ∃ m, imm % 1 = m := ⟨_, rfl⟩
  rw [hm]
  refine ⟨by omega, by omega, by omega, ?_⟩
  have hy : (n * 67108864 + a * 4194304 + m) % 67108864 = a * 4194304 + m := by omega
  rw [hy]
  have q0 : (a * 4194304 + m) / 4194304 = a := by omega
  have s0 : (a * 4194304 + m) % 4194304 = m := by omega
  have e : decF 6 0 n (a * 4194304 + m) = decOut n 6 0 0 a 0 m := by
    unfold decF
    simp [high, rest, atD, atA, atB, layD, layA, layB, q0, s0]
  rw [e]
  unfold decOut
  rw [if_neg (show ¬ ((2 : Int) ^ bits 6 ≤ m) by simp [bits, layN]; omega)]
  have hm2 : m = imm := by omega
  rw [if_neg (show ¬ (0 = 1 ∧ (2 : Int) ^ (bits 6 - 1) ≤ m) from fun hh => absurd hh.1 (by decide)), hm2, if_pos hf]
theorem round_7_2 (n d a b imm : Int) (hd0 : 0 ≤ d) (ha0 : 0 ≤ a) (hb0 : 0 ≤ b) (hd : badAt (atD 7) d = false) (ha : badAt (atA 7) a = false) (hb : badAt (atB 7) b = false) (hf : fits 7 2 imm = true) (hn : 1 ≤ n ∧ n < 49) (hi : -2147483648 ≤ imm ∧ imm ≤ 2147483647) :
    wordF 7 n d a b imm / 67108864 = n ∧ 0 ≤ wordF 7 n d a b imm ∧ wordF 7 n d a b imm ≤ 4294967295 ∧ decF 7 2 n (wordF 7 n d a b imm % 67108864) = (n, d, a, b, imm, 0) := by
  have hd1 := badAt_le hd
  have ha1 := badAt_le ha
  have hb1 := badAt_le hb
  clear hd ha hb
  simp [atD, atA, atB, layD, layA, layB] at hd1 ha1 hb1
  obtain ⟨d1, d2⟩ : d ≤ 15 ∧ d = 0 := by omega
  obtain ⟨a1, a2⟩ : a ≤ 15 ∧ a = 0 := by omega
  obtain ⟨b1, b2⟩ : b ≤ 15 ∧ b = 0 := by omega
  subst d2
  subst a2
  subst b2
  have hr : 0 ≤ imm ∧ imm ≤ 262143 := by
    simp [fits, bits, layN] at hf
    omega
  have hw : wordF 7 n 0 0 0 imm = n * 67108864 + imm % 67108864 := by simp [wordF, place, bits, layN, atD, atA, atB, layD, layA, layB]
  rw [hw]
  obtain ⟨m, hm⟩ : ∃ m, imm % 67108864 = m := ⟨_, rfl⟩
  rw [hm]
  refine ⟨by omega, by omega, by omega, ?_⟩
  have hy : (n * 67108864 + m) % 67108864 = m := by omega
  rw [hy]
  have e : decF 7 2 n (m) = decOut n 7 2 0 0 0 m := by
    unfold decF
    simp [high, rest, atD, atA, atB, layD, layA, layB]
  rw [e]
  unfold decOut
  rw [if_neg (show ¬ ((2 : Int) ^ bits 7 ≤ m) by simp [bits, layN]; omega)]
  have hm2 : m = imm := by omega
  rw [if_neg (show ¬ (2 = 1 ∧ (2 : Int) ^ (bits 7 - 1) ≤ m) from fun hh => absurd hh.1 (by decide)), hm2, if_pos hf]
theorem round_8_0 (n d a b imm : Int) (hd0 : 0 ≤ d) (ha0 : 0 ≤ a) (hb0 : 0 ≤ b) (hd : badAt (atD 8) d = false) (ha : badAt (atA 8) a = false) (hb : badAt (atB 8) b = false) (hf : fits 8 0 imm = true) (hn : 1 ≤ n ∧ n < 49) (hi : -2147483648 ≤ imm ∧ imm ≤ 2147483647) :
    wordF 8 n d a b imm / 67108864 = n ∧ 0 ≤ wordF 8 n d a b imm ∧ wordF 8 n d a b imm ≤ 4294967295 ∧ decF 8 0 n (wordF 8 n d a b imm % 67108864) = (n, d, a, b, imm, 0) := by
  have hd1 := badAt_le hd
  have ha1 := badAt_le ha
  have hb1 := badAt_le hb
  clear hd ha hb
  simp [atD, atA, atB, layD, layA, layB] at hd1 ha1 hb1
  obtain ⟨d1, d2⟩ : d ≤ 15 ∧ d = 0 := by omega
  obtain ⟨a1, a2⟩ : a ≤ 15 ∧ a = 0 := by omega
  obtain ⟨b1, b2⟩ : b ≤ 15 ∧ b = 0 := by omega
  subst d2
  subst a2
  subst b2
  have hr : imm = 0 := by
    simp [fits, bits, layN] at hf
    omega
  have hw : wordF 8 n 0 0 0 imm = n * 67108864 + imm % 1 := by simp [wordF, place, bits, layN, atD, atA, atB, layD, layA, layB]
  rw [hw]
  obtain ⟨m, hm⟩ : ∃ m, imm % 1 = m := ⟨_, rfl⟩
  rw [hm]
  refine ⟨by omega, by omega, by omega, ?_⟩
  have hy : (n * 67108864 + m) % 67108864 = m := by omega
  rw [hy]
  have e : decF 8 0 n (m) = decOut n 8 0 0 0 0 m := by
    unfold decF
    simp [high, rest, atD, atA, atB, layD, layA, layB]
  rw [e]
  unfold decOut
  rw [if_neg (show ¬ ((2 : Int) ^ bits 8 ≤ m) by simp [bits, layN]; omega)]
  have hm2 : m = imm := by omega
  rw [if_neg (show ¬ (0 = 1 ∧ (2 : Int) ^ (bits 8 - 1) ≤ m) from fun hh => absurd hh.1 (by decide)), hm2, if_pos hf]
/-- What Encode wrote, Decode reads. -/
theorem dec_enc {op d a b imm : Int} (hd : 0 ≤ d) (ha : 0 ≤ a) (hb : 0 ≤ b) (hi : -2147483648 ≤ imm ∧ imm ≤ 2147483647) (h : (enc op d a b imm).2 = 0) :
    0 ≤ (enc op d a b imm).1 ∧ (enc op d a b imm).1 ≤ 4294967295 ∧ dec (enc op d a b imm).1 = (op, d, a, b, imm, 0) := by
  obtain ⟨ho, b1, b2, b3, hf, hw⟩ := enc_ok h
  rw [hw]
  obtain ⟨n, rfl⟩ : ∃ n : Nat, op = (n : Int) := ⟨op.toNat, by omega⟩
  simp only [Int.toNat_natCast] at b1 b2 b3 hf ⊢
  have hc := combos ⟨n, by omega⟩ (by simp only; omega)
  simp only at hc
  have key : ∀ w : Int, w / 67108864 = (n : Int) ∧ 0 ≤ w ∧ w ≤ 4294967295 ∧ decF (formOf n) (numOf n) (n : Int) (w % 67108864) = ((n : Int), d, a, b, imm, 0) → 0 ≤ w ∧ w ≤ 4294967295 ∧ dec w = ((n : Int), d, a, b, imm, 0) := by
    intro w ⟨h1, h2, h3, h4⟩
    refine ⟨h2, h3, ?_⟩
    unfold dec
    rw [h1, if_neg (by omega)]
    exact h4
  apply key
  rcases hc with ⟨e1, e2⟩ | ⟨e1, e2⟩ | ⟨e1, e2⟩ | ⟨e1, e2⟩ | ⟨e1, e2⟩ | ⟨e1, e2⟩ | ⟨e1, e2⟩ | ⟨e1, e2⟩ | ⟨e1, e2⟩ | ⟨e1, e2⟩ | ⟨e1, e2⟩
  · rw [e1, e2] at hf; rw [e1] at b1 b2 b3 ⊢; rw [e2]; exact round_1_0 _ d a b imm hd ha hb b1 b2 b3 hf ho hi
  · rw [e1, e2] at hf; rw [e1] at b1 b2 b3 ⊢; rw [e2]; exact round_2_1 _ d a b imm hd ha hb b1 b2 b3 hf ho hi
  · rw [e1, e2] at hf; rw [e1] at b1 b2 b3 ⊢; rw [e2]; exact round_2_2 _ d a b imm hd ha hb b1 b2 b3 hf ho hi
  · rw [e1, e2] at hf; rw [e1] at b1 b2 b3 ⊢; rw [e2]; exact round_2_3 _ d a b imm hd ha hb b1 b2 b3 hf ho hi
  · rw [e1, e2] at hf; rw [e1] at b1 b2 b3 ⊢; rw [e2]; exact round_3_1 _ d a b imm hd ha hb b1 b2 b3 hf ho hi
  · rw [e1, e2] at hf; rw [e1] at b1 b2 b3 ⊢; rw [e2]; exact round_4_1 _ d a b imm hd ha hb b1 b2 b3 hf ho hi
  · rw [e1, e2] at hf; rw [e1] at b1 b2 b3 ⊢; rw [e2]; exact round_4_2 _ d a b imm hd ha hb b1 b2 b3 hf ho hi
  · rw [e1, e2] at hf; rw [e1] at b1 b2 b3 ⊢; rw [e2]; exact round_5_0 _ d a b imm hd ha hb b1 b2 b3 hf ho hi
  · rw [e1, e2] at hf; rw [e1] at b1 b2 b3 ⊢; rw [e2]; exact round_6_0 _ d a b imm hd ha hb b1 b2 b3 hf ho hi
  · rw [e1, e2] at hf; rw [e1] at b1 b2 b3 ⊢; rw [e2]; exact round_7_2 _ d a b imm hd ha hb b1 b2 b3 hf ho hi
  · rw [e1, e2] at hf; rw [e1] at b1 b2 b3 ⊢; rw [e2]; exact round_8_0 _ d a b imm hd ha hb b1 b2 b3 hf ho hi
end Isa
end Go.Proofs.YtedjkbekhhffeaaDoor
