-- PRINTED BY print.sh 35421559b90ae4d0a3588c463048766b98c2df88dd9212a6774a882060cdf62d: not written by this session
import Derived.Test.YtjfkgbpcfcfonaaDoorPEntryAllowsx0
namespace Go.Proofs.YtjfkgbpcfcfonaaDoor.PEntryAllows
open Go.RowKit Go.Proofs.YtjfkgbpcfcfonaaDoorW.PrintWords Go.Proofs.YtjfkgbpcfcfonaaDoorW.PrintLast Go.Proofs.YtjfkgbpcfcfonaaDoorW.PrintMore
attribute [local go_sem] max2_int min2_int max_two min_two max_three min_three max_four min_four   -- for this text's walks alone
set_option linter.unusedVariables false
set_option linter.unusedSimpArgs false

/-! ### entry_pagePerm: function 12 -/
def entry_pagePerm.f (a0 : Int) : Option (Bool) := if (Go.bits .andNot .u8 a0 7) = 0 then (if (Go.bits .and .u8 a0 5) = 0 then (some false) else (if (Go.bits .and .u8 a0 2) = 0 then (some true) else (some ((Go.bits .and .u8 a0 1) != 0)))) else (some false)
set_option maxHeartbeats 8000000 in
set_option maxRecDepth 100000 in
theorem entry_pagePerm.calls (a0 : Int) (r : Bool) (w : World) (h : entry_pagePerm.f a0 = some r) :
    Calls Tryd.prog 12 #[.int .u8 a0] w fun e w' => e = .returned (.bool r) ∧ Drawn0 w w' := by
  have H : (if (Go.bits .andNot .u8 a0 7) = 0 then (if (Go.bits .and .u8 a0 5) = 0 then (some false) else (if (Go.bits .and .u8 a0 2) = 0 then (some true) else (some ((Go.bits .and .u8 a0 1) != 0)))) else (some false)) = some r := h
  clear h
  by_cases c2 : (Go.bits .andNot .u8 a0 7) = 0
  · rw [if_pos c2] at H
    have c2b0 : ((Go.bits .andNot .u8 a0 7) == 0) = true := beq_iff_eq.mpr c2
    have c2b1 : ((Go.bits .andNot .u8 a0 7) != 0) = false := bne_eq_false_iff_eq.mpr c2
    clear c2
    by_cases c3 : (Go.bits .and .u8 a0 5) = 0
    · rw [if_pos c3] at H
      have c3b0 : ((Go.bits .and .u8 a0 5) == 0) = true := beq_iff_eq.mpr c3
      have c3b1 : ((Go.bits .and .u8 a0 5) != 0) = false := bne_eq_false_iff_eq.mpr c3
      clear c3
      obtain rfl := Option.some.inj H
      go_enter Tryd.func12, Tryd.ntmps12
      go_wp2
      go_ret
      exact ⟨by first | rfl | (simp; done) | (simp [*]; done), by repeat (first | exact Drawn0.refl _ | apply Drawn0.step)⟩
    · rw [if_neg c3] at H
      have c3b0 : ((Go.bits .and .u8 a0 5) == 0) = false := beq_eq_false_iff_ne.mpr c3
      have c3b1 : ((Go.bits .and .u8 a0 5) != 0) = true := bne_iff_ne.mpr c3
      by_cases c4 : (Go.bits .and .u8 a0 2) = 0
      · rw [if_pos c4] at H
        have c4b0 : ((Go.bits .and .u8 a0 2) == 0) = true := beq_iff_eq.mpr c4
        have c4b1 : ((Go.bits .and .u8 a0 2) != 0) = false := bne_eq_false_iff_eq.mpr c4
        clear c4
        obtain rfl := Option.some.inj H
        go_enter Tryd.func12, Tryd.ntmps12
        go_wp2
        go_ret
        exact ⟨by first | rfl | (simp; done) | (simp [*]; done), by repeat (first | exact Drawn0.refl _ | apply Drawn0.step)⟩
      · rw [if_neg c4] at H
        have c4b0 : ((Go.bits .and .u8 a0 2) == 0) = false := beq_eq_false_iff_ne.mpr c4
        have c4b1 : ((Go.bits .and .u8 a0 2) != 0) = true := bne_iff_ne.mpr c4
        obtain rfl := Option.some.inj H
        go_enter Tryd.func12, Tryd.ntmps12
        go_wp2
        go_ret
        exact ⟨by first | rfl | (simp; done) | (simp [*]; done), by repeat (first | exact Drawn0.refl _ | apply Drawn0.step)⟩
  · rw [if_neg c2] at H
    have c2b0 : ((Go.bits .andNot .u8 a0 7) == 0) = false := beq_eq_false_iff_ne.mpr c2
    have c2b1 : ((Go.bits .andNot .u8 a0 7) != 0) = true := bne_iff_ne.mpr c2
    obtain rfl := Option.some.inj H
    go_enter Tryd.func12, Tryd.ntmps12
    go_wp2
    go_ret
    exact ⟨by first | rfl | (simp; done) | (simp [*]; done), by repeat (first | exact Drawn0.refl _ | apply Drawn0.step)⟩

end Go.Proofs.YtjfkgbpcfcfonaaDoor.PEntryAllows
