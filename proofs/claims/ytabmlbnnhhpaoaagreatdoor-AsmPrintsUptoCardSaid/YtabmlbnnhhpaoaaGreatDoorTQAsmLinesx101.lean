/- What this claim needs of QAsmLinesx101. -/
import Derived.Test.YtabmlbnnhhpaoaaGreatDoorTQAsmLinesx0
import Derived.Test.YtabmlbnnhhpaoaaGreatDoorTQAsmLinesx98
set_option linter.unusedSimpArgs false
set_option linter.unusedVariables false
set_option maxHeartbeats 8000000
set_option maxRecDepth 100000
namespace Go.Proofs.YtabmlbnnhhpaoaaGreatDoor.PAsmLines
open Go.RowKit Go.Proofs.YtabmlbnnhhpaoaaGreatDoorW.PrintWords Go.Proofs.YtabmlbnnhhpaoaaGreatDoorW.PrintLast Go.Proofs.YtabmlbnnhhpaoaaGreatDoorW.PrintMore
attribute [local go_sem] max2_int min2_int max_two min_two max_three min_three max_four min_four   -- for this text's walks alone
def q_takes.f (k : Nat) (a0 : Int) (a1 : Int) (a2 : Int) : Option (Bool) := if a0 = 115 then ((q_power.f k (wrap64 (a1 - 1))).bind fun t169 => (if a2 ≥ (wrap64 (-t169)) then ((q_power.f k (wrap64 (a1 - 1))).bind fun t170 => (some (decide (a2 < t170)))) else (some false))) else (if a0 = 117 then (if a2 ≥ 0 then ((q_power.f k 18).bind fun t171 => (some (decide (a2 < t171)))) else (some false)) else (if a0 = 110 then (if a2 ≥ 0 then (some (decide (a2 < 32))) else (some false)) else (some (a2 == 0))))
theorem q_takes.calls (k : Nat) (a0 : Int) (a1 : Int) (a2 : Int) (r : Bool) (w : World) (h : q_takes.f k a0 a1 a2 = some r) :
 Calls Tryz.prog 77 #[.int .u8 a0, .int .i64 a1, .int .i64 a2] w fun e w' => e = .returned (.bool r) ∧ Drawn0 w w' := by
 have H : (if a0 = 115 then ((q_power.f k (wrap64 (a1 - 1))).bind fun t169 => (if a2 ≥ (wrap64 (-t169)) then ((q_power.f k (wrap64 (a1 - 1))).bind fun t170 => (some (decide (a2 < t170)))) else (some false))) else (if a0 = 117 then (if a2 ≥ 0 then ((q_power.f k 18).bind fun t171 => (some (decide (a2 < t171)))) else (some false)) else (if a0 = 110 then (if a2 ≥ 0 then (some (decide (a2 < 32))) else (some false)) else (some (a2 == 0))))) = some r := h
 clear h
 by_cases c4 : a0 = 115
 · rw [if_pos c4] at H
   have c4b0 : (a0 == 115) = true := beq_iff_eq.mpr c4
   have c4b1 : (a0 != 115) = false := bne_eq_false_iff_eq.mpr c4
   clear c4
   replace H := Option.bind_eq_some_iff.mp H
   obtain ⟨t169, A50, H⟩ := H
   replace H : (if a2 ≥ (wrap64 (-t169)) then ((q_power.f k (wrap64 (a1 - 1))).bind fun t170 => (some (decide (a2 < t170)))) else (some false)) = some r := H
   have A5 := Aside0.mk A50
   clear A50
   by_cases c6 : a2 ≥ (wrap64 (-t169))
   · rw [if_pos c6] at H
     have c6b0 : decide ((wrap64 (-t169)) ≤ a2) = true := decide_eq_true c6
     clear c6
     replace H := Option.bind_eq_some_iff.mp H
     obtain ⟨t170, A70, H⟩ := H
     replace H : (some (decide (a2 < t170))) = some r := H
     have A7 := Aside0.mk A70
     clear A70
     obtain rfl := Option.some.inj H
     go_enter Tryz.func77, Tryz.ntmps77
     go_wp2_with (first | ((with_reducible refine gate_callee (f := 74) rfl ?_); refine goesL_ (some 13) rfl rfl Tryz.func74 (by kernel_rfl) rfl #[.int .i64 (wrap64 (a1 - 1))] rfl (by (try simp only [List.map_toArray, List.map_cons, List.map_nil]); first | done | rfl | (simp only [List.length_drop, List.length_take]; rfl)) ?_; (with_reducible refine (q_power.calls k (wrap64 (a1 - 1)) t169 _ A5.out).mono ?_); rintro e w' ⟨rfl, ⟨nd, rfl⟩⟩; refine ⟨_, rfl, ?_⟩) | (go_at_call 74; (with_reducible refine (q_power.calls k (wrap64 (a1 - 1)) t170 _ A7.out).mono ?_); rintro e w' ⟨rfl, ⟨nd, rfl⟩⟩))
     go_ret
     exact ⟨by first | rfl | (simp; done) | (simp [*]; done), by repeat (first | exact Drawn0.refl _ | apply Drawn0.step)⟩
   · rw [if_neg c6] at H
     have c6b0 : decide ((wrap64 (-t169)) ≤ a2) = false := decide_eq_false c6
     clear c6
     obtain rfl := Option.some.inj H
     go_enter Tryz.func77, Tryz.ntmps77
     go_wp2_with (first | ((with_reducible refine gate_callee (f := 74) rfl ?_); refine goesL_ (some 13) rfl rfl Tryz.func74 (by kernel_rfl) rfl #[.int .i64 (wrap64 (a1 - 1))] rfl (by (try simp only [List.map_toArray, List.map_cons, List.map_nil]); first | done | rfl | (simp only [List.length_drop, List.length_take]; rfl)) ?_; (with_reducible refine (q_power.calls k (wrap64 (a1 - 1)) t169 _ A5.out).mono ?_); rintro e w' ⟨rfl, ⟨nd, rfl⟩⟩; refine ⟨_, rfl, ?_⟩))
     go_ret
     exact ⟨by first | rfl | (simp; done) | (simp [*]; done), by repeat (first | exact Drawn0.refl _ | apply Drawn0.step)⟩
 · rw [if_neg c4] at H
   have c4b0 : (a0 == 115) = false := beq_eq_false_iff_ne.mpr c4
   have c4b1 : (a0 != 115) = true := bne_iff_ne.mpr c4
   by_cases c8 : a0 = 117
   · rw [if_pos c8] at H
     have c8b0 : (a0 == 117) = true := beq_iff_eq.mpr c8
     have c8b1 : (a0 != 117) = false := bne_eq_false_iff_eq.mpr c8
     clear c8
     by_cases c9 : a2 ≥ 0
     · rw [if_pos c9] at H
       have c9b0 : decide (0 ≤ a2) = true := decide_eq_true c9
       clear c9
       replace H := Option.bind_eq_some_iff.mp H
       obtain ⟨t171, A100, H⟩ := H
       replace H : (some (decide (a2 < t171))) = some r := H
       have A10 := Aside0.mk A100
       clear A100
       obtain rfl := Option.some.inj H
       go_enter Tryz.func77, Tryz.ntmps77
       go_wp2_with (first | (go_at_call 74; (with_reducible refine (q_power.calls k 18 t171 _ A10.out).mono ?_); rintro e w' ⟨rfl, ⟨nd, rfl⟩⟩))
       go_ret
       exact ⟨by first | rfl | (simp; done) | (simp [*]; done), by repeat (first | exact Drawn0.refl _ | apply Drawn0.step)⟩
     · rw [if_neg c9] at H
       have c9b0 : decide (0 ≤ a2) = false := decide_eq_false c9
       clear c9
       obtain rfl := Option.some.inj H
       go_enter Tryz.func77, Tryz.ntmps77
       go_wp2
       go_ret
       exact ⟨by first | rfl | (simp; done) | (simp [*]; done), by repeat (first | exact Drawn0.refl _ | apply Drawn0.step)⟩
   · rw [if_neg c8] at H
     have c8b0 : (a0 == 117) = false := beq_eq_false_iff_ne.mpr c8
     have c8b1 : (a0 != 117) = true := bne_iff_ne.mpr c8
     by_cases c11 : a0 = 110
     · rw [if_pos c11] at H
       have c11b0 : (a0 == 110) = true := beq_iff_eq.mpr c11
       have c11b1 : (a0 != 110) = false := bne_eq_false_iff_eq.mpr c11
       clear c11
       by_cases c12 : a2 ≥ 0
       · rw [if_pos c12] at H
         have c12b0 : decide (0 ≤ a2) = true := decide_eq_true c12
         clear c12
         obtain rfl := Option.some.inj H
         go_enter Tryz.func77, Tryz.ntmps77
         go_wp2
         go_ret
         exact ⟨by first | rfl | (simp; done) | (simp [*]; done), by repeat (first | exact Drawn0.refl _ | apply Drawn0.step)⟩
       · rw [if_neg c12] at H
         have c12b0 : decide (0 ≤ a2) = false := decide_eq_false c12
         clear c12
         obtain rfl := Option.some.inj H
         go_enter Tryz.func77, Tryz.ntmps77
         go_wp2
         go_ret
         exact ⟨by first | rfl | (simp; done) | (simp [*]; done), by repeat (first | exact Drawn0.refl _ | apply Drawn0.step)⟩
     · rw [if_neg c11] at H
       have c11b0 : (a0 == 110) = false := beq_eq_false_iff_ne.mpr c11
       have c11b1 : (a0 != 110) = true := bne_iff_ne.mpr c11
       obtain rfl := Option.some.inj H
       go_enter Tryz.func77, Tryz.ntmps77
       go_wp2
       go_ret
       exact ⟨by first | rfl | (simp; done) | (simp [*]; done), by repeat (first | exact Drawn0.refl _ | apply Drawn0.step)⟩
end Go.Proofs.YtabmlbnnhhpaoaaGreatDoor.PAsmLines
