/- What this claim needs of QAsmPrintsx111. -/
import Derived.Test.YtabmlbnnhhpaoaaGreatDoorTQAsmPrintsx0
set_option linter.unusedSimpArgs false
set_option linter.unusedVariables false
set_option maxHeartbeats 8000000
set_option maxRecDepth 100000
namespace Go.Proofs.YtabmlbnnhhpaoaaGreatDoor.PAsmPrints
open Go.RowKit Go.Proofs.YtabmlbnnhhpaoaaGreatDoorW.PrintWords Go.Proofs.YtabmlbnnhhpaoaaGreatDoorW.PrintLast Go.Proofs.YtabmlbnnhhpaoaaGreatDoorW.PrintMore
attribute [local go_sem] max2_int min2_int max_two min_two max_three min_three max_four min_four   -- for this text's walks alone
def r_Register.l0 : Nat → ByteArray → List ByteArray → Int → Option (Int)
 | 0, _, _, _ => none
 | k + 1, x0, x3, x4 => if x4 < 16 then (if 0 ≤ x4 then (if x4 < (x3.length : Int) then (if (rdOf ByteArray.empty x3 x4).toList = x0.toList then (some x4) else (r_Register.l0 k x0 x3 (wrap64 (x4 + 1)))) else (none)) else (none)) else (some (-1))
def r_Register.f (k : Nat) (a0 : ByteArray) : Option (Int) := r_Register.l0 k a0 (([(⟨#[114, 48]⟩ : ByteArray), (⟨#[114, 49]⟩ : ByteArray), (⟨#[114, 50]⟩ : ByteArray), (⟨#[114, 51]⟩ : ByteArray), (⟨#[114, 52]⟩ : ByteArray), (⟨#[114, 53]⟩ : ByteArray), (⟨#[114, 54]⟩ : ByteArray), (⟨#[114, 55]⟩ : ByteArray), (⟨#[114, 56]⟩ : ByteArray), (⟨#[114, 57]⟩ : ByteArray), (⟨#[114, 49, 48]⟩ : ByteArray), (⟨#[114, 49, 49]⟩ : ByteArray), (⟨#[114, 49, 50]⟩ : ByteArray), (⟨#[114, 49, 51]⟩ : ByteArray), (⟨#[114, 49, 52]⟩ : ByteArray), (⟨#[114, 49, 53]⟩ : ByteArray)] : List ByteArray)) 0
theorem r_Register.calls (k : Nat) (a0 : ByteArray) (r : Int) (w : World) (h : r_Register.f k a0 = some r) :
 Calls Tryz.prog 65 #[.string a0] w fun e w' => e = .returned (.int .i64 r) ∧ Below w.heap.size w w' := by
 have HB := Aside0.mk (Below.refl w.heap.size w)
 have H : (r_Register.l0 k a0 (([(⟨#[114, 48]⟩ : ByteArray), (⟨#[114, 49]⟩ : ByteArray), (⟨#[114, 50]⟩ : ByteArray), (⟨#[114, 51]⟩ : ByteArray), (⟨#[114, 52]⟩ : ByteArray), (⟨#[114, 53]⟩ : ByteArray), (⟨#[114, 54]⟩ : ByteArray), (⟨#[114, 55]⟩ : ByteArray), (⟨#[114, 56]⟩ : ByteArray), (⟨#[114, 57]⟩ : ByteArray), (⟨#[114, 49, 48]⟩ : ByteArray), (⟨#[114, 49, 49]⟩ : ByteArray), (⟨#[114, 49, 50]⟩ : ByteArray), (⟨#[114, 49, 51]⟩ : ByteArray), (⟨#[114, 49, 52]⟩ : ByteArray), (⟨#[114, 49, 53]⟩ : ByteArray)] : List ByteArray)) 0) = some r := h
 clear h
 obtain ⟨y244, hy244⟩ : ∃ y_ : List ByteArray, y_ = (([(⟨#[114, 48]⟩ : ByteArray), (⟨#[114, 49]⟩ : ByteArray), (⟨#[114, 50]⟩ : ByteArray), (⟨#[114, 51]⟩ : ByteArray), (⟨#[114, 52]⟩ : ByteArray), (⟨#[114, 53]⟩ : ByteArray), (⟨#[114, 54]⟩ : ByteArray), (⟨#[114, 55]⟩ : ByteArray), (⟨#[114, 56]⟩ : ByteArray), (⟨#[114, 57]⟩ : ByteArray), (⟨#[114, 49, 48]⟩ : ByteArray), (⟨#[114, 49, 49]⟩ : ByteArray), (⟨#[114, 49, 50]⟩ : ByteArray), (⟨#[114, 49, 51]⟩ : ByteArray), (⟨#[114, 49, 52]⟩ : ByteArray), (⟨#[114, 49, 53]⟩ : ByteArray)] : List ByteArray)) := ⟨_, rfl⟩
 replace H : (r_Register.l0 k a0 y244 0) = some r := by first | (rw [hy244]; with_reducible exact H) | (have H2_ := (Option.bind_some _ _).symm.trans H; rw [hy244]; with_reducible exact H2_) | (have H2_ := (Option.bind_some _ _).symm.trans H; with_reducible exact H2_) | with_reducible exact H | (rw [hy244]; exact H) | exact H
 have Ny244 := Aside0.mk hy244
 clear hy244
 have H' := Aside0.mk H
 clear H
 go_enter Tryz.func65, Tryz.ntmps65
 go_wp2_with (first | ((with_reducible refine gate_dst (N := 5) rfl ?_); refine Kd.R_lit Kd.string _ 9 ?hg (N := 5) ?hd (xs := ([(⟨#[114, 48]⟩ : ByteArray), (⟨#[114, 49]⟩ : ByteArray), (⟨#[114, 50]⟩ : ByteArray), (⟨#[114, 51]⟩ : ByteArray), (⟨#[114, 52]⟩ : ByteArray), (⟨#[114, 53]⟩ : ByteArray), (⟨#[114, 54]⟩ : ByteArray), (⟨#[114, 55]⟩ : ByteArray), (⟨#[114, 56]⟩ : ByteArray), (⟨#[114, 57]⟩ : ByteArray), (⟨#[114, 49, 48]⟩ : ByteArray), (⟨#[114, 49, 49]⟩ : ByteArray), (⟨#[114, 49, 50]⟩ : ByteArray), (⟨#[114, 49, 51]⟩ : ByteArray), (⟨#[114, 49, 52]⟩ : ByteArray), (⟨#[114, 49, 53]⟩ : ByteArray)] : List ByteArray)) (inner := [.string (⟨#[114, 48]⟩ : ByteArray), .string (⟨#[114, 49]⟩ : ByteArray), .string (⟨#[114, 50]⟩ : ByteArray), .string (⟨#[114, 51]⟩ : ByteArray), .string (⟨#[114, 52]⟩ : ByteArray), .string (⟨#[114, 53]⟩ : ByteArray), .string (⟨#[114, 54]⟩ : ByteArray), .string (⟨#[114, 55]⟩ : ByteArray), .string (⟨#[114, 56]⟩ : ByteArray), .string (⟨#[114, 57]⟩ : ByteArray), .string (⟨#[114, 49, 48]⟩ : ByteArray), .string (⟨#[114, 49, 49]⟩ : ByteArray), .string (⟨#[114, 49, 50]⟩ : ByteArray), .string (⟨#[114, 49, 51]⟩ : ByteArray), .string (⟨#[114, 49, 52]⟩ : ByteArray), .string (⟨#[114, 49, 53]⟩ : ByteArray)]) (ok := fun _ => True) (okp := fun _ => True) ?hr ?hp (fun _ hk => hk) trivial (Below.refl _ _) (Nat.le_refl _) (by simp) ?_; (case hd => rfl); (case hg => rfl); (case hr => first | (go_simp; done) | (go_simp; rfl)); (case hp => exact (Reps.one (show Kd.M Kd.string _ _ _ (⟨#[114, 48]⟩ : ByteArray) [.string (⟨#[114, 48]⟩ : ByteArray)] from rfl) (Reps.one (show Kd.M Kd.string _ _ _ (⟨#[114, 49]⟩ : ByteArray) [.string (⟨#[114, 49]⟩ : ByteArray)] from rfl) (Reps.one (show Kd.M Kd.string _ _ _ (⟨#[114, 50]⟩ : ByteArray) [.string (⟨#[114, 50]⟩ : ByteArray)] from rfl) (Reps.one (show Kd.M Kd.string _ _ _ (⟨#[114, 51]⟩ : ByteArray) [.string (⟨#[114, 51]⟩ : ByteArray)] from rfl) (Reps.one (show Kd.M Kd.string _ _ _ (⟨#[114, 52]⟩ : ByteArray) [.string (⟨#[114, 52]⟩ : ByteArray)] from rfl) (Reps.one (show Kd.M Kd.string _ _ _ (⟨#[114, 53]⟩ : ByteArray) [.string (⟨#[114, 53]⟩ : ByteArray)] from rfl) (Reps.one (show Kd.M Kd.string _ _ _ (⟨#[114, 54]⟩ : ByteArray) [.string (⟨#[114, 54]⟩ : ByteArray)] from rfl) (Reps.one (show Kd.M Kd.string _ _ _ (⟨#[114, 55]⟩ : ByteArray) [.string (⟨#[114, 55]⟩ : ByteArray)] from rfl) (Reps.one (show Kd.M Kd.string _ _ _ (⟨#[114, 56]⟩ : ByteArray) [.string (⟨#[114, 56]⟩ : ByteArray)] from rfl) (Reps.one (show Kd.M Kd.string _ _ _ (⟨#[114, 57]⟩ : ByteArray) [.string (⟨#[114, 57]⟩ : ByteArray)] from rfl) (Reps.one (show Kd.M Kd.string _ _ _ (⟨#[114, 49, 48]⟩ : ByteArray) [.string (⟨#[114, 49, 48]⟩ : ByteArray)] from rfl) (Reps.one (show Kd.M Kd.string _ _ _ (⟨#[114, 49, 49]⟩ : ByteArray) [.string (⟨#[114, 49, 49]⟩ : ByteArray)] from rfl) (Reps.one (show Kd.M Kd.string _ _ _ (⟨#[114, 49, 50]⟩ : ByteArray) [.string (⟨#[114, 49, 50]⟩ : ByteArray)] from rfl) (Reps.one (show Kd.M Kd.string _ _ _ (⟨#[114, 49, 51]⟩ : ByteArray) [.string (⟨#[114, 49, 51]⟩ : ByteArray)] from rfl) (Reps.one (show Kd.M Kd.string _ _ _ (⟨#[114, 49, 52]⟩ : ByteArray) [.string (⟨#[114, 49, 52]⟩ : ByteArray)] from rfl) (Reps.one (show Kd.M Kd.string _ _ _ (⟨#[114, 49, 53]⟩ : ByteArray) [.string (⟨#[114, 49, 53]⟩ : ByteArray)] from rfl) (Reps.none _ _)))))))))))))))))); intro v245 w2 ho3 hb hg_ hnew_; clear hg_ hnew_; (first | rw [← Ny244.out] at ho3 | (simp only [Int.reduceToNat] at ho3; rw [← Ny244.out] at ho3)); have n0_ := Aside0.mk (Kd.R_lower ho3 (below_size (by repeat (first | (with_reducible first | exact HB.out | apply below_alloc | apply pw_below_drewN | apply below_drew1) | exact HB.out)))); have n1_ := Aside0.mk (below_step (by repeat (first | (with_reducible first | exact HB.out | apply below_alloc | apply pw_below_drewN | apply below_drew1) | exact HB.out)) hb); clear HB; have HO246 := n0_; have HB := n1_; clear n0_ n1_; clear hb ho3))
 go_loopg [4] k (fun kq v4 w' => ∃ (x4_1 : Int), v4 = .int .i64 x4_1 ∧ Aside0 (r_Register.l0 kq a0 y244 x4_1 = some r) ∧ Aside0 (kq ≤ k) ∧ Aside0 (Kd.R Kd.string 9 w' w.heap.size (fun _ => True) v245 y244) ∧ Aside0 (Below w.heap.size w w'))
 case atStart => exact ⟨(0), (by first | rfl | (simp; done) | (simp [*]; done)), H', ⟨Nat.le_refl _⟩, ⟨by (with_reducible repeat (first | apply Kd.R_alloc | apply Kd.R_drewN | apply Kd.R_drew)); exact HO246.out⟩, ⟨by repeat (first | (with_reducible first | exact HB.out | apply below_alloc | apply pw_below_drewN | apply below_drew1) | exact HB.out)⟩⟩
 case round =>
  clear H'
  try clear p2
  obtain ⟨x4_1, rfl, HA, HK1, HO_3, HB⟩ := hrel
  cases gk with
  | zero => exact absurd HA.out (by simp [r_Register.l0])
  | succ k1 =>
   have H := HA.out
   clear HA
   simp only [r_Register.l0] at H
   by_cases c4 : x4_1 < 16
   · rw [if_pos c4] at H
     have c4b0 : decide (x4_1 < 16) = true := decide_eq_true c4
     clear c4
     by_cases c5 : 0 ≤ x4_1
     · rw [if_pos c5] at H
       have c5b0 : decide (0 ≤ x4_1) = true := decide_eq_true c5
       clear c5
       by_cases c6 : x4_1 < (y244.length : Int)
       · rw [if_pos c6] at H
         have c6b0 : decide (x4_1 < (y244.length : Int)) = true := decide_eq_true c6
         clear c6
         by_cases c7 : (rdOf ByteArray.empty y244 x4_1).toList = a0.toList
         · rw [if_pos c7] at H
           have c7b0 : ((rdOf ByteArray.empty y244 x4_1).toList == a0.toList) = true := beq_iff_eq.mpr c7
           have c7b1 : ((rdOf ByteArray.empty y244 x4_1).toList != a0.toList) = false := bne_eq_false_iff_eq.mpr c7
           clear c7
           obtain rfl := Option.some.inj H
           obtain ⟨Ao8, co8, eo8⟩ := Kd.R_slice HO_3.out
           subst eo8
           have p247 : 0 ≤ (x4_1 : Int) := of_decide_eq_true (by first | (with_reducible assumption) | assumption)
           have q247 : x4_1 < (y244.length : Int) := of_decide_eq_true (by first | (with_reducible assumption) | assumption)
           obtain ⟨ad247, e247, hx247_0⟩ := Kd.at_string (Kd.R_reads' HO_3.out).2.2 x4_1 p247 q247
           cases e247
           replace p247 := eq_true p247
           replace q247 := eq_true q247
           go_wp2
           go_ret
           exact ⟨by first | rfl | (simp [errW_none, errW_some] <;> rfl) | (simp [*, errW_none, errW_some] <;> rfl), by repeat (first | (with_reducible first | exact HB.out | apply below_alloc | apply pw_below_drewN | apply below_drew1) | exact HB.out)⟩
         · rw [if_neg c7] at H
           have c7b0 : ((rdOf ByteArray.empty y244 x4_1).toList == a0.toList) = false := beq_eq_false_iff_ne.mpr c7
           have c7b1 : ((rdOf ByteArray.empty y244 x4_1).toList != a0.toList) = true := bne_iff_ne.mpr c7
           have H' := Aside0.mk H
           clear H
           obtain ⟨Ao9, co9, eo9⟩ := Kd.R_slice HO_3.out
           subst eo9
           have p247 : 0 ≤ (x4_1 : Int) := of_decide_eq_true (by first | (with_reducible assumption) | assumption)
           have q247 : x4_1 < (y244.length : Int) := of_decide_eq_true (by first | (with_reducible assumption) | assumption)
           obtain ⟨ad247, e247, hx247_0⟩ := Kd.at_string (Kd.R_reads' HO_3.out).2.2 x4_1 p247 q247
           cases e247
           replace p247 := eq_true p247
           replace q247 := eq_true q247
           go_wp2
           go_roundg k1
           case measure => have := HK1.out; omega
           case rel => exact ⟨(wrap64 (x4_1 + 1)), (by first | rfl | (simp; done) | (simp [*]; done)), H', ⟨by have := HK1.out; omega⟩, ⟨by (with_reducible repeat (first | apply Kd.R_alloc | apply Kd.R_drewN | apply Kd.R_drew)); exact HO_3.out⟩, ⟨by repeat (first | (with_reducible first | exact HB.out | apply below_alloc | apply pw_below_drewN | apply below_drew1) | exact HB.out)⟩⟩
       · rw [if_neg c6] at H
         exact absurd H (by simp)
     · rw [if_neg c5] at H
       exact absurd H (by simp)
   · rw [if_neg c4] at H
     have c4b0 : decide (x4_1 < 16) = false := decide_eq_false c4
     clear c4
     obtain rfl := Option.some.inj H
     go_wp2
     go_ret
     exact ⟨by first | rfl | (simp [errW_none, errW_some] <;> rfl) | (simp [*, errW_none, errW_some] <;> rfl), by repeat (first | (with_reducible first | exact HB.out | apply below_alloc | apply pw_below_drewN | apply below_drew1) | exact HB.out)⟩
end Go.Proofs.YtabmlbnnhhpaoaaGreatDoor.PAsmPrints
