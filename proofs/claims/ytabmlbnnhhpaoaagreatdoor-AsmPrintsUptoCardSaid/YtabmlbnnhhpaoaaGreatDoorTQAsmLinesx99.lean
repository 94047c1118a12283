/- What this claim needs of QAsmLinesx99. -/
import Derived.Test.YtabmlbnnhhpaoaaGreatDoorTQAsmLinesx0
set_option linter.unusedSimpArgs false
set_option linter.unusedVariables false
namespace Go.Proofs.YtabmlbnnhhpaoaaGreatDoor.PAsmLines
open Go.RowKit Go.Proofs.YtabmlbnnhhpaoaaGreatDoorW.PrintWords Go.Proofs.YtabmlbnnhhpaoaaGreatDoorW.PrintLast Go.Proofs.YtabmlbnnhhpaoaaGreatDoorW.PrintMore
attribute [local go_sem] max2_int min2_int max_two min_two max_three min_three max_four min_four   -- for this text's walks alone
def q_Of.j0 : Nat → List ByteArray → List ByteArray → List ByteArray → List ByteArray → List ByteArray → List ByteArray → Int → Bool → Option (ByteArray × Int × Int × Int × Bool)
 | 0, _, _, _, _, _, _, _, _ => none
 | k + 1, x4, x5, x6, x7, x8, x9, x10, x18 => if x18 = true then (some ((⟨#[]⟩ : ByteArray), 0, 0, 0, false)) else (if x10 ≤ 13 then (if 0 ≤ (wrap64 (x10 - 1)) then (if (wrap64 (x10 - 1)) < (x4.length : Int) then (some (rdOf ByteArray.empty x4 (wrap64 (x10 - 1)), 1, 45, 51, true)) else (none)) else (none)) else (if x10 ≤ 22 then (if 0 ≤ (wrap64 (x10 - 14)) then (if (wrap64 (x10 - 14)) < (x5.length : Int) then (if (wrap64 (x10 - 14)) < 9 then (some (rdOf ByteArray.empty x5 (wrap64 (x10 - 14)), 2, bt (⟨#[115, 117, 117, 117, 110, 110, 110, 115, 115]⟩ : ByteArray) (wrap64 (x10 - 14)), 105, true)) else (none)) else (none)) else (none)) else (if x10 = 23 then (some ((⟨#[108, 117, 105]⟩ : ByteArray), 4, 117, 105, true)) else (if x10 ≤ 28 then (if 0 ≤ (wrap64 (x10 - 24)) then (if (wrap64 (x10 - 24)) < (x6.length : Int) then (some (rdOf ByteArray.empty x6 (wrap64 (x10 - 24)), 2, 115, 109, true)) else (none)) else (none)) else (if x10 ≤ 31 then (if 0 ≤ (wrap64 (x10 - 29)) then (if (wrap64 (x10 - 29)) < (x7.length : Int) then (some (rdOf ByteArray.empty x7 (wrap64 (x10 - 29)), 3, 115, 109, true)) else (none)) else (none)) else (if x10 ≤ 37 then (if 0 ≤ (wrap64 (x10 - 32)) then (if (wrap64 (x10 - 32)) < (x8.length : Int) then (some (rdOf ByteArray.empty x8 (wrap64 (x10 - 32)), 3, 115, 105, true)) else (none)) else (none)) else (if x10 = 38 then (some ((⟨#[106, 97, 108]⟩ : ByteArray), 4, 115, 105, true)) else (if x10 = 39 then (some ((⟨#[106, 97, 108, 114]⟩ : ByteArray), 2, 115, 105, true)) else (if x10 = 40 then (some ((⟨#[104, 99, 97, 108, 108]⟩ : ByteArray), 7, 117, 106, true)) else (if x10 = 41 then (some ((⟨#[99, 108, 111, 99, 107]⟩ : ByteArray), 5, 45, 49, true)) else (if x10 ≤ 45 then (if 0 ≤ (wrap64 (x10 - 42)) then (if (wrap64 (x10 - 42)) < (x9.length : Int) then (some (rdOf ByteArray.empty x9 (wrap64 (x10 - 42)), 8, 45, 45, true)) else (none)) else (none)) else (if x10 = 46 then (some ((⟨#[118, 101, 99]⟩ : ByteArray), 6, 45, 49, true)) else (if x10 = 47 then (some ((⟨#[104, 97, 108, 116]⟩ : ByteArray), 8, 45, 45, true)) else (some ((⟨#[110, 111, 112]⟩ : ByteArray), 8, 45, 45, true)))))))))))))))
def q_Of.f (k : Nat) (a0 : Int) : Option (ByteArray × Int × Int × Int × Bool) := (some (([(⟨#[97, 100, 100]⟩ : ByteArray), (⟨#[115, 117, 98]⟩ : ByteArray), (⟨#[109, 117, 108]⟩ : ByteArray), (⟨#[100, 105, 118, 117]⟩ : ByteArray), (⟨#[114, 101, 109, 117]⟩ : ByteArray), (⟨#[97, 110, 100]⟩ : ByteArray), (⟨#[111, 114]⟩ : ByteArray), (⟨#[120, 111, 114]⟩ : ByteArray), (⟨#[115, 104, 108]⟩ : ByteArray), (⟨#[115, 104, 114]⟩ : ByteArray), (⟨#[115, 97, 114]⟩ : ByteArray), (⟨#[115, 108, 116]⟩ : ByteArray), (⟨#[115, 108, 116, 117]⟩ : ByteArray)] : List ByteArray) : List ByteArray)).bind fun y145 => ((some (([(⟨#[97, 100, 100, 105]⟩ : ByteArray), (⟨#[97, 110, 100, 105]⟩ : ByteArray), (⟨#[111, 114, 105]⟩ : ByteArray), (⟨#[120, 111, 114, 105]⟩ : ByteArray), (⟨#[115, 104, 108, 105]⟩ : ByteArray), (⟨#[115, 104, 114, 105]⟩ : ByteArray), (⟨#[115, 97, 114, 105]⟩ : ByteArray), (⟨#[115, 108, 116, 105]⟩ : ByteArray), (⟨#[115, 108, 116, 117, 105]⟩ : ByteArray)] : List ByteArray) : List ByteArray)).bind fun y148 => ((some (([(⟨#[108, 98]⟩ : ByteArray), (⟨#[108, 98, 117]⟩ : ByteArray), (⟨#[108, 104]⟩ : ByteArray), (⟨#[108, 104, 117]⟩ : ByteArray), (⟨#[108, 119]⟩ : ByteArray)] : List ByteArray) : List ByteArray)).bind fun y151 => ((some (([(⟨#[115, 98]⟩ : ByteArray), (⟨#[115, 104]⟩ : ByteArray), (⟨#[115, 119]⟩ : ByteArray)] : List ByteArray) : List ByteArray)).bind fun y154 => ((some (([(⟨#[98, 101, 113]⟩ : ByteArray), (⟨#[98, 110, 101]⟩ : ByteArray), (⟨#[98, 108, 116]⟩ : ByteArray), (⟨#[98, 103, 101]⟩ : ByteArray), (⟨#[98, 108, 116, 117]⟩ : ByteArray), (⟨#[98, 103, 101, 117]⟩ : ByteArray)] : List ByteArray) : List ByteArray)).bind fun y157 => ((some (([(⟨#[119, 97, 105, 116]⟩ : ByteArray), (⟨#[101, 105]⟩ : ByteArray), (⟨#[100, 105]⟩ : ByteArray), (⟨#[101, 114, 101, 116]⟩ : ByteArray)] : List ByteArray) : List ByteArray)).bind fun y160 => (if a0 < 1 then (q_Of.j0 k y145 y148 y151 y154 y157 y160 a0 true) else (q_Of.j0 k y145 y148 y151 y154 y157 y160 a0 (decide (a0 > 48)))))))))
theorem q_Of.mono_l : ∀ k, (∀ y0 y1 y2 y3 y4 y5 y6 y7, LeO (q_Of.j0 k y0 y1 y2 y3 y4 y5 y6 y7) (q_Of.j0 (k + 1) y0 y1 y2 y3 y4 y5 y6 y7))
 | 0 => fun _ _ _ _ _ _ _ _ r h => by simp [q_Of.j0] at h
 | k + 1 => by
  have ih0 := q_Of.mono_l k
  · intro y0 y1 y2 y3 y4 y5 y6 y7
    unfold q_Of.j0
    repeat' first
    | (with_reducible exact ih0 _ _ _ _ _ _ _ _)
    | (with_reducible exact LeO.refl _)
    | (with_reducible exact LeO.none _)
    | (with_reducible refine LeO.ite ?_ ?_)
    | (with_reducible refine LeO.bind ?_ (fun _ => ?_))
    | exact ih0 _ _ _ _ _ _ _ _
    | exact LeO.none _
    | refine LeO.ite ?_ ?_
    | refine LeO.bind ?_ (fun _ => ?_)
theorem q_Of.mono : ∀ a0 k, LeO (q_Of.f k a0) (q_Of.f (k + 1) a0) := by
 intro a0 k
 have ih0 := q_Of.mono_l k
 unfold q_Of.f
 repeat' first
  | (with_reducible exact ih0 _ _ _ _ _ _ _ _)
  | (with_reducible exact LeO.refl _)
  | (with_reducible exact LeO.none _)
  | (with_reducible refine LeO.ite ?_ ?_)
  | (with_reducible refine LeO.bind ?_ (fun _ => ?_))
  | exact ih0 _ _ _ _ _ _ _ _
  | exact LeO.none _
  | refine LeO.ite ?_ ?_
  | refine LeO.bind ?_ (fun _ => ?_)
end Go.Proofs.YtabmlbnnhhpaoaaGreatDoor.PAsmLines
