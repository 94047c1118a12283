/- Trimmed from what the kit printed for this seat: what this claim does not reach is left out. -/
import Derived.Test.YtabmlbnnhhpaoaaGreatDoorProg
import Derived.Below
import Derived.Deep.Draws
import Derived.Deep.AppendLies
import Derived.Maps.AppendAt
import Derived.OwnWalk
import Derived.Laws.BytesArg
import Derived.Laws.MakeOwn
import Derived.Laws.OwnMore
import Derived.Deep.OwnRows
import Derived.Tactics
import Derived.Lib.ConvBytes
import Derived.Laws.Slices
import Derived.WalkKit
import Derived.KernelRfl
import Derived.RowKit3
import Derived.Deep.LoopGhost
import Derived.Deep.QuietTactic
import Derived.BigQuiet
import Derived.WideLaws
import Derived.Deep.DeepCutAuto
import Derived.Deep.CutBlock
import Derived.Deep.RegionHeld3
import Derived.Laws.Rows
import Derived.Lib.AppendStr
import Derived.ArgAppend
import Derived.Laws.IdiomCopy
import Derived.OrdersHeld
import Derived.Laws.BitsLemmas
import Derived.RowKit
import Derived.Test.YtabmlbnnhhpaoaaGreatDoorTWWords
import Derived.Test.YtabmlbnnhhpaoaaGreatDoorTWLast
import Derived.Test.YtabmlbnnhhpaoaaGreatDoorTWTab
import Derived.Laws.StructEq
import Derived.Test.YtabmlbnnhhpaoaaGreatDoorTWRepsOne
import Derived.Test.YtabmlbnnhhpaoaaGreatDoorTWMore
namespace Go.Proofs.YtabmlbnnhhpaoaaGreatDoor.PAsmLines
open Go.RowKit Go.Proofs.YtabmlbnnhhpaoaaGreatDoorW.PrintWords Go.Proofs.YtabmlbnnhhpaoaaGreatDoorW.PrintLast Go.Proofs.YtabmlbnnhhpaoaaGreatDoorW.PrintMore
attribute [local go_sem] max2_int min2_int max_two min_two max_three min_three max_four min_four   -- for this text's walks alone
set_option linter.unusedVariables false
set_option linter.unusedSimpArgs false
def cloisterref10_Of.j0 : Nat → List ByteArray → List ByteArray → List ByteArray → List ByteArray → List ByteArray → List ByteArray → Int → Bool → Option (ByteArray × Int × Int × Int × Bool)
  | 0, _, _, _, _, _, _, _, _ => none
  | k + 1, x4, x5, x6, x7, x8, x9, x10, x18 => if x18 = true then (some ((⟨#[]⟩ : ByteArray), 0, 0, 0, false)) else (if x10 ≤ 13 then (if 0 ≤ (wrap64 (x10 - 1)) then (if (wrap64 (x10 - 1)) < (x4.length : Int) then (some (rdOf ByteArray.empty x4 (wrap64 (x10 - 1)), 1, 45, 51, true)) else (none)) else (none)) else (if x10 ≤ 22 then (if 0 ≤ (wrap64 (x10 - 14)) then (if (wrap64 (x10 - 14)) < (x5.length : Int) then (if (wrap64 (x10 - 14)) < 9 then (some (rdOf ByteArray.empty x5 (wrap64 (x10 - 14)), 2, bt (⟨#[115, 117, 117, 117, 110, 110, 110, 115, 115]⟩ : ByteArray) (wrap64 (x10 - 14)), 105, true)) else (none)) else (none)) else (none)) else (if x10 = 23 then (some ((⟨#[108, 117, 105]⟩ : ByteArray), 4, 117, 105, true)) else (if x10 ≤ 28 then (if 0 ≤ (wrap64 (x10 - 24)) then (if (wrap64 (x10 - 24)) < (x6.length : Int) then (some (rdOf ByteArray.empty x6 (wrap64 (x10 - 24)), 2, 115, 109, true)) else (none)) else (none)) else (if x10 ≤ 31 then (if 0 ≤ (wrap64 (x10 - 29)) then (if (wrap64 (x10 - 29)) < (x7.length : Int) then (some (rdOf ByteArray.empty x7 (wrap64 (x10 - 29)), 3, 115, 109, true)) else (none)) else (none)) else (if x10 ≤ 37 then (if 0 ≤ (wrap64 (x10 - 32)) then (if (wrap64 (x10 - 32)) < (x8.length : Int) then (some (rdOf ByteArray.empty x8 (wrap64 (x10 - 32)), 3, 115, 105, true)) else (none)) else (none)) else (if x10 = 38 then (some ((⟨#[106, 97, 108]⟩ : ByteArray), 4, 115, 105, true)) else (if x10 = 39 then (some ((⟨#[106, 97, 108, 114]⟩ : ByteArray), 2, 115, 105, true)) else (if x10 = 40 then (some ((⟨#[104, 99, 97, 108, 108]⟩ : ByteArray), 7, 117, 106, true)) else (if x10 = 41 then (some ((⟨#[99, 108, 111, 99, 107]⟩ : ByteArray), 5, 45, 49, true)) else (if x10 ≤ 45 then (if 0 ≤ (wrap64 (x10 - 42)) then (if (wrap64 (x10 - 42)) < (x9.length : Int) then (some (rdOf ByteArray.empty x9 (wrap64 (x10 - 42)), 8, 45, 45, true)) else (none)) else (none)) else (if x10 = 46 then (some ((⟨#[118, 101, 99]⟩ : ByteArray), 6, 45, 49, true)) else (if x10 = 47 then (some ((⟨#[104, 97, 108, 116]⟩ : ByteArray), 8, 45, 45, true)) else (some ((⟨#[110, 111, 112]⟩ : ByteArray), 8, 45, 45, true)))))))))))))))
def cloisterref10_Of.f (k : Nat) (a0 : Int) : Option (ByteArray × Int × Int × Int × Bool) := (some (([(⟨#[97, 100, 100]⟩ : ByteArray), (⟨#[115, 117, 98]⟩ : ByteArray), (⟨#[109, 117, 108]⟩ : ByteArray), (⟨#[100, 105, 118, 117]⟩ : ByteArray), (⟨#[114, 101, 109, 117]⟩ : ByteArray), (⟨#[97, 110, 100]⟩ : ByteArray), (⟨#[111, 114]⟩ : ByteArray), (⟨#[120, 111, 114]⟩ : ByteArray), (⟨#[115, 104, 108]⟩ : ByteArray), (⟨#[115, 104, 114]⟩ : ByteArray), (⟨#[115, 97, 114]⟩ : ByteArray), (⟨#[115, 108, 116]⟩ : ByteArray), (⟨#[115, 108, 116, 117]⟩ : ByteArray)] : List ByteArray) : List ByteArray)).bind fun y145 => ((some (([(⟨#[97, 100, 100, 105]⟩ : ByteArray), (⟨#[97, 110, 100, 105]⟩ : ByteArray), (⟨#[111, 114, 105]⟩ : ByteArray), (⟨#[120, 111, 114, 105]⟩ : ByteArray), (⟨#[115, 104, 108, 105]⟩ : ByteArray), (⟨#[115, 104, 114, 105]⟩ : ByteArray), (⟨#[115, 97, 114, 105]⟩ : ByteArray), (⟨#[115, 108, 116, 105]⟩ : ByteArray), (⟨#[115, 108, 116, 117, 105]⟩ : ByteArray)] : List ByteArray) : List ByteArray)).bind fun y148 => ((some (([(⟨#[108, 98]⟩ : ByteArray), (⟨#[108, 98, 117]⟩ : ByteArray), (⟨#[108, 104]⟩ : ByteArray), (⟨#[108, 104, 117]⟩ : ByteArray), (⟨#[108, 119]⟩ : ByteArray)] : List ByteArray) : List ByteArray)).bind fun y151 => ((some (([(⟨#[115, 98]⟩ : ByteArray), (⟨#[115, 104]⟩ : ByteArray), (⟨#[115, 119]⟩ : ByteArray)] : List ByteArray) : List ByteArray)).bind fun y154 => ((some (([(⟨#[98, 101, 113]⟩ : ByteArray), (⟨#[98, 110, 101]⟩ : ByteArray), (⟨#[98, 108, 116]⟩ : ByteArray), (⟨#[98, 103, 101]⟩ : ByteArray), (⟨#[98, 108, 116, 117]⟩ : ByteArray), (⟨#[98, 103, 101, 117]⟩ : ByteArray)] : List ByteArray) : List ByteArray)).bind fun y157 => ((some (([(⟨#[119, 97, 105, 116]⟩ : ByteArray), (⟨#[101, 105]⟩ : ByteArray), (⟨#[100, 105]⟩ : ByteArray), (⟨#[101, 114, 101, 116]⟩ : ByteArray)] : List ByteArray) : List ByteArray)).bind fun y160 => (if a0 < 1 then (cloisterref10_Of.j0 k y145 y148 y151 y154 y157 y160 a0 true) else (cloisterref10_Of.j0 k y145 y148 y151 y154 y157 y160 a0 (decide (a0 > 48)))))))))
theorem cloisterref10_Of.mono_l : ∀ k, (∀ y0 y1 y2 y3 y4 y5 y6 y7, LeO (cloisterref10_Of.j0 k y0 y1 y2 y3 y4 y5 y6 y7) (cloisterref10_Of.j0 (k + 1) y0 y1 y2 y3 y4 y5 y6 y7))
  | 0 => fun _ _ _ _ _ _ _ _ r h => by simp [cloisterref10_Of.j0] at h
  | k + 1 => by
    have ih0 := cloisterref10_Of.mono_l k
    · intro y0 y1 y2 y3 y4 y5 y6 y7
      unfold cloisterref10_Of.j0
      repeat' first
      | (with_reducible exact ih0 _ _ _ _ _ _ _ _)
      | (with_reducible exact LeO.refl _)
      | (with_reducible exact LeO.none _)
      | (with_reducible refine LeO.ite ?_ ?_)
      | (with_reducible refine LeO.bind ?_ (fun _ => ?_))
      | exact ih0 _ _ _ _ _ _ _ _
      | exact LeO.none _
      | refine LeO.ite ?_ ?_
      | refine LeO.bind ?_ (fun _ => ?_)
theorem cloisterref10_Of.mono : ∀ a0 k, LeO (cloisterref10_Of.f k a0) (cloisterref10_Of.f (k + 1) a0) := by
  intro a0 k
  have ih0 := cloisterref10_Of.mono_l k
  unfold cloisterref10_Of.f
  repeat' first
      | (with_reducible exact ih0 _ _ _ _ _ _ _ _)
      | (with_reducible exact LeO.refl _)
      | (with_reducible exact LeO.none _)
      | (with_reducible refine LeO.ite ?_ ?_)
      | (with_reducible refine LeO.bind ?_ (fun _ => ?_))
      | exact ih0 _ _ _ _ _ _ _ _
      | exact LeO.none _
      | refine LeO.ite ?_ ?_
      | refine LeO.bind ?_ (fun _ => ?_)
def cloisterref10_Of.T13 : Bool × List (List Nat × List Nat) := (true, [([], []), ([], []), ([1], [1]), ([0, 2], [0, 2]), ([3], [3]), ([], []), ([5], [5]), ([6], [6]), ([4, 7], [4, 7]), ([8, 0, 1, 2, 3, 4, 5, 6, 7, 8], [8]), ([9, 0, 1, 2, 3, 4, 5, 6, 7, 8, 9], [])])
def cloisterref10_Of.B13 : List Nat := [0, 0, 2, 7, 15, 0, 32, 96, 255, 511, 1023]
theorem cloisterref10_Of.tab13 : rtab .any (opsOf Tryz.f75 13) = cloisterref10_Of.T13 := by kernel_rfl
theorem cloisterref10_Of.bits13 : waitsOk cloisterref10_Of.T13.2 cloisterref10_Of.B13 = true := by kernel_rfl
set_option maxHeartbeats 8000000 in
set_option maxRecDepth 100000 in
theorem cloisterref10_Of.calls (k : Nat) (a0 : Int) (r1 : ByteArray) (r2 : Int) (r3 : Int) (r4 : Int) (r5 : Bool) (w : World) (h : cloisterref10_Of.f k a0 = some (r1, r2, r3, r4, r5)) :
    Calls Tryz.prog 75 #[.int .i64 a0] w fun e w' => e = .returned (.tuple #[.agg #[.string r1, .int .i64 r2, .int .u8 r3, .int .u8 r4], .bool r5]) ∧ Below w.heap.size w w' := by
  have hu167 := Tryz.underlying167
  have HB := Aside0.mk (Below.refl w.heap.size w)
  have H : ((some (([(⟨#[97, 100, 100]⟩ : ByteArray), (⟨#[115, 117, 98]⟩ : ByteArray), (⟨#[109, 117, 108]⟩ : ByteArray), (⟨#[100, 105, 118, 117]⟩ : ByteArray), (⟨#[114, 101, 109, 117]⟩ : ByteArray), (⟨#[97, 110, 100]⟩ : ByteArray), (⟨#[111, 114]⟩ : ByteArray), (⟨#[120, 111, 114]⟩ : ByteArray), (⟨#[115, 104, 108]⟩ : ByteArray), (⟨#[115, 104, 114]⟩ : ByteArray), (⟨#[115, 97, 114]⟩ : ByteArray), (⟨#[115, 108, 116]⟩ : ByteArray), (⟨#[115, 108, 116, 117]⟩ : ByteArray)] : List ByteArray) : List ByteArray)).bind fun y145 => ((some (([(⟨#[97, 100, 100, 105]⟩ : ByteArray), (⟨#[97, 110, 100, 105]⟩ : ByteArray), (⟨#[111, 114, 105]⟩ : ByteArray), (⟨#[120, 111, 114, 105]⟩ : ByteArray), (⟨#[115, 104, 108, 105]⟩ : ByteArray), (⟨#[115, 104, 114, 105]⟩ : ByteArray), (⟨#[115, 97, 114, 105]⟩ : ByteArray), (⟨#[115, 108, 116, 105]⟩ : ByteArray), (⟨#[115, 108, 116, 117, 105]⟩ : ByteArray)] : List ByteArray) : List ByteArray)).bind fun y148 => ((some (([(⟨#[108, 98]⟩ : ByteArray), (⟨#[108, 98, 117]⟩ : ByteArray), (⟨#[108, 104]⟩ : ByteArray), (⟨#[108, 104, 117]⟩ : ByteArray), (⟨#[108, 119]⟩ : ByteArray)] : List ByteArray) : List ByteArray)).bind fun y151 => ((some (([(⟨#[115, 98]⟩ : ByteArray), (⟨#[115, 104]⟩ : ByteArray), (⟨#[115, 119]⟩ : ByteArray)] : List ByteArray) : List ByteArray)).bind fun y154 => ((some (([(⟨#[98, 101, 113]⟩ : ByteArray), (⟨#[98, 110, 101]⟩ : ByteArray), (⟨#[98, 108, 116]⟩ : ByteArray), (⟨#[98, 103, 101]⟩ : ByteArray), (⟨#[98, 108, 116, 117]⟩ : ByteArray), (⟨#[98, 103, 101, 117]⟩ : ByteArray)] : List ByteArray) : List ByteArray)).bind fun y157 => ((some (([(⟨#[119, 97, 105, 116]⟩ : ByteArray), (⟨#[101, 105]⟩ : ByteArray), (⟨#[100, 105]⟩ : ByteArray), (⟨#[101, 114, 101, 116]⟩ : ByteArray)] : List ByteArray) : List ByteArray)).bind fun y160 => (if a0 < 1 then (cloisterref10_Of.j0 k y145 y148 y151 y154 y157 y160 a0 true) else (cloisterref10_Of.j0 k y145 y148 y151 y154 y157 y160 a0 (decide (a0 > 48)))))))))) = some (r1, r2, r3, r4, r5) := h
  clear h
  obtain ⟨y145, hy145⟩ : ∃ y_ : List ByteArray, y_ = (([(⟨#[97, 100, 100]⟩ : ByteArray), (⟨#[115, 117, 98]⟩ : ByteArray), (⟨#[109, 117, 108]⟩ : ByteArray), (⟨#[100, 105, 118, 117]⟩ : ByteArray), (⟨#[114, 101, 109, 117]⟩ : ByteArray), (⟨#[97, 110, 100]⟩ : ByteArray), (⟨#[111, 114]⟩ : ByteArray), (⟨#[120, 111, 114]⟩ : ByteArray), (⟨#[115, 104, 108]⟩ : ByteArray), (⟨#[115, 104, 114]⟩ : ByteArray), (⟨#[115, 97, 114]⟩ : ByteArray), (⟨#[115, 108, 116]⟩ : ByteArray), (⟨#[115, 108, 116, 117]⟩ : ByteArray)] : List ByteArray)) := ⟨_, rfl⟩
  replace H : ((some (([(⟨#[97, 100, 100, 105]⟩ : ByteArray), (⟨#[97, 110, 100, 105]⟩ : ByteArray), (⟨#[111, 114, 105]⟩ : ByteArray), (⟨#[120, 111, 114, 105]⟩ : ByteArray), (⟨#[115, 104, 108, 105]⟩ : ByteArray), (⟨#[115, 104, 114, 105]⟩ : ByteArray), (⟨#[115, 97, 114, 105]⟩ : ByteArray), (⟨#[115, 108, 116, 105]⟩ : ByteArray), (⟨#[115, 108, 116, 117, 105]⟩ : ByteArray)] : List ByteArray) : List ByteArray)).bind fun y148 => ((some (([(⟨#[108, 98]⟩ : ByteArray), (⟨#[108, 98, 117]⟩ : ByteArray), (⟨#[108, 104]⟩ : ByteArray), (⟨#[108, 104, 117]⟩ : ByteArray), (⟨#[108, 119]⟩ : ByteArray)] : List ByteArray) : List ByteArray)).bind fun y151 => ((some (([(⟨#[115, 98]⟩ : ByteArray), (⟨#[115, 104]⟩ : ByteArray), (⟨#[115, 119]⟩ : ByteArray)] : List ByteArray) : List ByteArray)).bind fun y154 => ((some (([(⟨#[98, 101, 113]⟩ : ByteArray), (⟨#[98, 110, 101]⟩ : ByteArray), (⟨#[98, 108, 116]⟩ : ByteArray), (⟨#[98, 103, 101]⟩ : ByteArray), (⟨#[98, 108, 116, 117]⟩ : ByteArray), (⟨#[98, 103, 101, 117]⟩ : ByteArray)] : List ByteArray) : List ByteArray)).bind fun y157 => ((some (([(⟨#[119, 97, 105, 116]⟩ : ByteArray), (⟨#[101, 105]⟩ : ByteArray), (⟨#[100, 105]⟩ : ByteArray), (⟨#[101, 114, 101, 116]⟩ : ByteArray)] : List ByteArray) : List ByteArray)).bind fun y160 => (if a0 < 1 then (cloisterref10_Of.j0 k y145 y148 y151 y154 y157 y160 a0 true) else (cloisterref10_Of.j0 k y145 y148 y151 y154 y157 y160 a0 (decide (a0 > 48))))))))) = some (r1, r2, r3, r4, r5) := by first | (rw [hy145]; with_reducible exact H) | (have H2_ := (Option.bind_some _ _).symm.trans H; rw [hy145]; with_reducible exact H2_) | (have H2_ := (Option.bind_some _ _).symm.trans H; with_reducible exact H2_) | with_reducible exact H | (rw [hy145]; exact H) | exact H
  have Ny145 := Aside0.mk hy145
  clear hy145
  obtain ⟨y148, hy148⟩ : ∃ y_ : List ByteArray, y_ = (([(⟨#[97, 100, 100, 105]⟩ : ByteArray), (⟨#[97, 110, 100, 105]⟩ : ByteArray), (⟨#[111, 114, 105]⟩ : ByteArray), (⟨#[120, 111, 114, 105]⟩ : ByteArray), (⟨#[115, 104, 108, 105]⟩ : ByteArray), (⟨#[115, 104, 114, 105]⟩ : ByteArray), (⟨#[115, 97, 114, 105]⟩ : ByteArray), (⟨#[115, 108, 116, 105]⟩ : ByteArray), (⟨#[115, 108, 116, 117, 105]⟩ : ByteArray)] : List ByteArray)) := ⟨_, rfl⟩
  replace H : ((some (([(⟨#[108, 98]⟩ : ByteArray), (⟨#[108, 98, 117]⟩ : ByteArray), (⟨#[108, 104]⟩ : ByteArray), (⟨#[108, 104, 117]⟩ : ByteArray), (⟨#[108, 119]⟩ : ByteArray)] : List ByteArray) : List ByteArray)).bind fun y151 => ((some (([(⟨#[115, 98]⟩ : ByteArray), (⟨#[115, 104]⟩ : ByteArray), (⟨#[115, 119]⟩ : ByteArray)] : List ByteArray) : List ByteArray)).bind fun y154 => ((some (([(⟨#[98, 101, 113]⟩ : ByteArray), (⟨#[98, 110, 101]⟩ : ByteArray), (⟨#[98, 108, 116]⟩ : ByteArray), (⟨#[98, 103, 101]⟩ : ByteArray), (⟨#[98, 108, 116, 117]⟩ : ByteArray), (⟨#[98, 103, 101, 117]⟩ : ByteArray)] : List ByteArray) : List ByteArray)).bind fun y157 => ((some (([(⟨#[119, 97, 105, 116]⟩ : ByteArray), (⟨#[101, 105]⟩ : ByteArray), (⟨#[100, 105]⟩ : ByteArray), (⟨#[101, 114, 101, 116]⟩ : ByteArray)] : List ByteArray) : List ByteArray)).bind fun y160 => (if a0 < 1 then (cloisterref10_Of.j0 k y145 y148 y151 y154 y157 y160 a0 true) else (cloisterref10_Of.j0 k y145 y148 y151 y154 y157 y160 a0 (decide (a0 > 48)))))))) = some (r1, r2, r3, r4, r5) := by first | (rw [hy148]; with_reducible exact H) | (have H2_ := (Option.bind_some _ _).symm.trans H; rw [hy148]; with_reducible exact H2_) | (have H2_ := (Option.bind_some _ _).symm.trans H; with_reducible exact H2_) | with_reducible exact H | (rw [hy148]; exact H) | exact H
  have Ny148 := Aside0.mk hy148
  clear hy148
  obtain ⟨y151, hy151⟩ : ∃ y_ : List ByteArray, y_ = (([(⟨#[108, 98]⟩ : ByteArray), (⟨#[108, 98, 117]⟩ : ByteArray), (⟨#[108, 104]⟩ : ByteArray), (⟨#[108, 104, 117]⟩ : ByteArray), (⟨#[108, 119]⟩ : ByteArray)] : List ByteArray)) := ⟨_, rfl⟩
  replace H : ((some (([(⟨#[115, 98]⟩ : ByteArray), (⟨#[115, 104]⟩ : ByteArray), (⟨#[115, 119]⟩ : ByteArray)] : List ByteArray) : List ByteArray)).bind fun y154 => ((some (([(⟨#[98, 101, 113]⟩ : ByteArray), (⟨#[98, 110, 101]⟩ : ByteArray), (⟨#[98, 108, 116]⟩ : ByteArray), (⟨#[98, 103, 101]⟩ : ByteArray), (⟨#[98, 108, 116, 117]⟩ : ByteArray), (⟨#[98, 103, 101, 117]⟩ : ByteArray)] : List ByteArray) : List ByteArray)).bind fun y157 => ((some (([(⟨#[119, 97, 105, 116]⟩ : ByteArray), (⟨#[101, 105]⟩ : ByteArray), (⟨#[100, 105]⟩ : ByteArray), (⟨#[101, 114, 101, 116]⟩ : ByteArray)] : List ByteArray) : List ByteArray)).bind fun y160 => (if a0 < 1 then (cloisterref10_Of.j0 k y145 y148 y151 y154 y157 y160 a0 true) else (cloisterref10_Of.j0 k y145 y148 y151 y154 y157 y160 a0 (decide (a0 > 48))))))) = some (r1, r2, r3, r4, r5) := by first | (rw [hy151]; with_reducible exact H) | (have H2_ := (Option.bind_some _ _).symm.trans H; rw [hy151]; with_reducible exact H2_) | (have H2_ := (Option.bind_some _ _).symm.trans H; with_reducible exact H2_) | with_reducible exact H | (rw [hy151]; exact H) | exact H
  have Ny151 := Aside0.mk hy151
  clear hy151
  obtain ⟨y154, hy154⟩ : ∃ y_ : List ByteArray, y_ = (([(⟨#[115, 98]⟩ : ByteArray), (⟨#[115, 104]⟩ : ByteArray), (⟨#[115, 119]⟩ : ByteArray)] : List ByteArray)) := ⟨_, rfl⟩
  replace H : ((some (([(⟨#[98, 101, 113]⟩ : ByteArray), (⟨#[98, 110, 101]⟩ : ByteArray), (⟨#[98, 108, 116]⟩ : ByteArray), (⟨#[98, 103, 101]⟩ : ByteArray), (⟨#[98, 108, 116, 117]⟩ : ByteArray), (⟨#[98, 103, 101, 117]⟩ : ByteArray)] : List ByteArray) : List ByteArray)).bind fun y157 => ((some (([(⟨#[119, 97, 105, 116]⟩ : ByteArray), (⟨#[101, 105]⟩ : ByteArray), (⟨#[100, 105]⟩ : ByteArray), (⟨#[101, 114, 101, 116]⟩ : ByteArray)] : List ByteArray) : List ByteArray)).bind fun y160 => (if a0 < 1 then (cloisterref10_Of.j0 k y145 y148 y151 y154 y157 y160 a0 true) else (cloisterref10_Of.j0 k y145 y148 y151 y154 y157 y160 a0 (decide (a0 > 48)))))) = some (r1, r2, r3, r4, r5) := by first | (rw [hy154]; with_reducible exact H) | (have H2_ := (Option.bind_some _ _).symm.trans H; rw [hy154]; with_reducible exact H2_) | (have H2_ := (Option.bind_some _ _).symm.trans H; with_reducible exact H2_) | with_reducible exact H | (rw [hy154]; exact H) | exact H
  have Ny154 := Aside0.mk hy154
  clear hy154
  obtain ⟨y157, hy157⟩ : ∃ y_ : List ByteArray, y_ = (([(⟨#[98, 101, 113]⟩ : ByteArray), (⟨#[98, 110, 101]⟩ : ByteArray), (⟨#[98, 108, 116]⟩ : ByteArray), (⟨#[98, 103, 101]⟩ : ByteArray), (⟨#[98, 108, 116, 117]⟩ : ByteArray), (⟨#[98, 103, 101, 117]⟩ : ByteArray)] : List ByteArray)) := ⟨_, rfl⟩
  replace H : ((some (([(⟨#[119, 97, 105, 116]⟩ : ByteArray), (⟨#[101, 105]⟩ : ByteArray), (⟨#[100, 105]⟩ : ByteArray), (⟨#[101, 114, 101, 116]⟩ : ByteArray)] : List ByteArray) : List ByteArray)).bind fun y160 => (if a0 < 1 then (cloisterref10_Of.j0 k y145 y148 y151 y154 y157 y160 a0 true) else (cloisterref10_Of.j0 k y145 y148 y151 y154 y157 y160 a0 (decide (a0 > 48))))) = some (r1, r2, r3, r4, r5) := by first | (rw [hy157]; with_reducible exact H) | (have H2_ := (Option.bind_some _ _).symm.trans H; rw [hy157]; with_reducible exact H2_) | (have H2_ := (Option.bind_some _ _).symm.trans H; with_reducible exact H2_) | with_reducible exact H | (rw [hy157]; exact H) | exact H
  have Ny157 := Aside0.mk hy157
  clear hy157
  obtain ⟨y160, hy160⟩ : ∃ y_ : List ByteArray, y_ = (([(⟨#[119, 97, 105, 116]⟩ : ByteArray), (⟨#[101, 105]⟩ : ByteArray), (⟨#[100, 105]⟩ : ByteArray), (⟨#[101, 114, 101, 116]⟩ : ByteArray)] : List ByteArray)) := ⟨_, rfl⟩
  replace H : (if a0 < 1 then (cloisterref10_Of.j0 k y145 y148 y151 y154 y157 y160 a0 true) else (cloisterref10_Of.j0 k y145 y148 y151 y154 y157 y160 a0 (decide (a0 > 48)))) = some (r1, r2, r3, r4, r5) := by first | (rw [hy160]; with_reducible exact H) | (have H2_ := (Option.bind_some _ _).symm.trans H; rw [hy160]; with_reducible exact H2_) | (have H2_ := (Option.bind_some _ _).symm.trans H; with_reducible exact H2_) | with_reducible exact H | (rw [hy160]; exact H) | exact H
  have Ny160 := Aside0.mk hy160
  clear hy160
  have HC2 := Aside0.mk H
  clear H
  go_enter Tryz.func75, Tryz.ntmps75
  go_upto_region 8 with (first | ((with_reducible refine gate_dst (N := 2) rfl ?_); refine box_event ?hg (N := 2) ?hd (cs := #[.string (⟨#[]⟩ : ByteArray), .int .i64 0, .int .u8 0, .int .u8 0]) (t := 167) ?hr ?_; (case hd => rfl); (case hg => rfl); (case hr => first | (go_simp; done) | (go_simp; rfl)); intro gb144 hg w3 hbox hb; have n0_ := Aside0.mk (below_step (by repeat (first | (with_reducible first | exact HB.out | apply below_alloc | apply pw_below_drewN | apply below_drew1) | exact HB.out)) hb); have n1_ := Aside0.mk (hbox); have n2_ := Aside0.mk ((by rw [hg]; exact (below_size (by repeat (first | (with_reducible first | exact HB.out | apply below_alloc | apply pw_below_drewN | apply below_drew1) | exact HB.out))) : w.heap.size ≤ gb144)); have n3_ := Aside0.mk ((by rw [hg]; exact (below_size (by repeat (first | (with_reducible first | exact HB.out | apply below_alloc | apply pw_below_drewN | apply below_drew1) | exact HB.out))) : w.heap.size ≤ gb144)); clear HB; have HB := n0_; have BK144 := n1_; have GW144 := n2_; have GE144 := n3_; clear n0_ n1_ n2_ n3_; clear hb hbox hg) | ((with_reducible refine gate_dst (N := 11) rfl ?_); refine Kd.R_lit Kd.string _ 9 ?hg (N := 11) ?hd (xs := ([(⟨#[97, 100, 100]⟩ : ByteArray), (⟨#[115, 117, 98]⟩ : ByteArray), (⟨#[109, 117, 108]⟩ : ByteArray), (⟨#[100, 105, 118, 117]⟩ : ByteArray), (⟨#[114, 101, 109, 117]⟩ : ByteArray), (⟨#[97, 110, 100]⟩ : ByteArray), (⟨#[111, 114]⟩ : ByteArray), (⟨#[120, 111, 114]⟩ : ByteArray), (⟨#[115, 104, 108]⟩ : ByteArray), (⟨#[115, 104, 114]⟩ : ByteArray), (⟨#[115, 97, 114]⟩ : ByteArray), (⟨#[115, 108, 116]⟩ : ByteArray), (⟨#[115, 108, 116, 117]⟩ : ByteArray)] : List ByteArray)) (inner := [.string (⟨#[97, 100, 100]⟩ : ByteArray), .string (⟨#[115, 117, 98]⟩ : ByteArray), .string (⟨#[109, 117, 108]⟩ : ByteArray), .string (⟨#[100, 105, 118, 117]⟩ : ByteArray), .string (⟨#[114, 101, 109, 117]⟩ : ByteArray), .string (⟨#[97, 110, 100]⟩ : ByteArray), .string (⟨#[111, 114]⟩ : ByteArray), .string (⟨#[120, 111, 114]⟩ : ByteArray), .string (⟨#[115, 104, 108]⟩ : ByteArray), .string (⟨#[115, 104, 114]⟩ : ByteArray), .string (⟨#[115, 97, 114]⟩ : ByteArray), .string (⟨#[115, 108, 116]⟩ : ByteArray), .string (⟨#[115, 108, 116, 117]⟩ : ByteArray)]) (ok := fun _ => True) (okp := fun _ => True) ?hr ?hp (fun _ hk => hk) trivial (Below.refl _ _) (Nat.le_refl _) (by simp) ?_; (case hd => rfl); (case hg => rfl); (case hr => first | (go_simp; done) | (go_simp; rfl)); (case hp => exact (Reps.one (show Kd.M Kd.string _ _ _ (⟨#[97, 100, 100]⟩ : ByteArray) [.string (⟨#[97, 100, 100]⟩ : ByteArray)] from rfl) (Reps.one (show Kd.M Kd.string _ _ _ (⟨#[115, 117, 98]⟩ : ByteArray) [.string (⟨#[115, 117, 98]⟩ : ByteArray)] from rfl) (Reps.one (show Kd.M Kd.string _ _ _ (⟨#[109, 117, 108]⟩ : ByteArray) [.string (⟨#[109, 117, 108]⟩ : ByteArray)] from rfl) (Reps.one (show Kd.M Kd.string _ _ _ (⟨#[100, 105, 118, 117]⟩ : ByteArray) [.string (⟨#[100, 105, 118, 117]⟩ : ByteArray)] from rfl) (Reps.one (show Kd.M Kd.string _ _ _ (⟨#[114, 101, 109, 117]⟩ : ByteArray) [.string (⟨#[114, 101, 109, 117]⟩ : ByteArray)] from rfl) (Reps.one (show Kd.M Kd.string _ _ _ (⟨#[97, 110, 100]⟩ : ByteArray) [.string (⟨#[97, 110, 100]⟩ : ByteArray)] from rfl) (Reps.one (show Kd.M Kd.string _ _ _ (⟨#[111, 114]⟩ : ByteArray) [.string (⟨#[111, 114]⟩ : ByteArray)] from rfl) (Reps.one (show Kd.M Kd.string _ _ _ (⟨#[120, 111, 114]⟩ : ByteArray) [.string (⟨#[120, 111, 114]⟩ : ByteArray)] from rfl) (Reps.one (show Kd.M Kd.string _ _ _ (⟨#[115, 104, 108]⟩ : ByteArray) [.string (⟨#[115, 104, 108]⟩ : ByteArray)] from rfl) (Reps.one (show Kd.M Kd.string _ _ _ (⟨#[115, 104, 114]⟩ : ByteArray) [.string (⟨#[115, 104, 114]⟩ : ByteArray)] from rfl) (Reps.one (show Kd.M Kd.string _ _ _ (⟨#[115, 97, 114]⟩ : ByteArray) [.string (⟨#[115, 97, 114]⟩ : ByteArray)] from rfl) (Reps.one (show Kd.M Kd.string _ _ _ (⟨#[115, 108, 116]⟩ : ByteArray) [.string (⟨#[115, 108, 116]⟩ : ByteArray)] from rfl) (Reps.one (show Kd.M Kd.string _ _ _ (⟨#[115, 108, 116, 117]⟩ : ByteArray) [.string (⟨#[115, 108, 116, 117]⟩ : ByteArray)] from rfl) (Reps.none _ _))))))))))))))); intro v146 w4 ho5 hb hg_ hnew_; clear hg_ hnew_; (first | rw [← Ny145.out] at ho5 | (simp only [Int.reduceToNat] at ho5; rw [← Ny145.out] at ho5)); have n0_ := Aside0.mk (Kd.R_lower ho5 (below_size (by repeat (first | (with_reducible first | exact HB.out | apply below_alloc | apply pw_below_drewN | apply below_drew1 | refine below_set ?_ GE144.out) | exact HB.out)))); have n1_ := Aside0.mk (blk_below (g := gb144) (o := .cells #[.string (⟨#[]⟩ : ByteArray), .int .i64 0, .int .u8 0, .int .u8 0] 167 (0, 0)) (by (with_reducible repeat (first | refine blk_drewN ?_ _ | refine blk_drew ?_ | refine blk_alloc ?_ _)); exact BK144.out) hb); have n2_ := Aside0.mk (below_step (by repeat (first | (with_reducible first | exact HB.out | apply below_alloc | apply pw_below_drewN | apply below_drew1 | refine below_set ?_ GE144.out) | exact HB.out)) hb); clear BK144; clear HB; have HO147 := n0_; have BK144 := n1_; have HB := n2_; clear n0_ n1_ n2_; clear hb ho5) | ((with_reducible refine gate_dst (N := 12) rfl ?_); refine Kd.R_lit Kd.string _ 9 ?hg (N := 12) ?hd (xs := ([(⟨#[97, 100, 100, 105]⟩ : ByteArray), (⟨#[97, 110, 100, 105]⟩ : ByteArray), (⟨#[111, 114, 105]⟩ : ByteArray), (⟨#[120, 111, 114, 105]⟩ : ByteArray), (⟨#[115, 104, 108, 105]⟩ : ByteArray), (⟨#[115, 104, 114, 105]⟩ : ByteArray), (⟨#[115, 97, 114, 105]⟩ : ByteArray), (⟨#[115, 108, 116, 105]⟩ : ByteArray), (⟨#[115, 108, 116, 117, 105]⟩ : ByteArray)] : List ByteArray)) (inner := [.string (⟨#[97, 100, 100, 105]⟩ : ByteArray), .string (⟨#[97, 110, 100, 105]⟩ : ByteArray), .string (⟨#[111, 114, 105]⟩ : ByteArray), .string (⟨#[120, 111, 114, 105]⟩ : ByteArray), .string (⟨#[115, 104, 108, 105]⟩ : ByteArray), .string (⟨#[115, 104, 114, 105]⟩ : ByteArray), .string (⟨#[115, 97, 114, 105]⟩ : ByteArray), .string (⟨#[115, 108, 116, 105]⟩ : ByteArray), .string (⟨#[115, 108, 116, 117, 105]⟩ : ByteArray)]) (ok := fun _ => True) (okp := fun _ => True) ?hr ?hp (fun _ hk => hk) trivial (Below.refl _ _) (Nat.le_refl _) (by simp) ?_; (case hd => rfl); (case hg => rfl); (case hr => first | (go_simp; done) | (go_simp; rfl)); (case hp => exact (Reps.one (show Kd.M Kd.string _ _ _ (⟨#[97, 100, 100, 105]⟩ : ByteArray) [.string (⟨#[97, 100, 100, 105]⟩ : ByteArray)] from rfl) (Reps.one (show Kd.M Kd.string _ _ _ (⟨#[97, 110, 100, 105]⟩ : ByteArray) [.string (⟨#[97, 110, 100, 105]⟩ : ByteArray)] from rfl) (Reps.one (show Kd.M Kd.string _ _ _ (⟨#[111, 114, 105]⟩ : ByteArray) [.string (⟨#[111, 114, 105]⟩ : ByteArray)] from rfl) (Reps.one (show Kd.M Kd.string _ _ _ (⟨#[120, 111, 114, 105]⟩ : ByteArray) [.string (⟨#[120, 111, 114, 105]⟩ : ByteArray)] from rfl) (Reps.one (show Kd.M Kd.string _ _ _ (⟨#[115, 104, 108, 105]⟩ : ByteArray) [.string (⟨#[115, 104, 108, 105]⟩ : ByteArray)] from rfl) (Reps.one (show Kd.M Kd.string _ _ _ (⟨#[115, 104, 114, 105]⟩ : ByteArray) [.string (⟨#[115, 104, 114, 105]⟩ : ByteArray)] from rfl) (Reps.one (show Kd.M Kd.string _ _ _ (⟨#[115, 97, 114, 105]⟩ : ByteArray) [.string (⟨#[115, 97, 114, 105]⟩ : ByteArray)] from rfl) (Reps.one (show Kd.M Kd.string _ _ _ (⟨#[115, 108, 116, 105]⟩ : ByteArray) [.string (⟨#[115, 108, 116, 105]⟩ : ByteArray)] from rfl) (Reps.one (show Kd.M Kd.string _ _ _ (⟨#[115, 108, 116, 117, 105]⟩ : ByteArray) [.string (⟨#[115, 108, 116, 117, 105]⟩ : ByteArray)] from rfl) (Reps.none _ _))))))))))); intro v149 w6 ho7 hb hg_ hnew_; clear hg_ hnew_; (first | rw [← Ny148.out] at ho7 | (simp only [Int.reduceToNat] at ho7; rw [← Ny148.out] at ho7)); have n0_ := Aside0.mk (Kd.R_elder' (by (with_reducible repeat (first | apply Kd.R_alloc | apply Kd.R_drewN | apply Kd.R_drew)); exact HO147.out) (Kd.R_base ho7) hb); have n1_ := Aside0.mk (Kd.R_lower (Kd.R_new' ho7 (Kd.R_lt (by (with_reducible repeat (first | apply Kd.R_alloc | apply Kd.R_drewN | apply Kd.R_drew)); exact HO147.out))) (below_size (by repeat (first | (with_reducible first | exact HB.out | apply below_alloc | apply pw_below_drewN | apply below_drew1 | refine below_set ?_ GE144.out) | exact HB.out)))); have n2_ := Aside0.mk (blk_below (g := gb144) (o := .cells #[.string (⟨#[]⟩ : ByteArray), .int .i64 0, .int .u8 0, .int .u8 0] 167 (0, 0)) (by (with_reducible repeat (first | refine blk_drewN ?_ _ | refine blk_drew ?_ | refine blk_alloc ?_ _)); exact BK144.out) hb); have n3_ := Aside0.mk (below_step (by repeat (first | (with_reducible first | exact HB.out | apply below_alloc | apply pw_below_drewN | apply below_drew1 | refine below_set ?_ GE144.out) | exact HB.out)) hb); clear HO147; clear BK144; clear HB; have HO147 := n0_; have HO150 := n1_; have BK144 := n2_; have HB := n3_; clear n0_ n1_ n2_ n3_; clear hb ho7) | ((with_reducible refine gate_dst (N := 13) rfl ?_); refine Kd.R_lit Kd.string _ 9 ?hg (N := 13) ?hd (xs := ([(⟨#[108, 98]⟩ : ByteArray), (⟨#[108, 98, 117]⟩ : ByteArray), (⟨#[108, 104]⟩ : ByteArray), (⟨#[108, 104, 117]⟩ : ByteArray), (⟨#[108, 119]⟩ : ByteArray)] : List ByteArray)) (inner := [.string (⟨#[108, 98]⟩ : ByteArray), .string (⟨#[108, 98, 117]⟩ : ByteArray), .string (⟨#[108, 104]⟩ : ByteArray), .string (⟨#[108, 104, 117]⟩ : ByteArray), .string (⟨#[108, 119]⟩ : ByteArray)]) (ok := fun _ => True) (okp := fun _ => True) ?hr ?hp (fun _ hk => hk) trivial (Below.refl _ _) (Nat.le_refl _) (by simp) ?_; (case hd => rfl); (case hg => rfl); (case hr => first | (go_simp; done) | (go_simp; rfl)); (case hp => exact (Reps.one (show Kd.M Kd.string _ _ _ (⟨#[108, 98]⟩ : ByteArray) [.string (⟨#[108, 98]⟩ : ByteArray)] from rfl) (Reps.one (show Kd.M Kd.string _ _ _ (⟨#[108, 98, 117]⟩ : ByteArray) [.string (⟨#[108, 98, 117]⟩ : ByteArray)] from rfl) (Reps.one (show Kd.M Kd.string _ _ _ (⟨#[108, 104]⟩ : ByteArray) [.string (⟨#[108, 104]⟩ : ByteArray)] from rfl) (Reps.one (show Kd.M Kd.string _ _ _ (⟨#[108, 104, 117]⟩ : ByteArray) [.string (⟨#[108, 104, 117]⟩ : ByteArray)] from rfl) (Reps.one (show Kd.M Kd.string _ _ _ (⟨#[108, 119]⟩ : ByteArray) [.string (⟨#[108, 119]⟩ : ByteArray)] from rfl) (Reps.none _ _))))))); intro v152 w8 ho9 hb hg_ hnew_; clear hg_ hnew_; (first | rw [← Ny151.out] at ho9 | (simp only [Int.reduceToNat] at ho9; rw [← Ny151.out] at ho9)); have n0_ := Aside0.mk (Kd.R_elder' (by (with_reducible repeat (first | apply Kd.R_alloc | apply Kd.R_drewN | apply Kd.R_drew)); exact HO147.out) (Kd.R_base ho9) hb); have n1_ := Aside0.mk (Kd.R_elder' (by (with_reducible repeat (first | apply Kd.R_alloc | apply Kd.R_drewN | apply Kd.R_drew)); exact HO150.out) (Kd.R_base ho9) hb); have n2_ := Aside0.mk (Kd.R_lower (Kd.R_new' (Kd.R_new' ho9 (Kd.R_lt (by (with_reducible repeat (first | apply Kd.R_alloc | apply Kd.R_drewN | apply Kd.R_drew)); exact HO147.out))) (Kd.R_lt (by (with_reducible repeat (first | apply Kd.R_alloc | apply Kd.R_drewN | apply Kd.R_drew)); exact HO150.out))) (below_size (by repeat (first | (with_reducible first | exact HB.out | apply below_alloc | apply pw_below_drewN | apply below_drew1 | refine below_set ?_ GE144.out) | exact HB.out)))); have n3_ := Aside0.mk (blk_below (g := gb144) (o := .cells #[.string (⟨#[]⟩ : ByteArray), .int .i64 0, .int .u8 0, .int .u8 0] 167 (0, 0)) (by (with_reducible repeat (first | refine blk_drewN ?_ _ | refine blk_drew ?_ | refine blk_alloc ?_ _)); exact BK144.out) hb); have n4_ := Aside0.mk (below_step (by repeat (first | (with_reducible first | exact HB.out | apply below_alloc | apply pw_below_drewN | apply below_drew1 | refine below_set ?_ GE144.out) | exact HB.out)) hb); clear HO147; clear HO150; clear BK144; clear HB; have HO147 := n0_; have HO150 := n1_; have HO153 := n2_; have BK144 := n3_; have HB := n4_; clear n0_ n1_ n2_ n3_ n4_; clear hb ho9) | ((with_reducible refine gate_dst (N := 14) rfl ?_); refine Kd.R_lit Kd.string _ 9 ?hg (N := 14) ?hd (xs := ([(⟨#[115, 98]⟩ : ByteArray), (⟨#[115, 104]⟩ : ByteArray), (⟨#[115, 119]⟩ : ByteArray)] : List ByteArray)) (inner := [.string (⟨#[115, 98]⟩ : ByteArray), .string (⟨#[115, 104]⟩ : ByteArray), .string (⟨#[115, 119]⟩ : ByteArray)]) (ok := fun _ => True) (okp := fun _ => True) ?hr ?hp (fun _ hk => hk) trivial (Below.refl _ _) (Nat.le_refl _) (by simp) ?_; (case hd => rfl); (case hg => rfl); (case hr => first | (go_simp; done) | (go_simp; rfl)); (case hp => exact (Reps.one (show Kd.M Kd.string _ _ _ (⟨#[115, 98]⟩ : ByteArray) [.string (⟨#[115, 98]⟩ : ByteArray)] from rfl) (Reps.one (show Kd.M Kd.string _ _ _ (⟨#[115, 104]⟩ : ByteArray) [.string (⟨#[115, 104]⟩ : ByteArray)] from rfl) (Reps.one (show Kd.M Kd.string _ _ _ (⟨#[115, 119]⟩ : ByteArray) [.string (⟨#[115, 119]⟩ : ByteArray)] from rfl) (Reps.none _ _))))); intro v155 w10 ho11 hb hg_ hnew_; clear hg_ hnew_; (first | rw [← Ny154.out] at ho11 | (simp only [Int.reduceToNat] at ho11; rw [← Ny154.out] at ho11)); have n0_ := Aside0.mk (Kd.R_elder' (by (with_reducible repeat (first | apply Kd.R_alloc | apply Kd.R_drewN | apply Kd.R_drew)); exact HO147.out) (Kd.R_base ho11) hb); have n1_ := Aside0.mk (Kd.R_elder' (by (with_reducible repeat (first | apply Kd.R_alloc | apply Kd.R_drewN | apply Kd.R_drew)); exact HO150.out) (Kd.R_base ho11) hb); have n2_ := Aside0.mk (Kd.R_elder' (by (with_reducible repeat (first | apply Kd.R_alloc | apply Kd.R_drewN | apply Kd.R_drew)); exact HO153.out) (Kd.R_base ho11) hb); have n3_ := Aside0.mk (Kd.R_lower (Kd.R_new' (Kd.R_new' (Kd.R_new' ho11 (Kd.R_lt (by (with_reducible repeat (first | apply Kd.R_alloc | apply Kd.R_drewN | apply Kd.R_drew)); exact HO147.out))) (Kd.R_lt (by (with_reducible repeat (first | apply Kd.R_alloc | apply Kd.R_drewN | apply Kd.R_drew)); exact HO150.out))) (Kd.R_lt (by (with_reducible repeat (first | apply Kd.R_alloc | apply Kd.R_drewN | apply Kd.R_drew)); exact HO153.out))) (below_size (by repeat (first | (with_reducible first | exact HB.out | apply below_alloc | apply pw_below_drewN | apply below_drew1 | refine below_set ?_ GE144.out) | exact HB.out)))); have n4_ := Aside0.mk (blk_below (g := gb144) (o := .cells #[.string (⟨#[]⟩ : ByteArray), .int .i64 0, .int .u8 0, .int .u8 0] 167 (0, 0)) (by (with_reducible repeat (first | refine blk_drewN ?_ _ | refine blk_drew ?_ | refine blk_alloc ?_ _)); exact BK144.out) hb); have n5_ := Aside0.mk (below_step (by repeat (first | (with_reducible first | exact HB.out | apply below_alloc | apply pw_below_drewN | apply below_drew1 | refine below_set ?_ GE144.out) | exact HB.out)) hb); clear HO147; clear HO150; clear HO153; clear BK144; clear HB; have HO147 := n0_; have HO150 := n1_; have HO153 := n2_; have HO156 := n3_; have BK144 := n4_; have HB := n5_; clear n0_ n1_ n2_ n3_ n4_ n5_; clear hb ho11) | ((with_reducible refine gate_dst (N := 15) rfl ?_); refine Kd.R_lit Kd.string _ 9 ?hg (N := 15) ?hd (xs := ([(⟨#[98, 101, 113]⟩ : ByteArray), (⟨#[98, 110, 101]⟩ : ByteArray), (⟨#[98, 108, 116]⟩ : ByteArray), (⟨#[98, 103, 101]⟩ : ByteArray), (⟨#[98, 108, 116, 117]⟩ : ByteArray), (⟨#[98, 103, 101, 117]⟩ : ByteArray)] : List ByteArray)) (inner := [.string (⟨#[98, 101, 113]⟩ : ByteArray), .string (⟨#[98, 110, 101]⟩ : ByteArray), .string (⟨#[98, 108, 116]⟩ : ByteArray), .string (⟨#[98, 103, 101]⟩ : ByteArray), .string (⟨#[98, 108, 116, 117]⟩ : ByteArray), .string (⟨#[98, 103, 101, 117]⟩ : ByteArray)]) (ok := fun _ => True) (okp := fun _ => True) ?hr ?hp (fun _ hk => hk) trivial (Below.refl _ _) (Nat.le_refl _) (by simp) ?_; (case hd => rfl); (case hg => rfl); (case hr => first | (go_simp; done) | (go_simp; rfl)); (case hp => exact (Reps.one (show Kd.M Kd.string _ _ _ (⟨#[98, 101, 113]⟩ : ByteArray) [.string (⟨#[98, 101, 113]⟩ : ByteArray)] from rfl) (Reps.one (show Kd.M Kd.string _ _ _ (⟨#[98, 110, 101]⟩ : ByteArray) [.string (⟨#[98, 110, 101]⟩ : ByteArray)] from rfl) (Reps.one (show Kd.M Kd.string _ _ _ (⟨#[98, 108, 116]⟩ : ByteArray) [.string (⟨#[98, 108, 116]⟩ : ByteArray)] from rfl) (Reps.one (show Kd.M Kd.string _ _ _ (⟨#[98, 103, 101]⟩ : ByteArray) [.string (⟨#[98, 103, 101]⟩ : ByteArray)] from rfl) (Reps.one (show Kd.M Kd.string _ _ _ (⟨#[98, 108, 116, 117]⟩ : ByteArray) [.string (⟨#[98, 108, 116, 117]⟩ : ByteArray)] from rfl) (Reps.one (show Kd.M Kd.string _ _ _ (⟨#[98, 103, 101, 117]⟩ : ByteArray) [.string (⟨#[98, 103, 101, 117]⟩ : ByteArray)] from rfl) (Reps.none _ _)))))))); intro v158 w12 ho13 hb hg_ hnew_; clear hg_ hnew_; (first | rw [← Ny157.out] at ho13 | (simp only [Int.reduceToNat] at ho13; rw [← Ny157.out] at ho13)); have n0_ := Aside0.mk (Kd.R_elder' (by (with_reducible repeat (first | apply Kd.R_alloc | apply Kd.R_drewN | apply Kd.R_drew)); exact HO147.out) (Kd.R_base ho13) hb); have n1_ := Aside0.mk (Kd.R_elder' (by (with_reducible repeat (first | apply Kd.R_alloc | apply Kd.R_drewN | apply Kd.R_drew)); exact HO150.out) (Kd.R_base ho13) hb); have n2_ := Aside0.mk (Kd.R_elder' (by (with_reducible repeat (first | apply Kd.R_alloc | apply Kd.R_drewN | apply Kd.R_drew)); exact HO153.out) (Kd.R_base ho13) hb); have n3_ := Aside0.mk (Kd.R_elder' (by (with_reducible repeat (first | apply Kd.R_alloc | apply Kd.R_drewN | apply Kd.R_drew)); exact HO156.out) (Kd.R_base ho13) hb); have n4_ := Aside0.mk (Kd.R_lower (Kd.R_new' (Kd.R_new' (Kd.R_new' (Kd.R_new' ho13 (Kd.R_lt (by (with_reducible repeat (first | apply Kd.R_alloc | apply Kd.R_drewN | apply Kd.R_drew)); exact HO147.out))) (Kd.R_lt (by (with_reducible repeat (first | apply Kd.R_alloc | apply Kd.R_drewN | apply Kd.R_drew)); exact HO150.out))) (Kd.R_lt (by (with_reducible repeat (first | apply Kd.R_alloc | apply Kd.R_drewN | apply Kd.R_drew)); exact HO153.out))) (Kd.R_lt (by (with_reducible repeat (first | apply Kd.R_alloc | apply Kd.R_drewN | apply Kd.R_drew)); exact HO156.out))) (below_size (by repeat (first | (with_reducible first | exact HB.out | apply below_alloc | apply pw_below_drewN | apply below_drew1 | refine below_set ?_ GE144.out) | exact HB.out)))); have n5_ := Aside0.mk (blk_below (g := gb144) (o := .cells #[.string (⟨#[]⟩ : ByteArray), .int .i64 0, .int .u8 0, .int .u8 0] 167 (0, 0)) (by (with_reducible repeat (first | refine blk_drewN ?_ _ | refine blk_drew ?_ | refine blk_alloc ?_ _)); exact BK144.out) hb); have n6_ := Aside0.mk (below_step (by repeat (first | (with_reducible first | exact HB.out | apply below_alloc | apply pw_below_drewN | apply below_drew1 | refine below_set ?_ GE144.out) | exact HB.out)) hb); clear HO147; clear HO150; clear HO153; clear HO156; clear BK144; clear HB; have HO147 := n0_; have HO150 := n1_; have HO153 := n2_; have HO156 := n3_; have HO159 := n4_; have BK144 := n5_; have HB := n6_; clear n0_ n1_ n2_ n3_ n4_ n5_ n6_; clear hb ho13) | ((with_reducible refine gate_dst (N := 16) rfl ?_); refine Kd.R_lit Kd.string _ 9 ?hg (N := 16) ?hd (xs := ([(⟨#[119, 97, 105, 116]⟩ : ByteArray), (⟨#[101, 105]⟩ : ByteArray), (⟨#[100, 105]⟩ : ByteArray), (⟨#[101, 114, 101, 116]⟩ : ByteArray)] : List ByteArray)) (inner := [.string (⟨#[119, 97, 105, 116]⟩ : ByteArray), .string (⟨#[101, 105]⟩ : ByteArray), .string (⟨#[100, 105]⟩ : ByteArray), .string (⟨#[101, 114, 101, 116]⟩ : ByteArray)]) (ok := fun _ => True) (okp := fun _ => True) ?hr ?hp (fun _ hk => hk) trivial (Below.refl _ _) (Nat.le_refl _) (by simp) ?_; (case hd => rfl); (case hg => rfl); (case hr => first | (go_simp; done) | (go_simp; rfl)); (case hp => exact (Reps.one (show Kd.M Kd.string _ _ _ (⟨#[119, 97, 105, 116]⟩ : ByteArray) [.string (⟨#[119, 97, 105, 116]⟩ : ByteArray)] from rfl) (Reps.one (show Kd.M Kd.string _ _ _ (⟨#[101, 105]⟩ : ByteArray) [.string (⟨#[101, 105]⟩ : ByteArray)] from rfl) (Reps.one (show Kd.M Kd.string _ _ _ (⟨#[100, 105]⟩ : ByteArray) [.string (⟨#[100, 105]⟩ : ByteArray)] from rfl) (Reps.one (show Kd.M Kd.string _ _ _ (⟨#[101, 114, 101, 116]⟩ : ByteArray) [.string (⟨#[101, 114, 101, 116]⟩ : ByteArray)] from rfl) (Reps.none _ _)))))); intro v161 w14 ho15 hb hg_ hnew_; clear hg_ hnew_; (first | rw [← Ny160.out] at ho15 | (simp only [Int.reduceToNat] at ho15; rw [← Ny160.out] at ho15)); have n0_ := Aside0.mk (Kd.R_elder' (by (with_reducible repeat (first | apply Kd.R_alloc | apply Kd.R_drewN | apply Kd.R_drew)); exact HO147.out) (Kd.R_base ho15) hb); have n1_ := Aside0.mk (Kd.R_elder' (by (with_reducible repeat (first | apply Kd.R_alloc | apply Kd.R_drewN | apply Kd.R_drew)); exact HO150.out) (Kd.R_base ho15) hb); have n2_ := Aside0.mk (Kd.R_elder' (by (with_reducible repeat (first | apply Kd.R_alloc | apply Kd.R_drewN | apply Kd.R_drew)); exact HO153.out) (Kd.R_base ho15) hb); have n3_ := Aside0.mk (Kd.R_elder' (by (with_reducible repeat (first | apply Kd.R_alloc | apply Kd.R_drewN | apply Kd.R_drew)); exact HO156.out) (Kd.R_base ho15) hb); have n4_ := Aside0.mk (Kd.R_elder' (by (with_reducible repeat (first | apply Kd.R_alloc | apply Kd.R_drewN | apply Kd.R_drew)); exact HO159.out) (Kd.R_base ho15) hb); have n5_ := Aside0.mk (Kd.R_lower (Kd.R_new' (Kd.R_new' (Kd.R_new' (Kd.R_new' (Kd.R_new' ho15 (Kd.R_lt (by (with_reducible repeat (first | apply Kd.R_alloc | apply Kd.R_drewN | apply Kd.R_drew)); exact HO147.out))) (Kd.R_lt (by (with_reducible repeat (first | apply Kd.R_alloc | apply Kd.R_drewN | apply Kd.R_drew)); exact HO150.out))) (Kd.R_lt (by (with_reducible repeat (first | apply Kd.R_alloc | apply Kd.R_drewN | apply Kd.R_drew)); exact HO153.out))) (Kd.R_lt (by (with_reducible repeat (first | apply Kd.R_alloc | apply Kd.R_drewN | apply Kd.R_drew)); exact HO156.out))) (Kd.R_lt (by (with_reducible repeat (first | apply Kd.R_alloc | apply Kd.R_drewN | apply Kd.R_drew)); exact HO159.out))) (below_size (by repeat (first | (with_reducible first | exact HB.out | apply below_alloc | apply pw_below_drewN | apply below_drew1 | refine below_set ?_ GE144.out) | exact HB.out)))); have n6_ := Aside0.mk (blk_below (g := gb144) (o := .cells #[.string (⟨#[]⟩ : ByteArray), .int .i64 0, .int .u8 0, .int .u8 0] 167 (0, 0)) (by (with_reducible repeat (first | refine blk_drewN ?_ _ | refine blk_drew ?_ | refine blk_alloc ?_ _)); exact BK144.out) hb); have n7_ := Aside0.mk (below_step (by repeat (first | (with_reducible first | exact HB.out | apply below_alloc | apply pw_below_drewN | apply below_drew1 | refine below_set ?_ GE144.out) | exact HB.out)) hb); clear HO147; clear HO150; clear HO153; clear HO156; clear HO159; clear BK144; clear HB; have HO147 := n0_; have HO150 := n1_; have HO153 := n2_; have HO156 := n3_; have HO159 := n4_; have HO162 := n5_; have BK144 := n6_; have HB := n7_; clear n0_ n1_ n2_ n3_ n4_ n5_ n6_ n7_; clear hb ho15))
  (try simp only [Act.put, List.setIfInBounds_toArray, List.set_cons_zero, List.set_cons_succ])
  go_cut [18] (fun v18 wc => ∃ (kq : Nat) (x18_1 : Bool), v18 = .bool x18_1 ∧ Aside0 (cloisterref10_Of.j0 kq y145 y148 y151 y154 y157 y160 a0 x18_1 = some (r1, r2, r3, r4, r5)) ∧ Aside0 (kq ≤ k) ∧ Aside0 (Kd.R Kd.string 9 wc w.heap.size (fun k_ => some k_ ≠ (v149 : Value).ownBlock ∧ some k_ ≠ (v152 : Value).ownBlock ∧ some k_ ≠ (v155 : Value).ownBlock ∧ some k_ ≠ (v158 : Value).ownBlock ∧ some k_ ≠ (v161 : Value).ownBlock) v146 y145) ∧ Aside0 (Kd.R Kd.string 9 wc w.heap.size (fun k_ => some k_ ≠ (v146 : Value).ownBlock ∧ some k_ ≠ (v152 : Value).ownBlock ∧ some k_ ≠ (v155 : Value).ownBlock ∧ some k_ ≠ (v158 : Value).ownBlock ∧ some k_ ≠ (v161 : Value).ownBlock) v149 y148) ∧ Aside0 (Kd.R Kd.string 9 wc w.heap.size (fun k_ => some k_ ≠ (v146 : Value).ownBlock ∧ some k_ ≠ (v149 : Value).ownBlock ∧ some k_ ≠ (v155 : Value).ownBlock ∧ some k_ ≠ (v158 : Value).ownBlock ∧ some k_ ≠ (v161 : Value).ownBlock) v152 y151) ∧ Aside0 (Kd.R Kd.string 9 wc w.heap.size (fun k_ => some k_ ≠ (v146 : Value).ownBlock ∧ some k_ ≠ (v149 : Value).ownBlock ∧ some k_ ≠ (v152 : Value).ownBlock ∧ some k_ ≠ (v158 : Value).ownBlock ∧ some k_ ≠ (v161 : Value).ownBlock) v155 y154) ∧ Aside0 (Kd.R Kd.string 9 wc w.heap.size (fun k_ => some k_ ≠ (v146 : Value).ownBlock ∧ some k_ ≠ (v149 : Value).ownBlock ∧ some k_ ≠ (v152 : Value).ownBlock ∧ some k_ ≠ (v155 : Value).ownBlock ∧ some k_ ≠ (v161 : Value).ownBlock) v158 y157) ∧ Aside0 (Kd.R Kd.string 9 wc w.heap.size (fun k_ => some k_ ≠ (v146 : Value).ownBlock ∧ some k_ ≠ (v149 : Value).ownBlock ∧ some k_ ≠ (v152 : Value).ownBlock ∧ some k_ ≠ (v155 : Value).ownBlock ∧ some k_ ≠ (v158 : Value).ownBlock) v161 y160) ∧ Aside0 (wc.heap[gb144]? = some (.cells #[.string (⟨#[]⟩ : ByteArray), .int .i64 0, .int .u8 0, .int .u8 0] 167 (0, 0))) ∧ Aside0 (Below w.heap.size w wc))
  case first =>
    have H := HC2.out
    clear HC2
    by_cases c16 : a0 < 1
    · rw [if_pos c16] at H
      have c16b0 : decide (a0 < 1) = true := decide_eq_true c16
      clear c16
      (first | rw [c16b0] | (simp only [i64_w, i32_w]; rw [c16b0]) | skip)
      have H' := Aside0.mk H
      clear H
      go_wp2
      go_meet
      case rel => exact ⟨_, (true), (by first | rfl | (simp; done) | (simp [*]; done)), H', ⟨by first | omega | exact Nat.le_refl _⟩, ⟨by (with_reducible repeat (first | apply Kd.R_alloc | apply Kd.R_drewN | apply Kd.R_drew)); exact Kd.R_mono HO147.out (fun _ hk => ⟨hk.1.1.1.1.2, ⟨hk.1.1.1.2, ⟨hk.1.1.2, ⟨hk.1.2, hk.2⟩⟩⟩⟩)⟩, ⟨by (with_reducible repeat (first | apply Kd.R_alloc | apply Kd.R_drewN | apply Kd.R_drew)); exact Kd.R_mono HO150.out (fun _ hk => ⟨hk.1.1.1.1.2, ⟨hk.1.1.1.2, ⟨hk.1.1.2, ⟨hk.1.2, hk.2⟩⟩⟩⟩)⟩, ⟨by (with_reducible repeat (first | apply Kd.R_alloc | apply Kd.R_drewN | apply Kd.R_drew)); exact Kd.R_mono HO153.out (fun _ hk => ⟨hk.1.1.1.1.2, ⟨hk.1.1.1.2, ⟨hk.1.1.2, ⟨hk.1.2, hk.2⟩⟩⟩⟩)⟩, ⟨by (with_reducible repeat (first | apply Kd.R_alloc | apply Kd.R_drewN | apply Kd.R_drew)); exact Kd.R_mono HO156.out (fun _ hk => ⟨hk.1.1.1.1.2, ⟨hk.1.1.1.2, ⟨hk.1.1.2, ⟨hk.1.2, hk.2⟩⟩⟩⟩)⟩, ⟨by (with_reducible repeat (first | apply Kd.R_alloc | apply Kd.R_drewN | apply Kd.R_drew)); exact Kd.R_mono HO159.out (fun _ hk => ⟨hk.1.1.1.1.2, ⟨hk.1.1.1.2, ⟨hk.1.1.2, ⟨hk.1.2, hk.2⟩⟩⟩⟩)⟩, ⟨by (with_reducible repeat (first | apply Kd.R_alloc | apply Kd.R_drewN | apply Kd.R_drew)); exact Kd.R_mono HO162.out (fun _ hk => ⟨hk.1.1.1.1.2, ⟨hk.1.1.1.2, ⟨hk.1.1.2, ⟨hk.1.2, hk.2⟩⟩⟩⟩)⟩, ⟨by (with_reducible repeat (first | refine blk_drewN ?_ _ | refine blk_drew ?_ | refine blk_alloc ?_ _)); exact BK144.out⟩, ⟨by repeat (first | (with_reducible first | exact HB.out | apply below_alloc | apply pw_below_drewN | apply below_drew1 | refine below_set ?_ GE144.out) | exact HB.out)⟩⟩
    · rw [if_neg c16] at H
      have c16b0 : decide (a0 < 1) = false := decide_eq_false c16
      clear c16
      (first | rw [c16b0] | (simp only [i64_w, i32_w]; rw [c16b0]) | skip)
      have H' := Aside0.mk H
      clear H
      go_wp2
      go_meet
      case rel => exact ⟨_, (decide (a0 > 48)), (by first | rfl | (simp; done) | (simp [*]; done)), H', ⟨by first | omega | exact Nat.le_refl _⟩, ⟨by (with_reducible repeat (first | apply Kd.R_alloc | apply Kd.R_drewN | apply Kd.R_drew)); exact Kd.R_mono HO147.out (fun _ hk => ⟨hk.1.1.1.1.2, ⟨hk.1.1.1.2, ⟨hk.1.1.2, ⟨hk.1.2, hk.2⟩⟩⟩⟩)⟩, ⟨by (with_reducible repeat (first | apply Kd.R_alloc | apply Kd.R_drewN | apply Kd.R_drew)); exact Kd.R_mono HO150.out (fun _ hk => ⟨hk.1.1.1.1.2, ⟨hk.1.1.1.2, ⟨hk.1.1.2, ⟨hk.1.2, hk.2⟩⟩⟩⟩)⟩, ⟨by (with_reducible repeat (first | apply Kd.R_alloc | apply Kd.R_drewN | apply Kd.R_drew)); exact Kd.R_mono HO153.out (fun _ hk => ⟨hk.1.1.1.1.2, ⟨hk.1.1.1.2, ⟨hk.1.1.2, ⟨hk.1.2, hk.2⟩⟩⟩⟩)⟩, ⟨by (with_reducible repeat (first | apply Kd.R_alloc | apply Kd.R_drewN | apply Kd.R_drew)); exact Kd.R_mono HO156.out (fun _ hk => ⟨hk.1.1.1.1.2, ⟨hk.1.1.1.2, ⟨hk.1.1.2, ⟨hk.1.2, hk.2⟩⟩⟩⟩)⟩, ⟨by (with_reducible repeat (first | apply Kd.R_alloc | apply Kd.R_drewN | apply Kd.R_drew)); exact Kd.R_mono HO159.out (fun _ hk => ⟨hk.1.1.1.1.2, ⟨hk.1.1.1.2, ⟨hk.1.1.2, ⟨hk.1.2, hk.2⟩⟩⟩⟩)⟩, ⟨by (with_reducible repeat (first | apply Kd.R_alloc | apply Kd.R_drewN | apply Kd.R_drew)); exact Kd.R_mono HO162.out (fun _ hk => ⟨hk.1.1.1.1.2, ⟨hk.1.1.1.2, ⟨hk.1.1.2, ⟨hk.1.2, hk.2⟩⟩⟩⟩)⟩, ⟨by (with_reducible repeat (first | refine blk_drewN ?_ _ | refine blk_drew ?_ | refine blk_alloc ?_ _)); exact BK144.out⟩, ⟨by repeat (first | (with_reducible first | exact HB.out | apply below_alloc | apply pw_below_drewN | apply below_drew1 | refine below_set ?_ GE144.out) | exact HB.out)⟩⟩
  case rest =>
    clear HC2
    try clear c1
    try clear p2
    try clear c7
    try clear c16
    try clear c16b0
    obtain ⟨kq, x18_1, rfl, HA, HJ1, HO_4, HO_5, HO_6, HO_7, HO_8, HO_9, BK144, HB⟩ := hcut
    cases kq with
    | zero => exact absurd HA.out (by simp [cloisterref10_Of.j0])
    | succ kj1 =>
      have H := HA.out
      clear HA
      simp only [cloisterref10_Of.j0] at H
      by_cases c17 : x18_1 = true
      · subst c17
        have H1 : (some ((⟨#[]⟩ : ByteArray), 0, 0, 0, false)) = some (r1, r2, r3, r4, r5) := by rw [if_pos rfl] at H; exact H
        clear H
        have H := H1
        clear H1
        simp only [Option.some.injEq, Prod.mk.injEq] at H
        obtain ⟨rfl, rfl, rfl, rfl, rfl⟩ := H
        have hcz18_0 : wc.cell? ⟨gb144, 0, none⟩ = some (.string (⟨#[]⟩ : ByteArray)) := (blk_cell BK144.out 0).trans rfl
        have hcz18_1 : wc.cell? ⟨gb144, 1, none⟩ = some (.int .i64 0) := (blk_cell BK144.out 1).trans rfl
        have hcz18_2 : wc.cell? ⟨gb144, 2, none⟩ = some (.int .u8 0) := (blk_cell BK144.out 2).trans rfl
        have hcz18_3 : wc.cell? ⟨gb144, 3, none⟩ = some (.int .u8 0) := (blk_cell BK144.out 3).trans rfl
        have hfz18_0 := blk_frozen BK144.out 0
        have hfz18_1 := blk_frozen BK144.out 1
        have hfz18_2 := blk_frozen BK144.out 2
        have hfz18_3 := blk_frozen BK144.out 3
        go_wp2
        refine bodyPost_ret (results_ct rfl _ _ gb144 167 #[.string (⟨#[]⟩ : ByteArray), .int .i64 0, .int .u8 0, .int .u8 0] (0, 0) _ rfl (by (with_reducible repeat (first | refine blk_drewN ?_ _ | refine blk_drew ?_ | refine blk_alloc ?_ _)); refine blk_put (cs := #[.string (⟨#[]⟩ : ByteArray), .int .i64 0, .int .u8 0, .int .u8 0]) ?_ 3 _ rfl; (with_reducible repeat (first | refine blk_drewN ?_ _ | refine blk_drew ?_ | refine blk_alloc ?_ _)); refine blk_put (cs := #[.string (⟨#[]⟩ : ByteArray), .int .i64 0, .int .u8 0, .int .u8 0]) ?_ 2 _ rfl; (with_reducible repeat (first | refine blk_drewN ?_ _ | refine blk_drew ?_ | refine blk_alloc ?_ _)); refine blk_put (cs := #[.string (⟨#[]⟩ : ByteArray), .int .i64 0, .int .u8 0, .int .u8 0]) ?_ 1 _ rfl; (with_reducible repeat (first | refine blk_drewN ?_ _ | refine blk_drew ?_ | refine blk_alloc ?_ _)); refine blk_put (cs := #[.string (⟨#[]⟩ : ByteArray), .int .i64 0, .int .u8 0, .int .u8 0]) ?_ 0 _ rfl; (with_reducible repeat (first | refine blk_drewN ?_ _ | refine blk_drew ?_ | refine blk_alloc ?_ _)); exact BK144.out) Tryz.underlying167 rfl (by kernel_rfl)) rfl ?_
        exact ⟨by first | rfl | (simp [errW_none, errW_some] <;> rfl) | (simp [*, errW_none, errW_some] <;> rfl), by repeat (first | (with_reducible first | exact HB.out | apply below_alloc | apply pw_below_drewN | apply below_drew1 | refine below_set ?_ GE144.out) | exact HB.out)⟩
      · replace c17 := Bool.eq_false_iff.mpr c17
        subst c17
        have H1 : (if a0 ≤ 13 then (if 0 ≤ (wrap64 (a0 - 1)) then (if (wrap64 (a0 - 1)) < (y145.length : Int) then (some (rdOf ByteArray.empty y145 (wrap64 (a0 - 1)), 1, 45, 51, true)) else (none)) else (none)) else (if a0 ≤ 22 then (if 0 ≤ (wrap64 (a0 - 14)) then (if (wrap64 (a0 - 14)) < (y148.length : Int) then (if (wrap64 (a0 - 14)) < 9 then (some (rdOf ByteArray.empty y148 (wrap64 (a0 - 14)), 2, bt (⟨#[115, 117, 117, 117, 110, 110, 110, 115, 115]⟩ : ByteArray) (wrap64 (a0 - 14)), 105, true)) else (none)) else (none)) else (none)) else (if a0 = 23 then (some ((⟨#[108, 117, 105]⟩ : ByteArray), 4, 117, 105, true)) else (if a0 ≤ 28 then (if 0 ≤ (wrap64 (a0 - 24)) then (if (wrap64 (a0 - 24)) < (y151.length : Int) then (some (rdOf ByteArray.empty y151 (wrap64 (a0 - 24)), 2, 115, 109, true)) else (none)) else (none)) else (if a0 ≤ 31 then (if 0 ≤ (wrap64 (a0 - 29)) then (if (wrap64 (a0 - 29)) < (y154.length : Int) then (some (rdOf ByteArray.empty y154 (wrap64 (a0 - 29)), 3, 115, 109, true)) else (none)) else (none)) else (if a0 ≤ 37 then (if 0 ≤ (wrap64 (a0 - 32)) then (if (wrap64 (a0 - 32)) < (y157.length : Int) then (some (rdOf ByteArray.empty y157 (wrap64 (a0 - 32)), 3, 115, 105, true)) else (none)) else (none)) else (if a0 = 38 then (some ((⟨#[106, 97, 108]⟩ : ByteArray), 4, 115, 105, true)) else (if a0 = 39 then (some ((⟨#[106, 97, 108, 114]⟩ : ByteArray), 2, 115, 105, true)) else (if a0 = 40 then (some ((⟨#[104, 99, 97, 108, 108]⟩ : ByteArray), 7, 117, 106, true)) else (if a0 = 41 then (some ((⟨#[99, 108, 111, 99, 107]⟩ : ByteArray), 5, 45, 49, true)) else (if a0 ≤ 45 then (if 0 ≤ (wrap64 (a0 - 42)) then (if (wrap64 (a0 - 42)) < (y160.length : Int) then (some (rdOf ByteArray.empty y160 (wrap64 (a0 - 42)), 8, 45, 45, true)) else (none)) else (none)) else (if a0 = 46 then (some ((⟨#[118, 101, 99]⟩ : ByteArray), 6, 45, 49, true)) else (if a0 = 47 then (some ((⟨#[104, 97, 108, 116]⟩ : ByteArray), 8, 45, 45, true)) else (some ((⟨#[110, 111, 112]⟩ : ByteArray), 8, 45, 45, true))))))))))))))) = some (r1, r2, r3, r4, r5) := by rw [if_neg (show ¬ (false = true) by decide)] at H; exact H
        clear H
        have H := H1
        clear H1
        by_cases c19 : a0 ≤ 13
        · rw [if_pos c19] at H
          have c19b0 : decide (a0 ≤ 13) = true := decide_eq_true c19
          clear c19
          obtain ⟨ji20, hji20⟩ : ∃ j_ : Int, (wrap64 (a0 - 1)) = j_ := ⟨_, rfl⟩
          replace H : (if 0 ≤ (ji20) then (if (ji20) < (y145.length : Int) then (some (rdOf ByteArray.empty y145 (ji20), 1, 45, 51, true)) else (none)) else (none)) = some (r1, r2, r3, r4, r5) := by first | (rw [hji20] at H; exact H) | (simp only [hji20] at H ⊢; exact H)
          have hji20w : (IntKind.i64.wrap (a0 - 1)) = ji20 := (i64_w _).trans hji20
          by_cases c21 : 0 ≤ (ji20)
          · rw [if_pos c21] at H
            have c21b0 : decide (0 ≤ (ji20)) = true := decide_eq_true c21
            clear c21
            by_cases c22 : (ji20) < (y145.length : Int)
            · rw [if_pos c22] at H
              have c22b0 : decide ((ji20) < (y145.length : Int)) = true := decide_eq_true c22
              clear c22
              simp only [Option.some.injEq, Prod.mk.injEq] at H
              obtain ⟨rfl, rfl, rfl, rfl, rfl⟩ := H
              obtain ⟨Ao23, co23, eo23⟩ := Kd.R_slice HO_4.out
              subst eo23
              have p163 : 0 ≤ ((ji20) : Int) := of_decide_eq_true (by first | (with_reducible assumption) | assumption)
              have q163 : (ji20) < (y145.length : Int) := of_decide_eq_true (by first | (with_reducible assumption) | assumption)
              obtain ⟨ad163, e163, hx163_0⟩ := Kd.at_string (Kd.R_reads' HO_4.out).2.2 (ji20) p163 q163
              cases e163
              replace p163 := eq_true p163
              replace q163 := eq_true q163
              have hcz24_0 : wc.cell? ⟨gb144, 0, none⟩ = some (.string (⟨#[]⟩ : ByteArray)) := (blk_cell BK144.out 0).trans rfl
              have hcz24_1 : wc.cell? ⟨gb144, 1, none⟩ = some (.int .i64 0) := (blk_cell BK144.out 1).trans rfl
              have hcz24_2 : wc.cell? ⟨gb144, 2, none⟩ = some (.int .u8 0) := (blk_cell BK144.out 2).trans rfl
              have hcz24_3 : wc.cell? ⟨gb144, 3, none⟩ = some (.int .u8 0) := (blk_cell BK144.out 3).trans rfl
              have hfz24_0 := blk_frozen BK144.out 0
              have hfz24_1 := blk_frozen BK144.out 1
              have hfz24_2 := blk_frozen BK144.out 2
              have hfz24_3 := blk_frozen BK144.out 3
              go_wp2
              refine bodyPost_ret (results_ct rfl _ _ gb144 167 #[.string (rdOf ByteArray.empty y145 (ji20)), .int .i64 1, .int .u8 45, .int .u8 51] (0, 0) _ rfl (by (with_reducible repeat (first | refine blk_drewN ?_ _ | refine blk_drew ?_ | refine blk_alloc ?_ _)); refine blk_put (cs := #[.string (rdOf ByteArray.empty y145 (ji20)), .int .i64 1, .int .u8 45, .int .u8 0]) ?_ 3 _ rfl; (with_reducible repeat (first | refine blk_drewN ?_ _ | refine blk_drew ?_ | refine blk_alloc ?_ _)); refine blk_put (cs := #[.string (rdOf ByteArray.empty y145 (ji20)), .int .i64 1, .int .u8 0, .int .u8 0]) ?_ 2 _ rfl; (with_reducible repeat (first | refine blk_drewN ?_ _ | refine blk_drew ?_ | refine blk_alloc ?_ _)); refine blk_put (cs := #[.string (rdOf ByteArray.empty y145 (ji20)), .int .i64 0, .int .u8 0, .int .u8 0]) ?_ 1 _ rfl; (with_reducible repeat (first | refine blk_drewN ?_ _ | refine blk_drew ?_ | refine blk_alloc ?_ _)); refine blk_put (cs := #[.string (⟨#[]⟩ : ByteArray), .int .i64 0, .int .u8 0, .int .u8 0]) ?_ 0 _ rfl; (with_reducible repeat (first | refine blk_drewN ?_ _ | refine blk_drew ?_ | refine blk_alloc ?_ _)); exact BK144.out) Tryz.underlying167 rfl (by kernel_rfl)) rfl ?_
              exact ⟨by first | rfl | (simp [errW_none, errW_some] <;> rfl) | (simp only [← hji20]; first | rfl | (simp [errW_none, errW_some] <;> rfl)) | (simp [*, errW_none, errW_some] <;> rfl), by repeat (first | (with_reducible first | exact HB.out | apply below_alloc | apply pw_below_drewN | apply below_drew1 | refine below_set ?_ GE144.out) | exact HB.out)⟩
            · rw [if_neg c22] at H
              exact absurd H (by simp)
          · rw [if_neg c21] at H
            exact absurd H (by simp)
        · rw [if_neg c19] at H
          have c19b0 : decide (a0 ≤ 13) = false := decide_eq_false c19
          clear c19
          by_cases c25 : a0 ≤ 22
          · rw [if_pos c25] at H
            have c25b0 : decide (a0 ≤ 22) = true := decide_eq_true c25
            clear c25
            obtain ⟨ji26, hji26⟩ : ∃ j_ : Int, (wrap64 (a0 - 14)) = j_ := ⟨_, rfl⟩
            replace H : (if 0 ≤ (ji26) then (if (ji26) < (y148.length : Int) then (if (ji26) < 9 then (some (rdOf ByteArray.empty y148 (ji26), 2, bt (⟨#[115, 117, 117, 117, 110, 110, 110, 115, 115]⟩ : ByteArray) (ji26), 105, true)) else (none)) else (none)) else (none)) = some (r1, r2, r3, r4, r5) := by first | (rw [hji26] at H; exact H) | (simp only [hji26] at H ⊢; exact H)
            have hji26w : (IntKind.i64.wrap (a0 - 14)) = ji26 := (i64_w _).trans hji26
            by_cases c27 : 0 ≤ (ji26)
            · rw [if_pos c27] at H
              have c27b0 : decide (0 ≤ (ji26)) = true := decide_eq_true c27
              clear c27
              by_cases c28 : (ji26) < (y148.length : Int)
              · rw [if_pos c28] at H
                have c28b0 : decide ((ji26) < (y148.length : Int)) = true := decide_eq_true c28
                clear c28
                by_cases c29 : (ji26) < 9
                · rw [if_pos c29] at H
                  have c29b0 : decide ((ji26) < 9) = true := decide_eq_true c29
                  clear c29
                  simp only [Option.some.injEq, Prod.mk.injEq] at H
                  obtain ⟨rfl, rfl, rfl, rfl, rfl⟩ := H
                  try go_wp2
                  have n0_ := Aside0.mk (Kd.R_drew HO_4.out)
                  have n1_ := Aside0.mk (Kd.R_drew HO_5.out)
                  have n2_ := Aside0.mk (Kd.R_drew HO_6.out)
                  have n3_ := Aside0.mk (Kd.R_drew HO_7.out)
                  have n4_ := Aside0.mk (Kd.R_drew HO_8.out)
                  have n5_ := Aside0.mk (Kd.R_drew HO_9.out)
                  have n6_ := Aside0.mk (blk_drew BK144.out)
                  have n7_ := Aside0.mk (below_drew1 HB.out)
                  clear HO_4
                  clear HO_5
                  clear HO_6
                  clear HO_7
                  clear HO_8
                  clear HO_9
                  clear BK144
                  clear HB
                  have HO_4 := n0_
                  have HO_5 := n1_
                  have HO_6 := n2_
                  have HO_7 := n3_
                  have HO_8 := n4_
                  have HO_9 := n5_
                  have BK144 := n6_
                  have HB := n7_
                  clear n0_ n1_ n2_ n3_ n4_ n5_ n6_ n7_
                  obtain ⟨Ao32, co32, eo32⟩ := Kd.R_slice HO_5.out
                  (first | subst eo32 | (injection eo32 with f1_ f2_ f3_; have f4_ := f1_.symm; have f5_ := f3_.symm; clear f1_ f2_ f3_; subst f4_; subst f5_))
                  have p164 : 0 ≤ ((ji26) : Int) := of_decide_eq_true (by first | (with_reducible assumption) | assumption)
                  have q164 : (ji26) < (y148.length : Int) := of_decide_eq_true (by first | (with_reducible assumption) | assumption)
                  obtain ⟨ad164, e164, hx164_0⟩ := Kd.at_string (Kd.R_reads' HO_5.out).2.2 (ji26) p164 q164
                  cases e164
                  replace p164 := eq_true p164
                  replace q164 := eq_true q164
                  have p30 : 0 ≤ ((ji26) : Int) := of_decide_eq_true (by first | (with_reducible assumption) | assumption)
                  have q30 : (ji26) < (9 : Int) := of_decide_eq_true (by first | (with_reducible assumption) | assumption)
                  have hx30 := bt_at (⟨#[115, 117, 117, 117, 110, 110, 110, 115, 115]⟩ : ByteArray) (ji26)
                  replace p30 := eq_true p30
                  replace q30 := eq_true q30
                  refine start_ (n := 11) (S := fun w' => w'.cell? (ad164.add ((ji26)).toNat) = some (.string (rdOf ByteArray.empty y148 (ji26)))) (ds := []) #[false, false, false, false, false, false, false, false, false, false, false] (by kernel_rfl) rfl rfl (hx164_0) (fun hHeld => ?_); refine with_tabW cloisterref10_Of.tab13 cloisterref10_Of.bits13 (fun HT_ HW_ => ?_)
                  generalize wc.drew = w31 at HO_4 HO_5 HO_6 HO_7 HO_8 HO_9 BK144 HB hx164_0 hHeld ⊢
                  refine pure_ (i := 0) (N := some 38) (v := ?_) (a' := ?_) #[true, false, false, false, false, false, false, false, false, false, false] rfl rfl (any_of HT_.out (by kernel_rfl)) (fun _ _ _ h => h) (Or.inl ⟨by rfl, ?_⟩) ?_ ?_
                  rotate_left
                  · intro w'
                    go_simp
                    with_reducible rfl
                  rotate_left
                  · simp only [Act.put, List.setIfInBounds_toArray, List.set_cons_zero, List.set_cons_succ, i64_w, i32_w]
                    rfl
                  refine pure_ (i := 1) (N := some 39) (v := ?_) (a' := ?_) #[true, true, false, false, false, false, false, false, false, false, false] rfl rfl (any_of HT_.out (by kernel_rfl)) (fun _ _ _ h => h) (Or.inl ⟨by rfl, ?_⟩) ?_ ?_
                  rotate_left
                  · intro w'
                    go_simp
                    with_reducible rfl
                  rotate_left
                  · simp only [Act.put, List.setIfInBounds_toArray, List.set_cons_zero, List.set_cons_succ, i64_w, i32_w]
                    rfl
                  refine pure_ (i := 2) (N := some 40) (v := ?_) (a' := ?_) #[true, true, true, false, false, false, false, false, false, false, false] rfl rfl (any_of HT_.out (by kernel_rfl)) (fun _ _ _ h => h) (Or.inl ⟨by rfl, ?_⟩) ?_ ?_
                  rotate_left
                  · intro w'
                    go_simp
                    with_reducible rfl
                  rotate_left
                  · simp only [Act.put, List.setIfInBounds_toArray, List.set_cons_zero, List.set_cons_succ, i64_w, i32_w]
                    rfl
                  refine pure_ (i := 3) (N := some 41) (v := ?_) (a' := ?_) #[true, true, true, true, false, false, false, false, false, false, false] rfl rfl (any_of HT_.out (by kernel_rfl)) (fun _ _ _ h => h) (Or.inl ⟨by rfl, ?_⟩) ?_ ?_
                  rotate_left
                  · intro w'
                    go_simp
                    with_reducible rfl
                  rotate_left
                  · simp only [Act.put, List.setIfInBounds_toArray, List.set_cons_zero, List.set_cons_succ, i64_w, i32_w]
                    rfl
                  refine pure_ (i := 5) (N := some 43) (v := ?_) (a' := ?_) #[true, true, true, true, false, true, false, false, false, false, false] rfl rfl (any_of HT_.out (by kernel_rfl)) (fun _ _ _ h => h) (Or.inl ⟨by rfl, ?_⟩) ?_ ?_
                  rotate_left
                  · intro w'
                    go_simp
                    with_reducible rfl
                  rotate_left
                  · simp only [Act.put, List.setIfInBounds_toArray, List.set_cons_zero, List.set_cons_succ, i64_w, i32_w]
                    rfl
                  refine pure_ (i := 6) (N := some 44) (v := ?_) (a' := ?_) #[true, true, true, true, false, true, true, false, false, false, false] rfl rfl (any_of HT_.out (by kernel_rfl)) (fun _ _ _ h => h) (Or.inl ⟨by rfl, ?_⟩) ?_ ?_
                  rotate_left
                  · intro w'
                    go_simp
                    with_reducible rfl
                  rotate_left
                  · simp only [Act.put, List.setIfInBounds_toArray, List.set_cons_zero, List.set_cons_succ, i64_w, i32_w]
                    rfl
                  refine take_ (i := 4) (N := some 42) (v := ?_) (a' := ?_) #[true, true, true, true, true, true, true, false, false, false, false] rfl rfl (take_ofW HT_.out HW_.out (by kernel_rfl)) (fun _ _ _ h => h) (Or.inl ⟨by rfl, ?_⟩) hHeld ?_ ?_
                  rotate_left
                  · intro w' s0
                    go_simp
                    with_reducible rfl
                  rotate_left
                  · simp only [Act.put, List.setIfInBounds_toArray, List.set_cons_zero, List.set_cons_succ, i64_w, i32_w]
                    rfl
                  refine take_ (i := 7) (N := some 45) (v := ?_) (a' := ?_) #[true, true, true, true, true, true, true, true, false, false, false] rfl rfl (take_ofW HT_.out HW_.out (by kernel_rfl)) (fun _ _ _ h => h) (Or.inl ⟨by rfl, ?_⟩) hHeld ?_ ?_
                  rotate_left
                  · intro w' s0
                    go_simp
                    with_reducible rfl
                  rotate_left
                  · simp only [Act.put, List.setIfInBounds_toArray, List.set_cons_zero, List.set_cons_succ, i64_w, i32_w]
                    rfl
                  refine pure_ (i := 8) (N := some 46) (v := ?_) (a' := ?_) #[true, true, true, true, true, true, true, true, true, false, false] rfl rfl (any_of HT_.out (by kernel_rfl)) (fun _ _ _ h => h) (Or.inl ⟨by rfl, ?_⟩) ?_ ?_
                  rotate_left
                  · intro w'
                    go_simp
                    with_reducible rfl
                  rotate_left
                  · simp only [Act.put, List.setIfInBounds_toArray, List.set_cons_zero, List.set_cons_succ, i64_w, i32_w]
                    rfl
                  refine one_ (i := 9) (N := none) #[true, true, true, true, true, true, true, true, true, true, false] rfl rfl (one_of HT_.out (by kernel_rfl)) (by decide) (fun K hK => ?_)
                  have hs33 : w31.cell? ⟨gb144, 0, none⟩ = some (.string (⟨#[]⟩ : ByteArray)) := (blk_cell BK144.out 0).trans rfl
                  have hfs33 := blk_frozen BK144.out 0
                  have hs34 : w31.cell? ⟨gb144, 1, none⟩ = some (.int .i64 0) := (blk_cell BK144.out 1).trans rfl
                  have hfs34 := blk_frozen BK144.out 1
                  have hs35 : w31.cell? ⟨gb144, 2, none⟩ = some (.int .u8 0) := (blk_cell BK144.out 2).trans rfl
                  have hfs35 := blk_frozen BK144.out 2
                  have hs36 : w31.cell? ⟨gb144, 3, none⟩ = some (.int .u8 0) := (blk_cell BK144.out 3).trans rfl
                  have hfs36 := blk_frozen BK144.out 3
                  refine skip_ (w1 := ?_) (by rfl) rfl ?_ ?_
                  rotate_left
                  · go_simp
                    rfl
                  refine hK.out _ _ (((cell_far (p := ⟨gb144, _, none⟩) (by first | exact Kd.own_blk (Kd.R_ne HO_5.out BK144.out (by decide)) | (rw [add_block]; exact Kd.own_blk (Kd.R_ne HO_5.out BK144.out (by decide))) | (show (Addr.add _ _).block ≠ _; rw [add_block]; exact Kd.own_blk (Kd.R_ne HO_5.out BK144.out (by decide))) | (dsimp only; exact Kd.own_blk (Kd.R_ne HO_5.out BK144.out (by decide)))) _).trans (((cell_far (p := ⟨gb144, _, none⟩) (by first | exact Kd.own_blk (Kd.R_ne HO_5.out BK144.out (by decide)) | (rw [add_block]; exact Kd.own_blk (Kd.R_ne HO_5.out BK144.out (by decide))) | (show (Addr.add _ _).block ≠ _; rw [add_block]; exact Kd.own_blk (Kd.R_ne HO_5.out BK144.out (by decide))) | (dsimp only; exact Kd.own_blk (Kd.R_ne HO_5.out BK144.out (by decide)))) _).trans (((cell_far (p := ⟨gb144, _, none⟩) (by first | exact Kd.own_blk (Kd.R_ne HO_5.out BK144.out (by decide)) | (rw [add_block]; exact Kd.own_blk (Kd.R_ne HO_5.out BK144.out (by decide))) | (show (Addr.add _ _).block ≠ _; rw [add_block]; exact Kd.own_blk (Kd.R_ne HO_5.out BK144.out (by decide))) | (dsimp only; exact Kd.own_blk (Kd.R_ne HO_5.out BK144.out (by decide)))) _).trans (((cell_far (p := ⟨gb144, _, none⟩) (by first | exact Kd.own_blk (Kd.R_ne HO_5.out BK144.out (by decide)) | (rw [add_block]; exact Kd.own_blk (Kd.R_ne HO_5.out BK144.out (by decide))) | (show (Addr.add _ _).block ≠ _; rw [add_block]; exact Kd.own_blk (Kd.R_ne HO_5.out BK144.out (by decide))) | (dsimp only; exact Kd.own_blk (Kd.R_ne HO_5.out BK144.out (by decide)))) _).trans (hHeld))))))))) (fun hHeld => ?_)
                  clear hK K
                  refine pure_ (i := 10) (N := some 3) (v := ?_) (a' := ?_) #[true, true, true, true, true, true, true, true, true, true, true] rfl rfl (any_of HT_.out (by kernel_rfl)) (fun _ _ _ h => h) (Or.inl ⟨by rfl, ?_⟩) ?_ ?_
                  rotate_left
                  · intro w'
                    go_simp
                    with_reducible rfl
                  rotate_left
                  · simp only [Act.put, List.setIfInBounds_toArray, List.set_cons_zero, List.set_cons_succ, i64_w, i32_w]
                    rfl
                  refine done_ (done_of HT_.out (by kernel_rfl)) ?_
                  try go_wp2
                  refine bodyPost_ret (results_ct rfl _ _ gb144 167 #[.string (rdOf ByteArray.empty y148 (ji26)), .int .i64 2, .int .u8 (bt (⟨#[115, 117, 117, 117, 110, 110, 110, 115, 115]⟩ : ByteArray) (ji26)), .int .u8 105] (0, 0) _ rfl (by (with_reducible repeat (first | refine blk_drewN ?_ _ | refine blk_drew ?_ | refine blk_alloc ?_ _)); refine blk_put (cs := #[.string (rdOf ByteArray.empty y148 (ji26)), .int .i64 2, .int .u8 (bt (⟨#[115, 117, 117, 117, 110, 110, 110, 115, 115]⟩ : ByteArray) (ji26)), .int .u8 0]) ?_ 3 _ rfl; (with_reducible repeat (first | refine blk_drewN ?_ _ | refine blk_drew ?_ | refine blk_alloc ?_ _)); refine blk_put (cs := #[.string (rdOf ByteArray.empty y148 (ji26)), .int .i64 2, .int .u8 0, .int .u8 0]) ?_ 2 _ rfl; (with_reducible repeat (first | refine blk_drewN ?_ _ | refine blk_drew ?_ | refine blk_alloc ?_ _)); refine blk_put (cs := #[.string (rdOf ByteArray.empty y148 (ji26)), .int .i64 0, .int .u8 0, .int .u8 0]) ?_ 1 _ rfl; (with_reducible repeat (first | refine blk_drewN ?_ _ | refine blk_drew ?_ | refine blk_alloc ?_ _)); refine blk_put (cs := #[.string (⟨#[]⟩ : ByteArray), .int .i64 0, .int .u8 0, .int .u8 0]) ?_ 0 _ rfl; (with_reducible repeat (first | refine blk_drewN ?_ _ | refine blk_drew ?_ | refine blk_alloc ?_ _)); exact BK144.out) Tryz.underlying167 rfl (by kernel_rfl)) rfl ?_
                  exact ⟨by first | rfl | (simp [errW_none, errW_some] <;> rfl) | (simp only [← hji26]; first | rfl | (simp [errW_none, errW_some] <;> rfl)) | (simp [*, errW_none, errW_some] <;> rfl), by repeat (first | (with_reducible first | exact HB.out | apply below_alloc | apply pw_below_drewN | apply below_drew1 | refine below_set ?_ GE144.out) | exact HB.out)⟩
                · rw [if_neg c29] at H
                  exact absurd H (by simp)
              · rw [if_neg c28] at H
                exact absurd H (by simp)
            · rw [if_neg c27] at H
              exact absurd H (by simp)
          · rw [if_neg c25] at H
            have c25b0 : decide (a0 ≤ 22) = false := decide_eq_false c25
            clear c25
            by_cases c37 : a0 = 23
            · rw [if_pos c37] at H
              have c37b0 : (a0 == 23) = true := beq_iff_eq.mpr c37
              have c37b1 : (a0 != 23) = false := bne_eq_false_iff_eq.mpr c37
              clear c37
              simp only [Option.some.injEq, Prod.mk.injEq] at H
              obtain ⟨rfl, rfl, rfl, rfl, rfl⟩ := H
              have hcz38_0 : wc.cell? ⟨gb144, 0, none⟩ = some (.string (⟨#[]⟩ : ByteArray)) := (blk_cell BK144.out 0).trans rfl
              have hcz38_1 : wc.cell? ⟨gb144, 1, none⟩ = some (.int .i64 0) := (blk_cell BK144.out 1).trans rfl
              have hcz38_2 : wc.cell? ⟨gb144, 2, none⟩ = some (.int .u8 0) := (blk_cell BK144.out 2).trans rfl
              have hcz38_3 : wc.cell? ⟨gb144, 3, none⟩ = some (.int .u8 0) := (blk_cell BK144.out 3).trans rfl
              have hfz38_0 := blk_frozen BK144.out 0
              have hfz38_1 := blk_frozen BK144.out 1
              have hfz38_2 := blk_frozen BK144.out 2
              have hfz38_3 := blk_frozen BK144.out 3
              go_wp2
              refine bodyPost_ret (results_ct rfl _ _ gb144 167 #[.string (⟨#[108, 117, 105]⟩ : ByteArray), .int .i64 4, .int .u8 117, .int .u8 105] (0, 0) _ rfl (by (with_reducible repeat (first | refine blk_drewN ?_ _ | refine blk_drew ?_ | refine blk_alloc ?_ _)); refine blk_put (cs := #[.string (⟨#[108, 117, 105]⟩ : ByteArray), .int .i64 4, .int .u8 117, .int .u8 0]) ?_ 3 _ rfl; (with_reducible repeat (first | refine blk_drewN ?_ _ | refine blk_drew ?_ | refine blk_alloc ?_ _)); refine blk_put (cs := #[.string (⟨#[108, 117, 105]⟩ : ByteArray), .int .i64 4, .int .u8 0, .int .u8 0]) ?_ 2 _ rfl; (with_reducible repeat (first | refine blk_drewN ?_ _ | refine blk_drew ?_ | refine blk_alloc ?_ _)); refine blk_put (cs := #[.string (⟨#[108, 117, 105]⟩ : ByteArray), .int .i64 0, .int .u8 0, .int .u8 0]) ?_ 1 _ rfl; (with_reducible repeat (first | refine blk_drewN ?_ _ | refine blk_drew ?_ | refine blk_alloc ?_ _)); refine blk_put (cs := #[.string (⟨#[]⟩ : ByteArray), .int .i64 0, .int .u8 0, .int .u8 0]) ?_ 0 _ rfl; (with_reducible repeat (first | refine blk_drewN ?_ _ | refine blk_drew ?_ | refine blk_alloc ?_ _)); exact BK144.out) Tryz.underlying167 rfl (by kernel_rfl)) rfl ?_
              exact ⟨by first | rfl | (simp [errW_none, errW_some] <;> rfl) | (simp [*, errW_none, errW_some] <;> rfl), by repeat (first | (with_reducible first | exact HB.out | apply below_alloc | apply pw_below_drewN | apply below_drew1 | refine below_set ?_ GE144.out) | exact HB.out)⟩
            · rw [if_neg c37] at H
              have c37b0 : (a0 == 23) = false := beq_eq_false_iff_ne.mpr c37
              have c37b1 : (a0 != 23) = true := bne_iff_ne.mpr c37
              by_cases c39 : a0 ≤ 28
              · rw [if_pos c39] at H
                have c39b0 : decide (a0 ≤ 28) = true := decide_eq_true c39
                clear c39
                obtain ⟨ji40, hji40⟩ : ∃ j_ : Int, (wrap64 (a0 - 24)) = j_ := ⟨_, rfl⟩
                replace H : (if 0 ≤ (ji40) then (if (ji40) < (y151.length : Int) then (some (rdOf ByteArray.empty y151 (ji40), 2, 115, 109, true)) else (none)) else (none)) = some (r1, r2, r3, r4, r5) := by first | (rw [hji40] at H; exact H) | (simp only [hji40] at H ⊢; exact H)
                have hji40w : (IntKind.i64.wrap (a0 - 24)) = ji40 := (i64_w _).trans hji40
                by_cases c41 : 0 ≤ (ji40)
                · rw [if_pos c41] at H
                  have c41b0 : decide (0 ≤ (ji40)) = true := decide_eq_true c41
                  clear c41
                  by_cases c42 : (ji40) < (y151.length : Int)
                  · rw [if_pos c42] at H
                    have c42b0 : decide ((ji40) < (y151.length : Int)) = true := decide_eq_true c42
                    clear c42
                    simp only [Option.some.injEq, Prod.mk.injEq] at H
                    obtain ⟨rfl, rfl, rfl, rfl, rfl⟩ := H
                    obtain ⟨Ao43, co43, eo43⟩ := Kd.R_slice HO_6.out
                    subst eo43
                    have p165 : 0 ≤ ((ji40) : Int) := of_decide_eq_true (by first | (with_reducible assumption) | assumption)
                    have q165 : (ji40) < (y151.length : Int) := of_decide_eq_true (by first | (with_reducible assumption) | assumption)
                    obtain ⟨ad165, e165, hx165_0⟩ := Kd.at_string (Kd.R_reads' HO_6.out).2.2 (ji40) p165 q165
                    cases e165
                    replace p165 := eq_true p165
                    replace q165 := eq_true q165
                    have hcz44_0 : wc.cell? ⟨gb144, 0, none⟩ = some (.string (⟨#[]⟩ : ByteArray)) := (blk_cell BK144.out 0).trans rfl
                    have hcz44_1 : wc.cell? ⟨gb144, 1, none⟩ = some (.int .i64 0) := (blk_cell BK144.out 1).trans rfl
                    have hcz44_2 : wc.cell? ⟨gb144, 2, none⟩ = some (.int .u8 0) := (blk_cell BK144.out 2).trans rfl
                    have hcz44_3 : wc.cell? ⟨gb144, 3, none⟩ = some (.int .u8 0) := (blk_cell BK144.out 3).trans rfl
                    have hfz44_0 := blk_frozen BK144.out 0
                    have hfz44_1 := blk_frozen BK144.out 1
                    have hfz44_2 := blk_frozen BK144.out 2
                    have hfz44_3 := blk_frozen BK144.out 3
                    go_wp2
                    refine bodyPost_ret (results_ct rfl _ _ gb144 167 #[.string (rdOf ByteArray.empty y151 (ji40)), .int .i64 2, .int .u8 115, .int .u8 109] (0, 0) _ rfl (by (with_reducible repeat (first | refine blk_drewN ?_ _ | refine blk_drew ?_ | refine blk_alloc ?_ _)); refine blk_put (cs := #[.string (rdOf ByteArray.empty y151 (ji40)), .int .i64 2, .int .u8 115, .int .u8 0]) ?_ 3 _ rfl; (with_reducible repeat (first | refine blk_drewN ?_ _ | refine blk_drew ?_ | refine blk_alloc ?_ _)); refine blk_put (cs := #[.string (rdOf ByteArray.empty y151 (ji40)), .int .i64 2, .int .u8 0, .int .u8 0]) ?_ 2 _ rfl; (with_reducible repeat (first | refine blk_drewN ?_ _ | refine blk_drew ?_ | refine blk_alloc ?_ _)); refine blk_put (cs := #[.string (rdOf ByteArray.empty y151 (ji40)), .int .i64 0, .int .u8 0, .int .u8 0]) ?_ 1 _ rfl; (with_reducible repeat (first | refine blk_drewN ?_ _ | refine blk_drew ?_ | refine blk_alloc ?_ _)); refine blk_put (cs := #[.string (⟨#[]⟩ : ByteArray), .int .i64 0, .int .u8 0, .int .u8 0]) ?_ 0 _ rfl; (with_reducible repeat (first | refine blk_drewN ?_ _ | refine blk_drew ?_ | refine blk_alloc ?_ _)); exact BK144.out) Tryz.underlying167 rfl (by kernel_rfl)) rfl ?_
                    exact ⟨by first | rfl | (simp [errW_none, errW_some] <;> rfl) | (simp only [← hji40]; first | rfl | (simp [errW_none, errW_some] <;> rfl)) | (simp [*, errW_none, errW_some] <;> rfl), by repeat (first | (with_reducible first | exact HB.out | apply below_alloc | apply pw_below_drewN | apply below_drew1 | refine below_set ?_ GE144.out) | exact HB.out)⟩
                  · rw [if_neg c42] at H
                    exact absurd H (by simp)
                · rw [if_neg c41] at H
                  exact absurd H (by simp)
              · rw [if_neg c39] at H
                have c39b0 : decide (a0 ≤ 28) = false := decide_eq_false c39
                clear c39
                by_cases c45 : a0 ≤ 31
                · rw [if_pos c45] at H
                  have c45b0 : decide (a0 ≤ 31) = true := decide_eq_true c45
                  clear c45
                  obtain ⟨ji46, hji46⟩ : ∃ j_ : Int, (wrap64 (a0 - 29)) = j_ := ⟨_, rfl⟩
                  replace H : (if 0 ≤ (ji46) then (if (ji46) < (y154.length : Int) then (some (rdOf ByteArray.empty y154 (ji46), 3, 115, 109, true)) else (none)) else (none)) = some (r1, r2, r3, r4, r5) := by first | (rw [hji46] at H; exact H) | (simp only [hji46] at H ⊢; exact H)
                  have hji46w : (IntKind.i64.wrap (a0 - 29)) = ji46 := (i64_w _).trans hji46
                  by_cases c47 : 0 ≤ (ji46)
                  · rw [if_pos c47] at H
                    have c47b0 : decide (0 ≤ (ji46)) = true := decide_eq_true c47
                    clear c47
                    by_cases c48 : (ji46) < (y154.length : Int)
                    · rw [if_pos c48] at H
                      have c48b0 : decide ((ji46) < (y154.length : Int)) = true := decide_eq_true c48
                      clear c48
                      simp only [Option.some.injEq, Prod.mk.injEq] at H
                      obtain ⟨rfl, rfl, rfl, rfl, rfl⟩ := H
                      obtain ⟨Ao49, co49, eo49⟩ := Kd.R_slice HO_7.out
                      subst eo49
                      have p166 : 0 ≤ ((ji46) : Int) := of_decide_eq_true (by first | (with_reducible assumption) | assumption)
                      have q166 : (ji46) < (y154.length : Int) := of_decide_eq_true (by first | (with_reducible assumption) | assumption)
                      obtain ⟨ad166, e166, hx166_0⟩ := Kd.at_string (Kd.R_reads' HO_7.out).2.2 (ji46) p166 q166
                      cases e166
                      replace p166 := eq_true p166
                      replace q166 := eq_true q166
                      have hcz50_0 : wc.cell? ⟨gb144, 0, none⟩ = some (.string (⟨#[]⟩ : ByteArray)) := (blk_cell BK144.out 0).trans rfl
                      have hcz50_1 : wc.cell? ⟨gb144, 1, none⟩ = some (.int .i64 0) := (blk_cell BK144.out 1).trans rfl
                      have hcz50_2 : wc.cell? ⟨gb144, 2, none⟩ = some (.int .u8 0) := (blk_cell BK144.out 2).trans rfl
                      have hcz50_3 : wc.cell? ⟨gb144, 3, none⟩ = some (.int .u8 0) := (blk_cell BK144.out 3).trans rfl
                      have hfz50_0 := blk_frozen BK144.out 0
                      have hfz50_1 := blk_frozen BK144.out 1
                      have hfz50_2 := blk_frozen BK144.out 2
                      have hfz50_3 := blk_frozen BK144.out 3
                      go_wp2
                      refine bodyPost_ret (results_ct rfl _ _ gb144 167 #[.string (rdOf ByteArray.empty y154 (ji46)), .int .i64 3, .int .u8 115, .int .u8 109] (0, 0) _ rfl (by (with_reducible repeat (first | refine blk_drewN ?_ _ | refine blk_drew ?_ | refine blk_alloc ?_ _)); refine blk_put (cs := #[.string (rdOf ByteArray.empty y154 (ji46)), .int .i64 3, .int .u8 115, .int .u8 0]) ?_ 3 _ rfl; (with_reducible repeat (first | refine blk_drewN ?_ _ | refine blk_drew ?_ | refine blk_alloc ?_ _)); refine blk_put (cs := #[.string (rdOf ByteArray.empty y154 (ji46)), .int .i64 3, .int .u8 0, .int .u8 0]) ?_ 2 _ rfl; (with_reducible repeat (first | refine blk_drewN ?_ _ | refine blk_drew ?_ | refine blk_alloc ?_ _)); refine blk_put (cs := #[.string (rdOf ByteArray.empty y154 (ji46)), .int .i64 0, .int .u8 0, .int .u8 0]) ?_ 1 _ rfl; (with_reducible repeat (first | refine blk_drewN ?_ _ | refine blk_drew ?_ | refine blk_alloc ?_ _)); refine blk_put (cs := #[.string (⟨#[]⟩ : ByteArray), .int .i64 0, .int .u8 0, .int .u8 0]) ?_ 0 _ rfl; (with_reducible repeat (first | refine blk_drewN ?_ _ | refine blk_drew ?_ | refine blk_alloc ?_ _)); exact BK144.out) Tryz.underlying167 rfl (by kernel_rfl)) rfl ?_
                      exact ⟨by first | rfl | (simp [errW_none, errW_some] <;> rfl) | (simp only [← hji46]; first | rfl | (simp [errW_none, errW_some] <;> rfl)) | (simp [*, errW_none, errW_some] <;> rfl), by repeat (first | (with_reducible first | exact HB.out | apply below_alloc | apply pw_below_drewN | apply below_drew1 | refine below_set ?_ GE144.out) | exact HB.out)⟩
                    · rw [if_neg c48] at H
                      exact absurd H (by simp)
                  · rw [if_neg c47] at H
                    exact absurd H (by simp)
                · rw [if_neg c45] at H
                  have c45b0 : decide (a0 ≤ 31) = false := decide_eq_false c45
                  clear c45
                  by_cases c51 : a0 ≤ 37
                  · rw [if_pos c51] at H
                    have c51b0 : decide (a0 ≤ 37) = true := decide_eq_true c51
                    clear c51
                    obtain ⟨ji52, hji52⟩ : ∃ j_ : Int, (wrap64 (a0 - 32)) = j_ := ⟨_, rfl⟩
                    replace H : (if 0 ≤ (ji52) then (if (ji52) < (y157.length : Int) then (some (rdOf ByteArray.empty y157 (ji52), 3, 115, 105, true)) else (none)) else (none)) = some (r1, r2, r3, r4, r5) := by first | (rw [hji52] at H; exact H) | (simp only [hji52] at H ⊢; exact H)
                    have hji52w : (IntKind.i64.wrap (a0 - 32)) = ji52 := (i64_w _).trans hji52
                    by_cases c53 : 0 ≤ (ji52)
                    · rw [if_pos c53] at H
                      have c53b0 : decide (0 ≤ (ji52)) = true := decide_eq_true c53
                      clear c53
                      by_cases c54 : (ji52) < (y157.length : Int)
                      · rw [if_pos c54] at H
                        have c54b0 : decide ((ji52) < (y157.length : Int)) = true := decide_eq_true c54
                        clear c54
                        simp only [Option.some.injEq, Prod.mk.injEq] at H
                        obtain ⟨rfl, rfl, rfl, rfl, rfl⟩ := H
                        obtain ⟨Ao55, co55, eo55⟩ := Kd.R_slice HO_8.out
                        subst eo55
                        have p167 : 0 ≤ ((ji52) : Int) := of_decide_eq_true (by first | (with_reducible assumption) | assumption)
                        have q167 : (ji52) < (y157.length : Int) := of_decide_eq_true (by first | (with_reducible assumption) | assumption)
                        obtain ⟨ad167, e167, hx167_0⟩ := Kd.at_string (Kd.R_reads' HO_8.out).2.2 (ji52) p167 q167
                        cases e167
                        replace p167 := eq_true p167
                        replace q167 := eq_true q167
                        have hcz56_0 : wc.cell? ⟨gb144, 0, none⟩ = some (.string (⟨#[]⟩ : ByteArray)) := (blk_cell BK144.out 0).trans rfl
                        have hcz56_1 : wc.cell? ⟨gb144, 1, none⟩ = some (.int .i64 0) := (blk_cell BK144.out 1).trans rfl
                        have hcz56_2 : wc.cell? ⟨gb144, 2, none⟩ = some (.int .u8 0) := (blk_cell BK144.out 2).trans rfl
                        have hcz56_3 : wc.cell? ⟨gb144, 3, none⟩ = some (.int .u8 0) := (blk_cell BK144.out 3).trans rfl
                        have hfz56_0 := blk_frozen BK144.out 0
                        have hfz56_1 := blk_frozen BK144.out 1
                        have hfz56_2 := blk_frozen BK144.out 2
                        have hfz56_3 := blk_frozen BK144.out 3
                        go_wp2
                        refine bodyPost_ret (results_ct rfl _ _ gb144 167 #[.string (rdOf ByteArray.empty y157 (ji52)), .int .i64 3, .int .u8 115, .int .u8 105] (0, 0) _ rfl (by (with_reducible repeat (first | refine blk_drewN ?_ _ | refine blk_drew ?_ | refine blk_alloc ?_ _)); refine blk_put (cs := #[.string (rdOf ByteArray.empty y157 (ji52)), .int .i64 3, .int .u8 115, .int .u8 0]) ?_ 3 _ rfl; (with_reducible repeat (first | refine blk_drewN ?_ _ | refine blk_drew ?_ | refine blk_alloc ?_ _)); refine blk_put (cs := #[.string (rdOf ByteArray.empty y157 (ji52)), .int .i64 3, .int .u8 0, .int .u8 0]) ?_ 2 _ rfl; (with_reducible repeat (first | refine blk_drewN ?_ _ | refine blk_drew ?_ | refine blk_alloc ?_ _)); refine blk_put (cs := #[.string (rdOf ByteArray.empty y157 (ji52)), .int .i64 0, .int .u8 0, .int .u8 0]) ?_ 1 _ rfl; (with_reducible repeat (first | refine blk_drewN ?_ _ | refine blk_drew ?_ | refine blk_alloc ?_ _)); refine blk_put (cs := #[.string (⟨#[]⟩ : ByteArray), .int .i64 0, .int .u8 0, .int .u8 0]) ?_ 0 _ rfl; (with_reducible repeat (first | refine blk_drewN ?_ _ | refine blk_drew ?_ | refine blk_alloc ?_ _)); exact BK144.out) Tryz.underlying167 rfl (by kernel_rfl)) rfl ?_
                        exact ⟨by first | rfl | (simp [errW_none, errW_some] <;> rfl) | (simp only [← hji52]; first | rfl | (simp [errW_none, errW_some] <;> rfl)) | (simp [*, errW_none, errW_some] <;> rfl), by repeat (first | (with_reducible first | exact HB.out | apply below_alloc | apply pw_below_drewN | apply below_drew1 | refine below_set ?_ GE144.out) | exact HB.out)⟩
                      · rw [if_neg c54] at H
                        exact absurd H (by simp)
                    · rw [if_neg c53] at H
                      exact absurd H (by simp)
                  · rw [if_neg c51] at H
                    have c51b0 : decide (a0 ≤ 37) = false := decide_eq_false c51
                    clear c51
                    by_cases c57 : a0 = 38
                    · rw [if_pos c57] at H
                      have c57b0 : (a0 == 38) = true := beq_iff_eq.mpr c57
                      have c57b1 : (a0 != 38) = false := bne_eq_false_iff_eq.mpr c57
                      clear c57
                      simp only [Option.some.injEq, Prod.mk.injEq] at H
                      obtain ⟨rfl, rfl, rfl, rfl, rfl⟩ := H
                      have hcz58_0 : wc.cell? ⟨gb144, 0, none⟩ = some (.string (⟨#[]⟩ : ByteArray)) := (blk_cell BK144.out 0).trans rfl
                      have hcz58_1 : wc.cell? ⟨gb144, 1, none⟩ = some (.int .i64 0) := (blk_cell BK144.out 1).trans rfl
                      have hcz58_2 : wc.cell? ⟨gb144, 2, none⟩ = some (.int .u8 0) := (blk_cell BK144.out 2).trans rfl
                      have hcz58_3 : wc.cell? ⟨gb144, 3, none⟩ = some (.int .u8 0) := (blk_cell BK144.out 3).trans rfl
                      have hfz58_0 := blk_frozen BK144.out 0
                      have hfz58_1 := blk_frozen BK144.out 1
                      have hfz58_2 := blk_frozen BK144.out 2
                      have hfz58_3 := blk_frozen BK144.out 3
                      go_wp2
                      refine bodyPost_ret (results_ct rfl _ _ gb144 167 #[.string (⟨#[106, 97, 108]⟩ : ByteArray), .int .i64 4, .int .u8 115, .int .u8 105] (0, 0) _ rfl (by (with_reducible repeat (first | refine blk_drewN ?_ _ | refine blk_drew ?_ | refine blk_alloc ?_ _)); refine blk_put (cs := #[.string (⟨#[106, 97, 108]⟩ : ByteArray), .int .i64 4, .int .u8 115, .int .u8 0]) ?_ 3 _ rfl; (with_reducible repeat (first | refine blk_drewN ?_ _ | refine blk_drew ?_ | refine blk_alloc ?_ _)); refine blk_put (cs := #[.string (⟨#[106, 97, 108]⟩ : ByteArray), .int .i64 4, .int .u8 0, .int .u8 0]) ?_ 2 _ rfl; (with_reducible repeat (first | refine blk_drewN ?_ _ | refine blk_drew ?_ | refine blk_alloc ?_ _)); refine blk_put (cs := #[.string (⟨#[106, 97, 108]⟩ : ByteArray), .int .i64 0, .int .u8 0, .int .u8 0]) ?_ 1 _ rfl; (with_reducible repeat (first | refine blk_drewN ?_ _ | refine blk_drew ?_ | refine blk_alloc ?_ _)); refine blk_put (cs := #[.string (⟨#[]⟩ : ByteArray), .int .i64 0, .int .u8 0, .int .u8 0]) ?_ 0 _ rfl; (with_reducible repeat (first | refine blk_drewN ?_ _ | refine blk_drew ?_ | refine blk_alloc ?_ _)); exact BK144.out) Tryz.underlying167 rfl (by kernel_rfl)) rfl ?_
                      exact ⟨by first | rfl | (simp [errW_none, errW_some] <;> rfl) | (simp [*, errW_none, errW_some] <;> rfl), by repeat (first | (with_reducible first | exact HB.out | apply below_alloc | apply pw_below_drewN | apply below_drew1 | refine below_set ?_ GE144.out) | exact HB.out)⟩
                    · rw [if_neg c57] at H
                      have c57b0 : (a0 == 38) = false := beq_eq_false_iff_ne.mpr c57
                      have c57b1 : (a0 != 38) = true := bne_iff_ne.mpr c57
                      by_cases c59 : a0 = 39
                      · rw [if_pos c59] at H
                        have c59b0 : (a0 == 39) = true := beq_iff_eq.mpr c59
                        have c59b1 : (a0 != 39) = false := bne_eq_false_iff_eq.mpr c59
                        clear c59
                        simp only [Option.some.injEq, Prod.mk.injEq] at H
                        obtain ⟨rfl, rfl, rfl, rfl, rfl⟩ := H
                        have hcz60_0 : wc.cell? ⟨gb144, 0, none⟩ = some (.string (⟨#[]⟩ : ByteArray)) := (blk_cell BK144.out 0).trans rfl
                        have hcz60_1 : wc.cell? ⟨gb144, 1, none⟩ = some (.int .i64 0) := (blk_cell BK144.out 1).trans rfl
                        have hcz60_2 : wc.cell? ⟨gb144, 2, none⟩ = some (.int .u8 0) := (blk_cell BK144.out 2).trans rfl
                        have hcz60_3 : wc.cell? ⟨gb144, 3, none⟩ = some (.int .u8 0) := (blk_cell BK144.out 3).trans rfl
                        have hfz60_0 := blk_frozen BK144.out 0
                        have hfz60_1 := blk_frozen BK144.out 1
                        have hfz60_2 := blk_frozen BK144.out 2
                        have hfz60_3 := blk_frozen BK144.out 3
                        go_wp2
                        refine bodyPost_ret (results_ct rfl _ _ gb144 167 #[.string (⟨#[106, 97, 108, 114]⟩ : ByteArray), .int .i64 2, .int .u8 115, .int .u8 105] (0, 0) _ rfl (by (with_reducible repeat (first | refine blk_drewN ?_ _ | refine blk_drew ?_ | refine blk_alloc ?_ _)); refine blk_put (cs := #[.string (⟨#[106, 97, 108, 114]⟩ : ByteArray), .int .i64 2, .int .u8 115, .int .u8 0]) ?_ 3 _ rfl; (with_reducible repeat (first | refine blk_drewN ?_ _ | refine blk_drew ?_ | refine blk_alloc ?_ _)); refine blk_put (cs := #[.string (⟨#[106, 97, 108, 114]⟩ : ByteArray), .int .i64 2, .int .u8 0, .int .u8 0]) ?_ 2 _ rfl; (with_reducible repeat (first | refine blk_drewN ?_ _ | refine blk_drew ?_ | refine blk_alloc ?_ _)); refine blk_put (cs := #[.string (⟨#[106, 97, 108, 114]⟩ : ByteArray), .int .i64 0, .int .u8 0, .int .u8 0]) ?_ 1 _ rfl; (with_reducible repeat (first | refine blk_drewN ?_ _ | refine blk_drew ?_ | refine blk_alloc ?_ _)); refine blk_put (cs := #[.string (⟨#[]⟩ : ByteArray), .int .i64 0, .int .u8 0, .int .u8 0]) ?_ 0 _ rfl; (with_reducible repeat (first | refine blk_drewN ?_ _ | refine blk_drew ?_ | refine blk_alloc ?_ _)); exact BK144.out) Tryz.underlying167 rfl (by kernel_rfl)) rfl ?_
                        exact ⟨by first | rfl | (simp [errW_none, errW_some] <;> rfl) | (simp [*, errW_none, errW_some] <;> rfl), by repeat (first | (with_reducible first | exact HB.out | apply below_alloc | apply pw_below_drewN | apply below_drew1 | refine below_set ?_ GE144.out) | exact HB.out)⟩
                      · rw [if_neg c59] at H
                        have c59b0 : (a0 == 39) = false := beq_eq_false_iff_ne.mpr c59
                        have c59b1 : (a0 != 39) = true := bne_iff_ne.mpr c59
                        by_cases c61 : a0 = 40
                        · rw [if_pos c61] at H
                          have c61b0 : (a0 == 40) = true := beq_iff_eq.mpr c61
                          have c61b1 : (a0 != 40) = false := bne_eq_false_iff_eq.mpr c61
                          clear c61
                          simp only [Option.some.injEq, Prod.mk.injEq] at H
                          obtain ⟨rfl, rfl, rfl, rfl, rfl⟩ := H
                          have hcz62_0 : wc.cell? ⟨gb144, 0, none⟩ = some (.string (⟨#[]⟩ : ByteArray)) := (blk_cell BK144.out 0).trans rfl
                          have hcz62_1 : wc.cell? ⟨gb144, 1, none⟩ = some (.int .i64 0) := (blk_cell BK144.out 1).trans rfl
                          have hcz62_2 : wc.cell? ⟨gb144, 2, none⟩ = some (.int .u8 0) := (blk_cell BK144.out 2).trans rfl
                          have hcz62_3 : wc.cell? ⟨gb144, 3, none⟩ = some (.int .u8 0) := (blk_cell BK144.out 3).trans rfl
                          have hfz62_0 := blk_frozen BK144.out 0
                          have hfz62_1 := blk_frozen BK144.out 1
                          have hfz62_2 := blk_frozen BK144.out 2
                          have hfz62_3 := blk_frozen BK144.out 3
                          go_wp2
                          refine bodyPost_ret (results_ct rfl _ _ gb144 167 #[.string (⟨#[104, 99, 97, 108, 108]⟩ : ByteArray), .int .i64 7, .int .u8 117, .int .u8 106] (0, 0) _ rfl (by (with_reducible repeat (first | refine blk_drewN ?_ _ | refine blk_drew ?_ | refine blk_alloc ?_ _)); refine blk_put (cs := #[.string (⟨#[104, 99, 97, 108, 108]⟩ : ByteArray), .int .i64 7, .int .u8 117, .int .u8 0]) ?_ 3 _ rfl; (with_reducible repeat (first | refine blk_drewN ?_ _ | refine blk_drew ?_ | refine blk_alloc ?_ _)); refine blk_put (cs := #[.string (⟨#[104, 99, 97, 108, 108]⟩ : ByteArray), .int .i64 7, .int .u8 0, .int .u8 0]) ?_ 2 _ rfl; (with_reducible repeat (first | refine blk_drewN ?_ _ | refine blk_drew ?_ | refine blk_alloc ?_ _)); refine blk_put (cs := #[.string (⟨#[104, 99, 97, 108, 108]⟩ : ByteArray), .int .i64 0, .int .u8 0, .int .u8 0]) ?_ 1 _ rfl; (with_reducible repeat (first | refine blk_drewN ?_ _ | refine blk_drew ?_ | refine blk_alloc ?_ _)); refine blk_put (cs := #[.string (⟨#[]⟩ : ByteArray), .int .i64 0, .int .u8 0, .int .u8 0]) ?_ 0 _ rfl; (with_reducible repeat (first | refine blk_drewN ?_ _ | refine blk_drew ?_ | refine blk_alloc ?_ _)); exact BK144.out) Tryz.underlying167 rfl (by kernel_rfl)) rfl ?_
                          exact ⟨by first | rfl | (simp [errW_none, errW_some] <;> rfl) | (simp [*, errW_none, errW_some] <;> rfl), by repeat (first | (with_reducible first | exact HB.out | apply below_alloc | apply pw_below_drewN | apply below_drew1 | refine below_set ?_ GE144.out) | exact HB.out)⟩
                        · rw [if_neg c61] at H
                          have c61b0 : (a0 == 40) = false := beq_eq_false_iff_ne.mpr c61
                          have c61b1 : (a0 != 40) = true := bne_iff_ne.mpr c61
                          by_cases c63 : a0 = 41
                          · rw [if_pos c63] at H
                            have c63b0 : (a0 == 41) = true := beq_iff_eq.mpr c63
                            have c63b1 : (a0 != 41) = false := bne_eq_false_iff_eq.mpr c63
                            clear c63
                            simp only [Option.some.injEq, Prod.mk.injEq] at H
                            obtain ⟨rfl, rfl, rfl, rfl, rfl⟩ := H
                            have hcz64_0 : wc.cell? ⟨gb144, 0, none⟩ = some (.string (⟨#[]⟩ : ByteArray)) := (blk_cell BK144.out 0).trans rfl
                            have hcz64_1 : wc.cell? ⟨gb144, 1, none⟩ = some (.int .i64 0) := (blk_cell BK144.out 1).trans rfl
                            have hcz64_2 : wc.cell? ⟨gb144, 2, none⟩ = some (.int .u8 0) := (blk_cell BK144.out 2).trans rfl
                            have hcz64_3 : wc.cell? ⟨gb144, 3, none⟩ = some (.int .u8 0) := (blk_cell BK144.out 3).trans rfl
                            have hfz64_0 := blk_frozen BK144.out 0
                            have hfz64_1 := blk_frozen BK144.out 1
                            have hfz64_2 := blk_frozen BK144.out 2
                            have hfz64_3 := blk_frozen BK144.out 3
                            go_wp2
                            refine bodyPost_ret (results_ct rfl _ _ gb144 167 #[.string (⟨#[99, 108, 111, 99, 107]⟩ : ByteArray), .int .i64 5, .int .u8 45, .int .u8 49] (0, 0) _ rfl (by (with_reducible repeat (first | refine blk_drewN ?_ _ | refine blk_drew ?_ | refine blk_alloc ?_ _)); refine blk_put (cs := #[.string (⟨#[99, 108, 111, 99, 107]⟩ : ByteArray), .int .i64 5, .int .u8 45, .int .u8 0]) ?_ 3 _ rfl; (with_reducible repeat (first | refine blk_drewN ?_ _ | refine blk_drew ?_ | refine blk_alloc ?_ _)); refine blk_put (cs := #[.string (⟨#[99, 108, 111, 99, 107]⟩ : ByteArray), .int .i64 5, .int .u8 0, .int .u8 0]) ?_ 2 _ rfl; (with_reducible repeat (first | refine blk_drewN ?_ _ | refine blk_drew ?_ | refine blk_alloc ?_ _)); refine blk_put (cs := #[.string (⟨#[99, 108, 111, 99, 107]⟩ : ByteArray), .int .i64 0, .int .u8 0, .int .u8 0]) ?_ 1 _ rfl; (with_reducible repeat (first | refine blk_drewN ?_ _ | refine blk_drew ?_ | refine blk_alloc ?_ _)); refine blk_put (cs := #[.string (⟨#[]⟩ : ByteArray), .int .i64 0, .int .u8 0, .int .u8 0]) ?_ 0 _ rfl; (with_reducible repeat (first | refine blk_drewN ?_ _ | refine blk_drew ?_ | refine blk_alloc ?_ _)); exact BK144.out) Tryz.underlying167 rfl (by kernel_rfl)) rfl ?_
                            exact ⟨by first | rfl | (simp [errW_none, errW_some] <;> rfl) | (simp [*, errW_none, errW_some] <;> rfl), by repeat (first | (with_reducible first | exact HB.out | apply below_alloc | apply pw_below_drewN | apply below_drew1 | refine below_set ?_ GE144.out) | exact HB.out)⟩
                          · rw [if_neg c63] at H
                            have c63b0 : (a0 == 41) = false := beq_eq_false_iff_ne.mpr c63
                            have c63b1 : (a0 != 41) = true := bne_iff_ne.mpr c63
                            by_cases c65 : a0 ≤ 45
                            · rw [if_pos c65] at H
                              have c65b0 : decide (a0 ≤ 45) = true := decide_eq_true c65
                              clear c65
                              obtain ⟨ji66, hji66⟩ : ∃ j_ : Int, (wrap64 (a0 - 42)) = j_ := ⟨_, rfl⟩
                              replace H : (if 0 ≤ (ji66) then (if (ji66) < (y160.length : Int) then (some (rdOf ByteArray.empty y160 (ji66), 8, 45, 45, true)) else (none)) else (none)) = some (r1, r2, r3, r4, r5) := by first | (rw [hji66] at H; exact H) | (simp only [hji66] at H ⊢; exact H)
                              have hji66w : (IntKind.i64.wrap (a0 - 42)) = ji66 := (i64_w _).trans hji66
                              by_cases c67 : 0 ≤ (ji66)
                              · rw [if_pos c67] at H
                                have c67b0 : decide (0 ≤ (ji66)) = true := decide_eq_true c67
                                clear c67
                                by_cases c68 : (ji66) < (y160.length : Int)
                                · rw [if_pos c68] at H
                                  have c68b0 : decide ((ji66) < (y160.length : Int)) = true := decide_eq_true c68
                                  clear c68
                                  simp only [Option.some.injEq, Prod.mk.injEq] at H
                                  obtain ⟨rfl, rfl, rfl, rfl, rfl⟩ := H
                                  obtain ⟨Ao69, co69, eo69⟩ := Kd.R_slice HO_9.out
                                  subst eo69
                                  have p168 : 0 ≤ ((ji66) : Int) := of_decide_eq_true (by first | (with_reducible assumption) | assumption)
                                  have q168 : (ji66) < (y160.length : Int) := of_decide_eq_true (by first | (with_reducible assumption) | assumption)
                                  obtain ⟨ad168, e168, hx168_0⟩ := Kd.at_string (Kd.R_reads' HO_9.out).2.2 (ji66) p168 q168
                                  cases e168
                                  replace p168 := eq_true p168
                                  replace q168 := eq_true q168
                                  have hcz70_0 : wc.cell? ⟨gb144, 0, none⟩ = some (.string (⟨#[]⟩ : ByteArray)) := (blk_cell BK144.out 0).trans rfl
                                  have hcz70_1 : wc.cell? ⟨gb144, 1, none⟩ = some (.int .i64 0) := (blk_cell BK144.out 1).trans rfl
                                  have hcz70_2 : wc.cell? ⟨gb144, 2, none⟩ = some (.int .u8 0) := (blk_cell BK144.out 2).trans rfl
                                  have hcz70_3 : wc.cell? ⟨gb144, 3, none⟩ = some (.int .u8 0) := (blk_cell BK144.out 3).trans rfl
                                  have hfz70_0 := blk_frozen BK144.out 0
                                  have hfz70_1 := blk_frozen BK144.out 1
                                  have hfz70_2 := blk_frozen BK144.out 2
                                  have hfz70_3 := blk_frozen BK144.out 3
                                  go_wp2
                                  refine bodyPost_ret (results_ct rfl _ _ gb144 167 #[.string (rdOf ByteArray.empty y160 (ji66)), .int .i64 8, .int .u8 45, .int .u8 45] (0, 0) _ rfl (by (with_reducible repeat (first | refine blk_drewN ?_ _ | refine blk_drew ?_ | refine blk_alloc ?_ _)); refine blk_put (cs := #[.string (rdOf ByteArray.empty y160 (ji66)), .int .i64 8, .int .u8 45, .int .u8 0]) ?_ 3 _ rfl; (with_reducible repeat (first | refine blk_drewN ?_ _ | refine blk_drew ?_ | refine blk_alloc ?_ _)); refine blk_put (cs := #[.string (rdOf ByteArray.empty y160 (ji66)), .int .i64 8, .int .u8 0, .int .u8 0]) ?_ 2 _ rfl; (with_reducible repeat (first | refine blk_drewN ?_ _ | refine blk_drew ?_ | refine blk_alloc ?_ _)); refine blk_put (cs := #[.string (rdOf ByteArray.empty y160 (ji66)), .int .i64 0, .int .u8 0, .int .u8 0]) ?_ 1 _ rfl; (with_reducible repeat (first | refine blk_drewN ?_ _ | refine blk_drew ?_ | refine blk_alloc ?_ _)); refine blk_put (cs := #[.string (⟨#[]⟩ : ByteArray), .int .i64 0, .int .u8 0, .int .u8 0]) ?_ 0 _ rfl; (with_reducible repeat (first | refine blk_drewN ?_ _ | refine blk_drew ?_ | refine blk_alloc ?_ _)); exact BK144.out) Tryz.underlying167 rfl (by kernel_rfl)) rfl ?_
                                  exact ⟨by first | rfl | (simp [errW_none, errW_some] <;> rfl) | (simp only [← hji66]; first | rfl | (simp [errW_none, errW_some] <;> rfl)) | (simp [*, errW_none, errW_some] <;> rfl), by repeat (first | (with_reducible first | exact HB.out | apply below_alloc | apply pw_below_drewN | apply below_drew1 | refine below_set ?_ GE144.out) | exact HB.out)⟩
                                · rw [if_neg c68] at H
                                  exact absurd H (by simp)
                              · rw [if_neg c67] at H
                                exact absurd H (by simp)
                            · rw [if_neg c65] at H
                              have c65b0 : decide (a0 ≤ 45) = false := decide_eq_false c65
                              clear c65
                              by_cases c71 : a0 = 46
                              · rw [if_pos c71] at H
                                have c71b0 : (a0 == 46) = true := beq_iff_eq.mpr c71
                                have c71b1 : (a0 != 46) = false := bne_eq_false_iff_eq.mpr c71
                                clear c71
                                simp only [Option.some.injEq, Prod.mk.injEq] at H
                                obtain ⟨rfl, rfl, rfl, rfl, rfl⟩ := H
                                have hcz72_0 : wc.cell? ⟨gb144, 0, none⟩ = some (.string (⟨#[]⟩ : ByteArray)) := (blk_cell BK144.out 0).trans rfl
                                have hcz72_1 : wc.cell? ⟨gb144, 1, none⟩ = some (.int .i64 0) := (blk_cell BK144.out 1).trans rfl
                                have hcz72_2 : wc.cell? ⟨gb144, 2, none⟩ = some (.int .u8 0) := (blk_cell BK144.out 2).trans rfl
                                have hcz72_3 : wc.cell? ⟨gb144, 3, none⟩ = some (.int .u8 0) := (blk_cell BK144.out 3).trans rfl
                                have hfz72_0 := blk_frozen BK144.out 0
                                have hfz72_1 := blk_frozen BK144.out 1
                                have hfz72_2 := blk_frozen BK144.out 2
                                have hfz72_3 := blk_frozen BK144.out 3
                                go_wp2
                                refine bodyPost_ret (results_ct rfl _ _ gb144 167 #[.string (⟨#[118, 101, 99]⟩ : ByteArray), .int .i64 6, .int .u8 45, .int .u8 49] (0, 0) _ rfl (by (with_reducible repeat (first | refine blk_drewN ?_ _ | refine blk_drew ?_ | refine blk_alloc ?_ _)); refine blk_put (cs := #[.string (⟨#[118, 101, 99]⟩ : ByteArray), .int .i64 6, .int .u8 45, .int .u8 0]) ?_ 3 _ rfl; (with_reducible repeat (first | refine blk_drewN ?_ _ | refine blk_drew ?_ | refine blk_alloc ?_ _)); refine blk_put (cs := #[.string (⟨#[118, 101, 99]⟩ : ByteArray), .int .i64 6, .int .u8 0, .int .u8 0]) ?_ 2 _ rfl; (with_reducible repeat (first | refine blk_drewN ?_ _ | refine blk_drew ?_ | refine blk_alloc ?_ _)); refine blk_put (cs := #[.string (⟨#[118, 101, 99]⟩ : ByteArray), .int .i64 0, .int .u8 0, .int .u8 0]) ?_ 1 _ rfl; (with_reducible repeat (first | refine blk_drewN ?_ _ | refine blk_drew ?_ | refine blk_alloc ?_ _)); refine blk_put (cs := #[.string (⟨#[]⟩ : ByteArray), .int .i64 0, .int .u8 0, .int .u8 0]) ?_ 0 _ rfl; (with_reducible repeat (first | refine blk_drewN ?_ _ | refine blk_drew ?_ | refine blk_alloc ?_ _)); exact BK144.out) Tryz.underlying167 rfl (by kernel_rfl)) rfl ?_
                                exact ⟨by first | rfl | (simp [errW_none, errW_some] <;> rfl) | (simp [*, errW_none, errW_some] <;> rfl), by repeat (first | (with_reducible first | exact HB.out | apply below_alloc | apply pw_below_drewN | apply below_drew1 | refine below_set ?_ GE144.out) | exact HB.out)⟩
                              · rw [if_neg c71] at H
                                have c71b0 : (a0 == 46) = false := beq_eq_false_iff_ne.mpr c71
                                have c71b1 : (a0 != 46) = true := bne_iff_ne.mpr c71
                                by_cases c73 : a0 = 47
                                · rw [if_pos c73] at H
                                  have c73b0 : (a0 == 47) = true := beq_iff_eq.mpr c73
                                  have c73b1 : (a0 != 47) = false := bne_eq_false_iff_eq.mpr c73
                                  clear c73
                                  simp only [Option.some.injEq, Prod.mk.injEq] at H
                                  obtain ⟨rfl, rfl, rfl, rfl, rfl⟩ := H
                                  have hcz74_0 : wc.cell? ⟨gb144, 0, none⟩ = some (.string (⟨#[]⟩ : ByteArray)) := (blk_cell BK144.out 0).trans rfl
                                  have hcz74_1 : wc.cell? ⟨gb144, 1, none⟩ = some (.int .i64 0) := (blk_cell BK144.out 1).trans rfl
                                  have hcz74_2 : wc.cell? ⟨gb144, 2, none⟩ = some (.int .u8 0) := (blk_cell BK144.out 2).trans rfl
                                  have hcz74_3 : wc.cell? ⟨gb144, 3, none⟩ = some (.int .u8 0) := (blk_cell BK144.out 3).trans rfl
                                  have hfz74_0 := blk_frozen BK144.out 0
                                  have hfz74_1 := blk_frozen BK144.out 1
                                  have hfz74_2 := blk_frozen BK144.out 2
                                  have hfz74_3 := blk_frozen BK144.out 3
                                  go_wp2
                                  refine bodyPost_ret (results_ct rfl _ _ gb144 167 #[.string (⟨#[104, 97, 108, 116]⟩ : ByteArray), .int .i64 8, .int .u8 45, .int .u8 45] (0, 0) _ rfl (by (with_reducible repeat (first | refine blk_drewN ?_ _ | refine blk_drew ?_ | refine blk_alloc ?_ _)); refine blk_put (cs := #[.string (⟨#[104, 97, 108, 116]⟩ : ByteArray), .int .i64 8, .int .u8 45, .int .u8 0]) ?_ 3 _ rfl; (with_reducible repeat (first | refine blk_drewN ?_ _ | refine blk_drew ?_ | refine blk_alloc ?_ _)); refine blk_put (cs := #[.string (⟨#[104, 97, 108, 116]⟩ : ByteArray), .int .i64 8, .int .u8 0, .int .u8 0]) ?_ 2 _ rfl; (with_reducible repeat (first | refine blk_drewN ?_ _ | refine blk_drew ?_ | refine blk_alloc ?_ _)); refine blk_put (cs := #[.string (⟨#[104, 97, 108, 116]⟩ : ByteArray), .int .i64 0, .int .u8 0, .int .u8 0]) ?_ 1 _ rfl; (with_reducible repeat (first | refine blk_drewN ?_ _ | refine blk_drew ?_ | refine blk_alloc ?_ _)); refine blk_put (cs := #[.string (⟨#[]⟩ : ByteArray), .int .i64 0, .int .u8 0, .int .u8 0]) ?_ 0 _ rfl; (with_reducible repeat (first | refine blk_drewN ?_ _ | refine blk_drew ?_ | refine blk_alloc ?_ _)); exact BK144.out) Tryz.underlying167 rfl (by kernel_rfl)) rfl ?_
                                  exact ⟨by first | rfl | (simp [errW_none, errW_some] <;> rfl) | (simp [*, errW_none, errW_some] <;> rfl), by repeat (first | (with_reducible first | exact HB.out | apply below_alloc | apply pw_below_drewN | apply below_drew1 | refine below_set ?_ GE144.out) | exact HB.out)⟩
                                · rw [if_neg c73] at H
                                  have c73b0 : (a0 == 47) = false := beq_eq_false_iff_ne.mpr c73
                                  have c73b1 : (a0 != 47) = true := bne_iff_ne.mpr c73
                                  simp only [Option.some.injEq, Prod.mk.injEq] at H
                                  obtain ⟨rfl, rfl, rfl, rfl, rfl⟩ := H
                                  have hcz75_0 : wc.cell? ⟨gb144, 0, none⟩ = some (.string (⟨#[]⟩ : ByteArray)) := (blk_cell BK144.out 0).trans rfl
                                  have hcz75_1 : wc.cell? ⟨gb144, 1, none⟩ = some (.int .i64 0) := (blk_cell BK144.out 1).trans rfl
                                  have hcz75_2 : wc.cell? ⟨gb144, 2, none⟩ = some (.int .u8 0) := (blk_cell BK144.out 2).trans rfl
                                  have hcz75_3 : wc.cell? ⟨gb144, 3, none⟩ = some (.int .u8 0) := (blk_cell BK144.out 3).trans rfl
                                  have hfz75_0 := blk_frozen BK144.out 0
                                  have hfz75_1 := blk_frozen BK144.out 1
                                  have hfz75_2 := blk_frozen BK144.out 2
                                  have hfz75_3 := blk_frozen BK144.out 3
                                  go_wp2
                                  refine bodyPost_ret (results_ct rfl _ _ gb144 167 #[.string (⟨#[110, 111, 112]⟩ : ByteArray), .int .i64 8, .int .u8 45, .int .u8 45] (0, 0) _ rfl (by (with_reducible repeat (first | refine blk_drewN ?_ _ | refine blk_drew ?_ | refine blk_alloc ?_ _)); refine blk_put (cs := #[.string (⟨#[110, 111, 112]⟩ : ByteArray), .int .i64 8, .int .u8 45, .int .u8 0]) ?_ 3 _ rfl; (with_reducible repeat (first | refine blk_drewN ?_ _ | refine blk_drew ?_ | refine blk_alloc ?_ _)); refine blk_put (cs := #[.string (⟨#[110, 111, 112]⟩ : ByteArray), .int .i64 8, .int .u8 0, .int .u8 0]) ?_ 2 _ rfl; (with_reducible repeat (first | refine blk_drewN ?_ _ | refine blk_drew ?_ | refine blk_alloc ?_ _)); refine blk_put (cs := #[.string (⟨#[110, 111, 112]⟩ : ByteArray), .int .i64 0, .int .u8 0, .int .u8 0]) ?_ 1 _ rfl; (with_reducible repeat (first | refine blk_drewN ?_ _ | refine blk_drew ?_ | refine blk_alloc ?_ _)); refine blk_put (cs := #[.string (⟨#[]⟩ : ByteArray), .int .i64 0, .int .u8 0, .int .u8 0]) ?_ 0 _ rfl; (with_reducible repeat (first | refine blk_drewN ?_ _ | refine blk_drew ?_ | refine blk_alloc ?_ _)); exact BK144.out) Tryz.underlying167 rfl (by kernel_rfl)) rfl ?_
                                  exact ⟨by first | rfl | (simp [errW_none, errW_some] <;> rfl) | (simp [*, errW_none, errW_some] <;> rfl), by repeat (first | (with_reducible first | exact HB.out | apply below_alloc | apply pw_below_drewN | apply below_drew1 | refine below_set ?_ GE144.out) | exact HB.out)⟩
end Go.Proofs.YtabmlbnnhhpaoaaGreatDoor.PAsmLines
