/- What this claim needs of Asm0, Asm1, Asm2. -/
import Derived.Test.YtabmlbnnhhpaoaaGreatDoorProg
import Derived.WalkKit
import Derived.Shelf.Abstract
import Derived.Test.YtabmlbnnhhpaoaaGreatDoorEShelf
import Derived.Test.YtabmlbnnhhpaoaaGreatDoorEMIsaBase
import Derived.Deep.RegionHeld3
set_option linter.unusedSimpArgs false
set_option linter.unusedVariables false
set_option maxHeartbeats 1000000
set_option maxRecDepth 100000
namespace Go.Proofs.YtabmlbnnhhpaoaaGreatDoor
open Go.RowKit Go.Shelf
namespace Asm
def letter (c : UInt8) : Bool := decide (97 ≤ c.toNat) && decide (c.toNat ≤ 122) || decide (65 ≤ c.toNat) && decide (c.toNat ≤ 90) || decide (c.toNat = 95) || decide (c.toNat = 46)
def digit (c : UInt8) : Bool := decide (48 ≤ c.toNat) && decide (c.toNat ≤ 57)
end Asm
theorem isDigit_calls (c : UInt8) (w : World) : Calls Tryz.prog 92 #[.int .u8 (c.toNat : Int)] w fun e w' => e = .returned (.bool (Asm.digit c)) ∧ w' = w := by
 go_enter Tryz.func92, Tryz.ntmps92
 go_wp2_with fail
 all_goals (go_ret; refine ⟨congrArg (fun b => Ending.returned (.bool b)) ?_, rfl⟩; rw [Bool.eq_iff_iff]; simp [Asm.letter, Asm.digit]; omega)
theorem isLetter_calls (c : UInt8) (w : World) : Calls Tryz.prog 89 #[.int .u8 (c.toNat : Int)] w fun e w' => e = .returned (.bool (Asm.letter c)) ∧ w' = w := by
 go_enter Tryz.func89, Tryz.ntmps89
 go_wp2_with fail
 all_goals (go_ret; refine ⟨congrArg (fun b => Ending.returned (.bool b)) ?_, rfl⟩; rw [Bool.eq_iff_iff]; simp [Asm.letter, Asm.digit]; omega)
def Asm.span (p : UInt8 → Bool) : List UInt8 → Nat
 | [] => 0
 | c :: l => if p c then Asm.span p l + 1 else 0
theorem Asm.span_le (p : UInt8 → Bool) : ∀ l, Asm.span p l ≤ l.length
 | [] => by simp [Asm.span]
 | c :: l => by unfold Asm.span; split; have := Asm.span_le p l; simp; omega; simp
def Asm.Tells (I : World → Prop) (k : Nat) (caps : Array Value) (p : UInt8 → Bool) : Prop :=
 (∀ args w, (callFunc k args).run Tryz.prog w = .ok (.enter k args) w) ∧
 ∀ (c : UInt8) (W : World), I W → Calls Tryz.prog k (#[.int .u8 (c.toNat : Int)] ++ caps) W fun e W' => e = .returned (.bool (p c)) ∧ W' = W
theorem span_calls (I : World → Prop) (k : Nat) (caps : Array Value) (p : UInt8 → Bool) (hp : Asm.Tells I k caps p) (l : List UInt8) (hl : l.length ≤ 9223372036854775806) (w : World) (hI : I w) :
 Calls Tryz.prog 90 #[.string ⟨l.toArray⟩, .func (.func k) #[] caps] w fun e w' => e = .returned (.int .i64 (Asm.span p l : Int)) ∧ w' = w := by
 have he := hp.1
 go_enter Tryz.func90, Tryz.ntmps90
 go_wp2_with fail
 go_loopw [5] (fun v wr => ∃ j : Nat, v = .int .i64 j ∧ j ≤ l.length ∧ Asm.span p l = j + Asm.span p (l.drop j) ∧ wr = w) (fun v _ => l.length - (intOf v).toNat)
 case atStart => exact ⟨0, rfl, by simp, by simp, rfl⟩
 case round =>
  obtain ⟨j, rfl, hj, hs, rfl⟩ := hrel
  have hsz : (⟨l.toArray⟩ : ByteArray).size = l.length := by simp [ByteArray.size]
  by_cases hlt : j < l.length
  · have hidx : (⟨l.toArray⟩ : ByteArray)[j]'(by rw [hsz]; exact hlt) = l[j] := by simp [ByteArray.getElem_eq_getElem_data]
    have hd : l.drop j = l[j] :: l.drop (j + 1) := List.drop_eq_getElem_cons hlt
    have hsp : Asm.span p (l.drop j) = if p l[j] then Asm.span p (l.drop (j + 1)) + 1 else 0 := by rw [hd]; rfl
    go_wp2_with fail
    refine (hp.2 l[j] _ hI).mono ?_
    rintro e w' ⟨rfl, rfl⟩
    cases hpc : p l[j] with
    | true =>
     rw [hpc] at hsp
     go_wp2_with fail
     refine ⟨⟨j + 1, rfl, hlt, by rw [hs, hsp]; simp; omega, trivial⟩, ?_⟩
     simp [intOf]; omega
    | false =>
     rw [hpc] at hsp
     go_wp2_with fail
     go_ret
     exact ⟨by rw [hs, hsp]; simp, rfl⟩
  · have h0 : l.drop j = [] := List.drop_eq_nil_of_le (by omega)
    go_wp2_with fail
    go_ret
    exact ⟨by rw [hs, h0]; simp [Asm.span], rfl⟩
theorem tok1_calls (c : UInt8) (w : World) : Calls Tryz.prog 91 #[.int .u8 (c.toNat : Int)] w fun e w' => e = .returned (.bool (Asm.letter c || Asm.digit c)) ∧ w' = w := by
 go_enter Tryz.func91, Tryz.ntmps91
 go_wp2_with fail
 refine (isLetter_calls c _).mono ?_
 rintro e w1 ⟨rfl, rfl⟩
 cases hl : Asm.letter c with
 | true => go_wp2_with fail; go_ret; exact ⟨by rw [hl]; rfl, rfl⟩
 | false =>
  go_wp2_with fail
  refine (isDigit_calls c _).mono ?_
  rintro e w1 ⟨rfl, rfl⟩
  go_wp2_with fail
  go_ret
  exact ⟨by rw [hl]; rfl, rfl⟩
theorem name1_calls (c : UInt8) (w : World) : Calls Tryz.prog 96 #[.int .u8 (c.toNat : Int)] w fun e w' => e = .returned (.bool (!decide (c.toNat = 46) && (Asm.letter c || Asm.digit c))) ∧ w' = w := by
 go_enter Tryz.func96, Tryz.ntmps96
 by_cases h46 : c.toNat = 46
 · have h46' : (c.toNat : Int) = 46 := by omega
   go_wp2_with fail
   go_ret
   exact ⟨by simp [h46], rfl⟩
 · have h46' : ¬ (c.toNat : Int) = 46 := by omega
   have hb : ((c.toNat : Int) != 46) = true := by simpa using h46'
   go_wp2_with fail
   refine (isLetter_calls c _).mono ?_
   rintro e w1 ⟨rfl, rfl⟩
   cases hl : Asm.letter c with
   | true => go_wp2_with fail; go_ret; exact ⟨by simp [h46, hl, hb], rfl⟩
   | false =>
    go_wp2_with fail
    refine (isDigit_calls c _).mono ?_
    rintro e w1 ⟨rfl, rfl⟩
    go_wp2_with fail
    go_ret
    exact ⟨by simp [h46, hl, hb], rfl⟩
theorem tok1_tells (I : World → Prop) : Asm.Tells I 91 #[] (fun c => Asm.letter c || Asm.digit c) :=
 ⟨enters_of Tryz.func91 (by kernel_rfl) rfl, fun c W _ => by simpa using tok1_calls c W⟩
theorem name1_tells (I : World → Prop) : Asm.Tells I 96 #[] (fun c => !decide (c.toNat = 46) && (Asm.letter c || Asm.digit c)) :=
 ⟨enters_of Tryz.func96 (by kernel_rfl) rfl, fun c W _ => by simpa using name1_calls c W⟩
end Go.Proofs.YtabmlbnnhhpaoaaGreatDoor
set_option maxHeartbeats 1000000
set_option maxRecDepth 100000
namespace Go.Proofs.YtabmlbnnhhpaoaaGreatDoor
open Go.RowKit Go.Shelf
namespace Asm
def regName (n : Nat) : List UInt8 := if n < 10 then [114, UInt8.ofNat (48 + n)] else [114, 49, UInt8.ofNat (38 + n)]
def regFrom : Nat → Nat → List UInt8 → Option Nat
 | 0, _, _ => none
 | k + 1, j, l => if l = regName j then some j else regFrom k (j + 1) l
def regOf (l : List UInt8) : Option Nat := regFrom 16 0 l
def regAns : Option Nat → Value
 | some n => .tuple #[.int .u8 (n : Int), .bool true]
 | none => .tuple #[.int .u8 0, .bool false]
theorem reg_digits (j : Nat) (h : j < 16) : (114 : UInt8) :: Lib.decDigits j = regName j := by
 rcases (show j = 0 ∨ j = 1 ∨ j = 2 ∨ j = 3 ∨ j = 4 ∨ j = 5 ∨ j = 6 ∨ j = 7 ∨ j = 8 ∨ j = 9 ∨ j = 10 ∨ j = 11 ∨ j = 12 ∨ j = 13 ∨ j = 14 ∨ j = 15 from by omega) with rfl | rfl | rfl | rfl | rfl | rfl | rfl | rfl | rfl | rfl | rfl | rfl | rfl | rfl | rfl | rfl <;> simp [regName, Lib.decDigits]
theorem regName_len (j : Nat) : (regName j).length ≤ 3 := by unfold regName; split <;> simp
end Asm
theorem asmReg_calls (l : List UInt8) (w : World) :
 Calls Tryz.prog 95 #[.string ⟨l.toArray⟩] w fun e w' => e = .returned (Asm.regAns (Asm.regOf l)) ∧ w' = w := by
 go_enter Tryz.func95, Tryz.ntmps95
 go_wp2_with fail
 go_loopw [5] (fun v wr => ∃ j : Nat, v = .int .u8 j ∧ j ≤ 16 ∧ Asm.regOf l = Asm.regFrom (16 - j) j l ∧ wr = w) (fun v _ => 16 - (intOf v).toNat)
 case atStart => exact ⟨0, rfl, by simp, rfl, rfl⟩
 case round =>
  obtain ⟨j, rfl, hj, hs, rfl⟩ := hrel
  by_cases hlt : j < 16
  · obtain ⟨k, hk⟩ : ∃ k, 16 - j = k + 1 := ⟨15 - j, by omega⟩
    have hk' : 16 - (j + 1) = k := by omega
    have hw : IntKind.i64.wrap (j : Int) = (j : Int) := IntWalk.i64_in _ (by omega)
    have hw8 : IntKind.u8.wrap ((j : Int) + 1) = (j : Int) + 1 := IntWalk.u8_in _ (by omega)
    have hcat : (⟨#[114]⟩ : ByteArray) ++ ⟨(Lib.decDigits j).toArray⟩ = ⟨(Asm.regName j).toArray⟩ := by
     rw [← Asm.reg_digits j hlt]; apply ByteArray.ext; simp [ByteArray.data_append]
    have hsz : (⟨(Lib.decDigits j).toArray⟩ : ByteArray).size ≤ 3 := by
     have h1 := congrArg List.length (Asm.reg_digits j hlt)
     have h2 := Asm.regName_len j
     simp [ByteArray.size] at h1 ⊢
     omega
    obtain ⟨d, hd⟩ : ∃ d : ByteArray, (⟨(Lib.decDigits j).toArray⟩ : ByteArray) = d := ⟨_, rfl⟩
    rw [hd] at hcat hsz
    go_wp2_with fail
    refine (Tryz.strconv_Itoa_small j (by omega) _).mono ?_
    rintro e w' ⟨rfl, rfl⟩
    rw [hd]
    clear hd
    by_cases heq : l = Asm.regName j
    · have hr : Asm.regOf l = some j := by rw [hs, hk]; unfold Asm.regFrom; rw [if_pos heq]
      have hbt : (l == Asm.regName j) = true := by simp [heq]
      go_wp2_with fail
      refine bodyPost_ret (v := .tuple #[.int .u8 (j : Int), .bool true]) (by simp [results, Tryz.results95, go_sem]) rfl ⟨?_, rfl⟩
      rw [hr]; rfl
    · have hr : Asm.regOf l = Asm.regFrom (16 - (j + 1)) (j + 1) l := by rw [hs, hk, hk']; rw [Asm.regFrom, if_neg heq]
      have hbt : (l == Asm.regName j) = false := by simp [heq]
      go_wp2_with fail
      refine ⟨⟨j + 1, rfl, hlt, hr, trivial⟩, ?_⟩
      simp [intOf]; omega
  · have hr : Asm.regOf l = none := by rw [hs, show 16 - j = 0 by omega]; rfl
    go_wp2_with fail
    refine bodyPost_ret (v := .tuple #[.int .u8 0, .bool false]) (by simp [results, Tryz.results95, go_sem]) rfl ⟨?_, rfl⟩
    rw [hr]; rfl
def Asm.nameByte (c : UInt8) : Bool := !decide (c.toNat = 46) && (Asm.letter c || Asm.digit c)
def Asm.nameOk : List UInt8 → Bool
 | [] => false
 | c :: l => (Asm.regOf (c :: l)).isNone && decide (l.length ≤ 15) && Asm.letter c && decide (Asm.span Asm.nameByte (c :: l) = l.length + 1)
theorem asmName_calls (l : List UInt8) (hl : l.length ≤ 9223372036854775806) (w : World) :
 Calls Tryz.prog 53 #[.string ⟨l.toArray⟩] w fun e w' => e = .returned (.bool (Asm.nameOk l)) ∧ w' = w := by
 have hsz : (⟨l.toArray⟩ : ByteArray).size = l.length := by simp [ByteArray.size]
 go_enter Tryz.func53, Tryz.ntmps53
 go_wp2_with fail
 refine (asmReg_calls l _).mono ?_
 rintro e w1 ⟨rfl, rfl⟩
 cases hr : Asm.regOf l with
 | some n =>
  unfold Asm.regAns
  go_wp2_with fail
  go_ret
  refine ⟨?_, rfl⟩
  cases l <;> simp [Asm.nameOk, hr]
 | none =>
  unfold Asm.regAns
  cases l with
  | nil =>
   go_wp2_with fail
   go_ret
   exact ⟨rfl, rfl⟩
  | cons c l =>
   by_cases h16 : l.length ≤ 15
   · have hidx : (⟨(c :: l).toArray⟩ : ByteArray)[0]'(by simp [ByteArray.size]) = c := by simp [ByteArray.getElem_eq_getElem_data]
     have hlen : (c :: l).length = l.length + 1 := rfl
     go_wp2_with fail
     refine (isLetter_calls c _).mono ?_
     rintro e w1 ⟨rfl, rfl⟩
     cases hc : Asm.letter c with
     | false =>
      go_wp2_with fail
      go_ret
      exact ⟨by simp [Asm.nameOk, hc], rfl⟩
     | true =>
      go_wp2_with fail
      refine (span_calls (fun _ => True) _ #[] _ (name1_tells _) (c :: l) hl _ trivial).mono ?_
      rintro e w1 ⟨rfl, rfl⟩
      go_wp2_with fail
      go_ret
      refine ⟨congrArg (fun b => Ending.returned (.bool b)) ?_, rfl⟩
      rw [Bool.eq_iff_iff]
      simp [Asm.nameOk, hr, h16, hc]
      have hsame : (fun c => !decide (c.toNat = 46) && (Asm.letter c || Asm.digit c)) = Asm.nameByte := rfl
      rw [hsame]
      omega
   · go_wp2_with fail
     go_ret
     exact ⟨by simp [Asm.nameOk, h16], rfl⟩
end Go.Proofs.YtabmlbnnhhpaoaaGreatDoor
set_option maxHeartbeats 3000000
set_option maxRecDepth 100000
namespace Go.Proofs.YtabmlbnnhhpaoaaGreatDoor
open Go.RowKit Go.Shelf
theorem alloc_size (w : World) (o : Obj) : (w.alloc o).heap.size = w.heap.size + 1 := by
 show (w.heap.push o).size = _
 simp
namespace Asm
def hexDigits : List UInt8 := [48, 49, 50, 51, 52, 53, 54, 55, 56, 57, 97, 98, 99, 100, 101, 102]
def val (hex : Bool) (c : UInt8) : Int := Lib.indexByte (hexDigits.take (if hex then 16 else 10)) c
def base (hex : Bool) : Int := if hex then 16 else 10
theorem base_cases (hex : Bool) : base hex = 10 ∨ base hex = 16 := by cases hex <;> simp [base]
end Asm
theorem num1_calls (hex : Bool) (b : Nat) (c : UInt8) (w : World) (hb : w.cell? ⟨b, 0, none⟩ = some (.int .i64 (Asm.base hex))) :
 Calls Tryz.prog 130 #[.int .u8 (c.toNat : Int), .pointer (some ⟨b, 0, none⟩)] w fun e w' => e = .returned (.int .i64 (Asm.val hex c)) ∧ w' = w := by
 cases hex with
 | true =>
  simp only [Asm.base, if_true] at hb
  go_enter Tryz.func130, Tryz.ntmps130
  go_wp2_with fail
  refine (Tryz.strings_IndexByte _ _ _).mono ?_
  rintro e w' ⟨rfl, rfl⟩
  go_wp2_with fail
  go_ret
  refine ⟨congrArg (fun x => Ending.returned (.int .i64 x)) ?_, rfl⟩
  rfl
 | false =>
  simp only [Asm.base] at hb
  go_enter Tryz.func130, Tryz.ntmps130
  go_wp2_with fail
  refine (Tryz.strings_IndexByte _ _ _).mono ?_
  rintro e w' ⟨rfl, rfl⟩
  go_wp2_with fail
  go_ret
  refine ⟨congrArg (fun x => Ending.returned (.int .i64 x)) ?_, rfl⟩
  rfl
theorem num2_calls (hex : Bool) (b b2 : Nat) (c : UInt8) (w : World) (hb : w.cell? ⟨b, 0, none⟩ = some (.int .i64 (Asm.base hex)))
 (hb2 : w.cell? ⟨b2, 0, none⟩ = some (.func (.func 130) #[] #[.pointer (some ⟨b, 0, none⟩)])) :
 Calls Tryz.prog 131 #[.int .u8 (c.toNat : Int), .pointer (some ⟨b2, 0, none⟩)] w fun e w' => e = .returned (.bool (decide (0 ≤ Asm.val hex c))) ∧ w' = w := by
 go_enter Tryz.func131, Tryz.ntmps131
 go_wp2_with fail
 refine (num1_calls hex b c _ hb).mono ?_
 rintro e w' ⟨rfl, rfl⟩
 go_wp2_with fail
 go_ret
 exact ⟨rfl, rfl⟩
theorem num2_tells (hex : Bool) (b b2 : Nat) : Asm.Tells (fun w => w.cell? ⟨b, 0, none⟩ = some (.int .i64 (Asm.base hex)) ∧ w.cell? ⟨b2, 0, none⟩ = some (.func (.func 130) #[] #[.pointer (some ⟨b, 0, none⟩)]))
 131 #[.pointer (some ⟨b2, 0, none⟩)] (fun c => decide (0 ≤ Asm.val hex c)) :=
 ⟨enters_of Tryz.func131 (by kernel_rfl) rfl, fun c W h => by simpa using num2_calls hex b b2 c W h.1 h.2⟩
namespace Asm
def hugest : Int := 1099511627776
def step (hex : Bool) (n : Int) (c : UInt8) : Int := min (n * base hex + val hex c) hugest
def fold (hex : Bool) (l : List UInt8) : Int := l.foldl (step hex) 0
def minus (s : List UInt8) : Bool := Lib.hasPrefix s [45]
def body (s : List UInt8) : List UInt8 := Lib.trimPrefix s [45]
def hex (s : List UInt8) : Bool := Lib.hasPrefix (body s) [48, 120]
def digits (s : List UInt8) : List UInt8 := Lib.trimPrefix (body s) [48, 120]
def size (s : List UInt8) : Nat := span (fun c => decide (0 ≤ val (hex s) c)) (digits s)
def noNum (s : List UInt8) : Bool :=
 decide (size s = 0) || (!hex s && decide (1 < size s) && decide ((digits s)[0]? = some 48)) ||
  (match (digits s)[size s]? with | some c => letter c || digit c | none => false)
def numAbs (s : List UInt8) : Int := fold (hex s) ((digits s).take (size s))
def numVal (s : List UInt8) : Int := if minus s then - numAbs s else numAbs s
def numLen (s : List UInt8) : Nat := s.length - (digits s).length + size s
def numAns (s : List UInt8) : Value := if noNum s then .tuple #[.int .i64 0, .int .i64 0] else .tuple #[.int .i64 (numLen s : Int), .int .i64 (numVal s)]
end Asm
theorem Asm.fold_snoc (hex : Bool) (l : List UInt8) (c : UInt8) : Asm.fold hex (l ++ [c]) = Asm.step hex (Asm.fold hex l) c := by
 unfold Asm.fold; rw [List.foldl_append]; rfl
theorem Asm.indexByte_lt : ∀ (l : List UInt8) (c : UInt8), -1 ≤ Lib.indexByte l c ∧ Lib.indexByte l c < l.length
 | [], c => by simp [Lib.indexByte]
 | b :: l, c => by
  have := Asm.indexByte_lt l c
  unfold Lib.indexByte
  simp only [List.length_cons]
  split
  · constructor <;> omega
  · split <;> constructor <;> omega
theorem Asm.val_lt (hex : Bool) (c : UInt8) : Asm.val hex c < 16 := by
 have h := (Asm.indexByte_lt (Asm.hexDigits.take (if hex then 16 else 10)) c).2
 unfold Asm.val
 have : ((Asm.hexDigits.take (if hex then 16 else 10)).length : Int) ≤ 16 := by cases hex <;> simp [Asm.hexDigits]
 omega
theorem Asm.span_get (p : UInt8 → Bool) : ∀ (l : List UInt8) (i : Nat) (h : i < l.length), i < Asm.span p l → p l[i] = true
 | c :: l, i, h, hi => by
  unfold Asm.span at hi
  split at hi
  · cases i with
    | zero => assumption
    | succ i => exact Asm.span_get p l i (by simpa using h) (by omega)
  · omega
theorem Asm.step_le (hex : Bool) (n : Int) (c : UInt8) : Asm.step hex n c ≤ Asm.hugest := Int.min_le_right _ _
theorem Asm.step_nonneg (hex : Bool) (n : Int) (c : UInt8) (hn : 0 ≤ n) (hc : 0 ≤ Asm.val hex c) : 0 ≤ Asm.step hex n c := by
 unfold Asm.step
 have : 0 ≤ n * Asm.base hex := Int.mul_nonneg hn (by rcases Asm.base_cases hex with h | h <;> omega)
 have h2 : (0 : Int) ≤ Asm.hugest := by decide
 omega
theorem numeral_calls (s : List UInt8) (hl : s.length ≤ 1000000) (w : World) :
 Calls Tryz.prog 93 #[.string ⟨s.toArray⟩] w fun e w' => e = .returned (Asm.numAns s) ∧ Below w.heap.size w w' := by
 have hmf : ∀ (fn : Fn) (first cap : Array Value) (w : World), (Instr.makeFunc fn first cap).run Tryz.prog w = .ok (.func fn first cap) w := fun _ _ _ _ => rfl
 have hsf : ∀ (a : Addr) (fn : Fn) (first cap : Array Value) (m : Mode) (w : World), (store a (.func fn first cap) m).run Tryz.prog w = stored Tryz.prog w a (.func fn first cap) m := fun a _ _ _ m w => run_store Tryz.prog w a _ m rfl
 obtain ⟨B, hB⟩ : ∃ B, Asm.body s = B := ⟨_, rfl⟩
 obtain ⟨M, hM⟩ : ∃ M, Asm.minus s = M := ⟨_, rfl⟩
 obtain ⟨X, hX⟩ : ∃ X, Asm.hex s = X := ⟨_, rfl⟩
 obtain ⟨D, hD⟩ : ∃ D, Asm.digits s = D := ⟨_, rfl⟩
 have hB' : Lib.trimPrefix s [45] = B := hB
 have hM' : Lib.hasPrefix s [45] = M := hM
 have hX' : Lib.hasPrefix B [48, 120] = X := by rw [← hX, ← hB]; rfl
 have hD' : Lib.trimPrefix B [48, 120] = D := by rw [← hD, ← hB]; rfl
 go_enter Tryz.func93, Tryz.ntmps93
 go_wp2_with fail
 refine (Tryz.strings_CutPrefix _ _ _).mono ?_
 rintro e w1 ⟨rfl, rfl⟩
 dsimp only
 rw [hB', hM']
 go_wp2_with fail
 refine (Tryz.strings_CutPrefix _ _ _).mono ?_
 rintro e w2 ⟨rfl, rfl⟩
 dsimp only
 rw [hD', hX']
 have hDl : D.length ≤ s.length := by
  rw [← hD', ← hB']; unfold Lib.trimPrefix
  split <;> split <;> simp <;> omega
 cases X with
 | true =>
  go_wp2_with fail
  refine (span_calls (fun w => w.cell? ⟨w1.heap.size, 0, none⟩ = some (.int .i64 (Asm.base true)) ∧ w.cell? ⟨w1.heap.size + 1, 0, none⟩ = some (.func (.func 130) #[] #[.pointer (some ⟨w1.heap.size, 0, none⟩)])) _ _ (fun c => decide (0 ≤ Asm.val true c)) (num2_tells true w1.heap.size (w1.heap.size + 1)) D (by omega) _ ?hI).mono ?_
  case hI => exact ⟨(blk_facts (blk_alloc _ (heap_alloc_new _ _))).1 0, (blk_facts (alloc_size w1 _ ▸ heap_alloc_new _ _)).1 0⟩
  rintro e w2 ⟨rfl, rfl⟩
  have A1 := blk_alloc (.cells #[.func (.func 130) #[] #[.pointer (some ⟨w1.heap.size, 0, none⟩)]] 224) (heap_alloc_new w1 (.cells #[.int .i64 (Asm.base true)] 2))
  have A2 := heap_alloc_new (w1.alloc (.cells #[.int .i64 (Asm.base true)] 2)) (.cells #[.func (.func 130) #[] #[.pointer (some ⟨w1.heap.size, 0, none⟩)]] 224)
  rw [alloc_size] at A2
  have HB : Below w1.heap.size w1 ((w1.alloc (.cells #[.int .i64 (Asm.base true)] 2)).alloc (.cells #[.func (.func 130) #[] #[.pointer (some ⟨w1.heap.size, 0, none⟩)]] 224)) := below_alloc' (below_alloc' (Below.refl _ _) _) _
  simp only [Asm.base, if_true, Bool.false_eq_true, if_false] at A1 A2 HB
  generalize (w1.alloc _).alloc _ = W at A1 A2 HB ⊢
  obtain ⟨d1, f1⟩ := blk_facts A1
  obtain ⟨d2, f2⟩ := blk_facts A2
  obtain ⟨k, hk⟩ : ∃ k, Asm.span (fun c => decide (0 ≤ Asm.val true c)) D = k := ⟨_, rfl⟩
  have hkl : k ≤ D.length := hk ▸ Asm.span_le _ D
  have hsz : Asm.size s = k := by unfold Asm.size; rw [hX, hD]; exact hk
  rw [hk]
  by_cases hk0 : k = 0
  · subst hk0
    have hno : Asm.noNum s = true := by simp [Asm.noNum, hsz]
    go_wp2_with fail
    refine bodyPost_ret (v := .tuple #[.int .i64 0, .int .i64 0]) (by simp [results, Tryz.results93, go_sem]) rfl ⟨?_, HB⟩
    simp [Asm.numAns, hno]
  · have hD0 : 0 < D.length := by omega
    have hkb : ((k : Int) == 0) = false := by simp; omega
    by_cases hkD : k < D.length
    · have hidk : ∀ h, (⟨D.toArray⟩ : ByteArray)[k]'h = D[k] := fun h => by simp [ByteArray.getElem_eq_getElem_data]
      have hgk : D[k]? = some D[k] := List.getElem?_eq_getElem hkD
      go_wp2_with fail
      refine (isLetter_calls D[k] _).mono ?_
      rintro e w3 ⟨rfl, rfl⟩
      cases hlt : Asm.letter D[k] with
      | true =>
       have hno : Asm.noNum s = true := by simp [Asm.noNum, hsz, hD, hgk, hlt]
       go_wp2_with fail
       refine bodyPost_ret (v := .tuple #[.int .i64 0, .int .i64 0]) (by simp [results, Tryz.results93, go_sem]) rfl ⟨?_, HB⟩
       simp [Asm.numAns, hno]
      | false =>
       go_wp2_with fail
       refine (isDigit_calls D[k] _).mono ?_
       rintro e w3 ⟨rfl, rfl⟩
       cases hdg : Asm.digit D[k] with
       | true =>
        have hno : Asm.noNum s = true := by simp [Asm.noNum, hsz, hD, hgk, hdg]
        go_wp2_with fail
        refine bodyPost_ret (v := .tuple #[.int .i64 0, .int .i64 0]) (by simp [results, Tryz.results93, go_sem]) rfl ⟨?_, HB⟩
        simp [Asm.numAns, hno]
       | false =>
        have hno : Asm.noNum s = false := by simp [Asm.noNum, hsz, hk0, hX, hD, hgk, hlt, hdg]
        go_wp2_with fail
        go_loopw [13, 67] (fun vn vi wr => ∃ j : Nat, vi = .int .i64 j ∧ vn = .int .i64 (Asm.fold true (D.take j)) ∧ j ≤ k ∧ 0 ≤ Asm.fold true (D.take j) ∧ Asm.fold true (D.take j) ≤ Asm.hugest ∧ wr.heap[w1.heap.size]? = some (.cells #[.int .i64 16] 2 (0, 0)) ∧ wr.heap[w1.heap.size + 1]? = some (.cells #[.func (.func 130) #[] #[.pointer (some ⟨w1.heap.size, 0, none⟩)]] 224 (0, 0)) ∧ Below w1.heap.size w1 wr) (fun _ vi _ => k - (intOf vi).toNat)
        case atStart => exact ⟨0, rfl, rfl, by omega, by simp [Asm.fold], by simp [Asm.fold, Asm.hugest], A1, A2, HB⟩
        case round =>
         obtain ⟨j, rfl, rfl, hj, hf0, hf1, B1, B2, HR⟩ := hrel
         clear A1 A2 HB d1 f1 d2 f2
         obtain ⟨d1, f1⟩ := blk_facts B1
         obtain ⟨d2, f2⟩ := blk_facts B2
         by_cases hjk : j < k
         · have hjD : j < D.length := by omega
           have hpos : 0 ≤ Asm.val true D[j] := by
            have := Asm.span_get (fun c => decide (0 ≤ Asm.val true c)) D j hjD (by omega)
            simpa using this
           have hlt := Asm.val_lt true D[j]
           have hsn : D.take (j + 1) = D.take j ++ [D[j]] := List.take_succ_eq_append_getElem hjD
           have hst : Asm.fold true (D.take (j + 1)) = Asm.step true (Asm.fold true (D.take j)) D[j] := by rw [hsn, Asm.fold_snoc]
           have hidx : ∀ h, (⟨D.toArray⟩ : ByteArray)[j]'h = D[j] := fun h => by simp [ByteArray.getElem_eq_getElem_data]
           have hu0 := Asm.step_nonneg true (Asm.fold true (D.take j)) D[j] hf0 hpos
           have hu1 := Asm.step_le true (Asm.fold true (D.take j)) D[j]
           obtain ⟨n, hn⟩ : ∃ n, Asm.fold true (D.take j) = n := ⟨_, rfl⟩
           obtain ⟨v, hv⟩ : ∃ v, Asm.val true D[j] = v := ⟨_, rfl⟩
           rw [hn] at hf0 hf1 hst hu0 hu1 ⊢
           rw [hv] at hpos hlt
           simp only [Asm.hugest] at hf1
           have hstep : Asm.step true n D[j] = min (n * 16 + v) 1099511627776 := by unfold Asm.step; rw [hv]; rfl
           have c1 : wr.cell? ⟨w1.heap.size, 0, none⟩ = some (.int .i64 16) := d1 0
           have c2 : wr.cell? ⟨w1.heap.size + 1, 0, none⟩ = some (.func (.func 130) #[] #[.pointer (some ⟨w1.heap.size, 0, none⟩)]) := d2 0
           have c1d : wr.drew.cell? ⟨w1.heap.size, 0, none⟩ = some (.int .i64 16) := c1
           have c2d : wr.drew.cell? ⟨w1.heap.size + 1, 0, none⟩ = some (.func (.func 130) #[] #[.pointer (some ⟨w1.heap.size, 0, none⟩)]) := c2
           go_wp2_with fail
           go_region_held3 (fun w' => w'.cell? ⟨w1.heap.size, 0, none⟩ = some (.int .i64 16) ∧ w'.cell? ⟨w1.heap.size + 1, 0, none⟩ = some (.func (.func 130) #[] #[.pointer (some ⟨w1.heap.size, 0, none⟩)]))
            (first | exact ⟨c1, c2⟩ | exact ⟨c1d, c2d⟩ | go_keep)
            ((first | (go_at_call 130; refine (num1_calls true w1.heap.size D[j] _ (by first | exact c1 | exact c1d)).mono ?_; rintro e y1 ⟨rfl, rfl⟩; rw [hv])))
           all_goals go_wp2_with fail
           refine ⟨⟨j + 1, ?_, ?_, by omega, by rw [hst]; exact hu0, by rw [hst]; exact hu1, B1, B2, below_drewN' HR 1⟩, ?_⟩
           · simp
           · rw [hst, hstep, IntWalk.i64_in (n * 16) (by omega), IntWalk.i64_in (n * 16 + v) (by omega)]
           · simp [intOf]; omega
         · have hjk' : j = k := by omega
           subst hjk'
           simp only [Asm.hugest] at hf1
           have habs : Asm.numAbs s = Asm.fold true (D.take j) := by unfold Asm.numAbs; rw [hX, hD, hsz]
           have hlen : (Asm.numLen s : Int) = (s.length : Int) - (D.length : Int) + (j : Int) := by unfold Asm.numLen; rw [hD, hsz]; omega
           cases M with
           | true =>
            go_wp2_with fail
            refine bodyPost_ret (v := .tuple #[.int .i64 ((s.length : Int) - (D.length : Int) + (j : Int)), .int .i64 (- Asm.fold true (D.take j))]) (by simp [results, Tryz.results93, go_sem]) rfl ⟨?_, HR⟩
            simp [Asm.numAns, hno, hlen, Asm.numVal, hM, habs]
           | false =>
            go_wp2_with fail
            refine bodyPost_ret (v := .tuple #[.int .i64 ((s.length : Int) - (D.length : Int) + (j : Int)), .int .i64 (Asm.fold true (D.take j))]) (by simp [results, Tryz.results93, go_sem]) rfl ⟨?_, HR⟩
            simp [Asm.numAns, hno, hlen, Asm.numVal, hM, habs]
    · have hgk : D[k]? = none := List.getElem?_eq_none (by omega)
      have hno : Asm.noNum s = false := by simp [Asm.noNum, hsz, hk0, hX, hD, hgk]
      go_wp2_with fail
      go_loopw [13, 67] (fun vn vi wr => ∃ j : Nat, vi = .int .i64 j ∧ vn = .int .i64 (Asm.fold true (D.take j)) ∧ j ≤ k ∧ 0 ≤ Asm.fold true (D.take j) ∧ Asm.fold true (D.take j) ≤ Asm.hugest ∧ wr.heap[w1.heap.size]? = some (.cells #[.int .i64 16] 2 (0, 0)) ∧ wr.heap[w1.heap.size + 1]? = some (.cells #[.func (.func 130) #[] #[.pointer (some ⟨w1.heap.size, 0, none⟩)]] 224 (0, 0)) ∧ Below w1.heap.size w1 wr) (fun _ vi _ => k - (intOf vi).toNat)
      case atStart => exact ⟨0, rfl, rfl, by omega, by simp [Asm.fold], by simp [Asm.fold, Asm.hugest], A1, A2, HB⟩
      case round =>
       obtain ⟨j, rfl, rfl, hj, hf0, hf1, B1, B2, HR⟩ := hrel
       clear A1 A2 HB d1 f1 d2 f2
       obtain ⟨d1, f1⟩ := blk_facts B1
       obtain ⟨d2, f2⟩ := blk_facts B2
       by_cases hjk : j < k
       · have hjD : j < D.length := by omega
         have hpos : 0 ≤ Asm.val true D[j] := by
          have := Asm.span_get (fun c => decide (0 ≤ Asm.val true c)) D j hjD (by omega)
          simpa using this
         have hlt := Asm.val_lt true D[j]
         have hsn : D.take (j + 1) = D.take j ++ [D[j]] := List.take_succ_eq_append_getElem hjD
         have hst : Asm.fold true (D.take (j + 1)) = Asm.step true (Asm.fold true (D.take j)) D[j] := by rw [hsn, Asm.fold_snoc]
         have hidx : ∀ h, (⟨D.toArray⟩ : ByteArray)[j]'h = D[j] := fun h => by simp [ByteArray.getElem_eq_getElem_data]
         have hu0 := Asm.step_nonneg true (Asm.fold true (D.take j)) D[j] hf0 hpos
         have hu1 := Asm.step_le true (Asm.fold true (D.take j)) D[j]
         obtain ⟨n, hn⟩ : ∃ n, Asm.fold true (D.take j) = n := ⟨_, rfl⟩
         obtain ⟨v, hv⟩ : ∃ v, Asm.val true D[j] = v := ⟨_, rfl⟩
         rw [hn] at hf0 hf1 hst hu0 hu1 ⊢
         rw [hv] at hpos hlt
         simp only [Asm.hugest] at hf1
         have hstep : Asm.step true n D[j] = min (n * 16 + v) 1099511627776 := by unfold Asm.step; rw [hv]; rfl
         have c1 : wr.cell? ⟨w1.heap.size, 0, none⟩ = some (.int .i64 16) := d1 0
         have c2 : wr.cell? ⟨w1.heap.size + 1, 0, none⟩ = some (.func (.func 130) #[] #[.pointer (some ⟨w1.heap.size, 0, none⟩)]) := d2 0
         have c1d : wr.drew.cell? ⟨w1.heap.size, 0, none⟩ = some (.int .i64 16) := c1
         have c2d : wr.drew.cell? ⟨w1.heap.size + 1, 0, none⟩ = some (.func (.func 130) #[] #[.pointer (some ⟨w1.heap.size, 0, none⟩)]) := c2
         go_wp2_with fail
         go_region_held3 (fun w' => w'.cell? ⟨w1.heap.size, 0, none⟩ = some (.int .i64 16) ∧ w'.cell? ⟨w1.heap.size + 1, 0, none⟩ = some (.func (.func 130) #[] #[.pointer (some ⟨w1.heap.size, 0, none⟩)]))
          (first | exact ⟨c1, c2⟩ | exact ⟨c1d, c2d⟩ | go_keep)
          ((first | (go_at_call 130; refine (num1_calls true w1.heap.size D[j] _ (by first | exact c1 | exact c1d)).mono ?_; rintro e y1 ⟨rfl, rfl⟩; rw [hv])))
         all_goals go_wp2_with fail
         refine ⟨⟨j + 1, ?_, ?_, by omega, by rw [hst]; exact hu0, by rw [hst]; exact hu1, B1, B2, below_drewN' HR 1⟩, ?_⟩
         · simp
         · rw [hst, hstep, IntWalk.i64_in (n * 16) (by omega), IntWalk.i64_in (n * 16 + v) (by omega)]
         · simp [intOf]; omega
       · have hjk' : j = k := by omega
         subst hjk'
         simp only [Asm.hugest] at hf1
         have habs : Asm.numAbs s = Asm.fold true (D.take j) := by unfold Asm.numAbs; rw [hX, hD, hsz]
         have hlen : (Asm.numLen s : Int) = (s.length : Int) - (D.length : Int) + (j : Int) := by unfold Asm.numLen; rw [hD, hsz]; omega
         cases M with
         | true =>
          go_wp2_with fail
          refine bodyPost_ret (v := .tuple #[.int .i64 ((s.length : Int) - (D.length : Int) + (j : Int)), .int .i64 (- Asm.fold true (D.take j))]) (by simp [results, Tryz.results93, go_sem]) rfl ⟨?_, HR⟩
          simp [Asm.numAns, hno, hlen, Asm.numVal, hM, habs]
         | false =>
          go_wp2_with fail
          refine bodyPost_ret (v := .tuple #[.int .i64 ((s.length : Int) - (D.length : Int) + (j : Int)), .int .i64 (Asm.fold true (D.take j))]) (by simp [results, Tryz.results93, go_sem]) rfl ⟨?_, HR⟩
          simp [Asm.numAns, hno, hlen, Asm.numVal, hM, habs]
 | false =>
  go_wp2_with fail
  have hBD : B = D := by
   rw [← hD']; unfold Lib.trimPrefix; rw [hX']; rfl
  rw [hBD]
  refine (span_calls (fun w => w.cell? ⟨w1.heap.size, 0, none⟩ = some (.int .i64 (Asm.base false)) ∧ w.cell? ⟨w1.heap.size + 1, 0, none⟩ = some (.func (.func 130) #[] #[.pointer (some ⟨w1.heap.size, 0, none⟩)])) _ _ (fun c => decide (0 ≤ Asm.val false c)) (num2_tells false w1.heap.size (w1.heap.size + 1)) D (by omega) _ ?hI).mono ?_
  case hI => exact ⟨(blk_facts (blk_alloc _ (heap_alloc_new _ _))).1 0, (blk_facts (alloc_size w1 _ ▸ heap_alloc_new _ _)).1 0⟩
  rintro e w2 ⟨rfl, rfl⟩
  have A1 := blk_alloc (.cells #[.func (.func 130) #[] #[.pointer (some ⟨w1.heap.size, 0, none⟩)]] 224) (heap_alloc_new w1 (.cells #[.int .i64 (Asm.base false)] 2))
  have A2 := heap_alloc_new (w1.alloc (.cells #[.int .i64 (Asm.base false)] 2)) (.cells #[.func (.func 130) #[] #[.pointer (some ⟨w1.heap.size, 0, none⟩)]] 224)
  rw [alloc_size] at A2
  have HB : Below w1.heap.size w1 ((w1.alloc (.cells #[.int .i64 (Asm.base false)] 2)).alloc (.cells #[.func (.func 130) #[] #[.pointer (some ⟨w1.heap.size, 0, none⟩)]] 224)) := below_alloc' (below_alloc' (Below.refl _ _) _) _
  simp only [Asm.base, if_true, Bool.false_eq_true, if_false] at A1 A2 HB
  generalize (w1.alloc _).alloc _ = W at A1 A2 HB ⊢
  obtain ⟨d1, f1⟩ := blk_facts A1
  obtain ⟨d2, f2⟩ := blk_facts A2
  obtain ⟨k, hk⟩ : ∃ k, Asm.span (fun c => decide (0 ≤ Asm.val false c)) D = k := ⟨_, rfl⟩
  have hkl : k ≤ D.length := hk ▸ Asm.span_le _ D
  have hsz : Asm.size s = k := by unfold Asm.size; rw [hX, hD]; exact hk
  rw [hk]
  by_cases hk0 : k = 0
  · subst hk0
    have hno : Asm.noNum s = true := by simp [Asm.noNum, hsz]
    go_wp2_with fail
    refine bodyPost_ret (v := .tuple #[.int .i64 0, .int .i64 0]) (by simp [results, Tryz.results93, go_sem]) rfl ⟨?_, HB⟩
    simp [Asm.numAns, hno]
  · have hD0 : 0 < D.length := by omega
    have hkb : ((k : Int) == 0) = false := by simp; omega
    obtain ⟨c0, hg0⟩ : ∃ c0, D[0]? = some c0 := ⟨_, List.getElem?_eq_getElem hD0⟩
    have hi0 : ∀ h, (⟨D.toArray⟩ : ByteArray)[0]'h = c0 := fun h => by
     simp only [ByteArray.getElem_eq_getElem_data, List.getElem_toArray]
     exact Option.some.inj ((List.getElem?_eq_getElem hD0).symm.trans hg0)
    have hi0' : ∀ h, D[0]'h = c0 := fun h => Option.some.inj ((List.getElem?_eq_getElem hD0).symm.trans hg0)
    by_cases hbad : 1 < k ∧ c0 = 48
    · obtain ⟨hk1, rfl⟩ := hbad
      have hno : Asm.noNum s = true := by simp [Asm.noNum, hsz, hX, hD, hg0, hk1]
      go_wp2_with fail
      refine bodyPost_ret (v := .tuple #[.int .i64 0, .int .i64 0]) (by simp [results, Tryz.results93, go_sem]) rfl ⟨?_, HB⟩
      simp [Asm.numAns, hno]
    by_cases h1k : 1 < k
    · have hc48 : ¬ c0 = 48 := fun e => hbad ⟨h1k, e⟩
      have hcn : ¬ (c0.toNat : Int) = 48 := fun e => hc48 (UInt8.toNat_inj.1 (by exact_mod_cast e))
      have hcb : ((c0.toNat : Int) == 48) = false := by simpa using hcn
      by_cases hkD : k < D.length
      · have hidk : ∀ h, (⟨D.toArray⟩ : ByteArray)[k]'h = D[k] := fun h => by simp [ByteArray.getElem_eq_getElem_data]
        have hgk : D[k]? = some D[k] := List.getElem?_eq_getElem hkD
        go_wp2_with fail
        refine (isLetter_calls D[k] _).mono ?_
        rintro e w3 ⟨rfl, rfl⟩
        cases hlt : Asm.letter D[k] with
        | true =>
         have hno : Asm.noNum s = true := by simp [Asm.noNum, hsz, hD, hgk, hlt]
         go_wp2_with fail
         refine bodyPost_ret (v := .tuple #[.int .i64 0, .int .i64 0]) (by simp [results, Tryz.results93, go_sem]) rfl ⟨?_, HB⟩
         simp [Asm.numAns, hno]
        | false =>
         go_wp2_with fail
         refine (isDigit_calls D[k] _).mono ?_
         rintro e w3 ⟨rfl, rfl⟩
         cases hdg : Asm.digit D[k] with
         | true =>
          have hno : Asm.noNum s = true := by simp [Asm.noNum, hsz, hD, hgk, hdg]
          go_wp2_with fail
          refine bodyPost_ret (v := .tuple #[.int .i64 0, .int .i64 0]) (by simp [results, Tryz.results93, go_sem]) rfl ⟨?_, HB⟩
          simp [Asm.numAns, hno]
         | false =>
          have hno : Asm.noNum s = false := by simp [Asm.noNum, hsz, hk0, hX, hD, hgk, hlt, hdg, hg0, hc48]
          go_wp2_with fail
          go_loopw [13, 67] (fun vn vi wr => ∃ j : Nat, vi = .int .i64 j ∧ vn = .int .i64 (Asm.fold false (D.take j)) ∧ j ≤ k ∧ 0 ≤ Asm.fold false (D.take j) ∧ Asm.fold false (D.take j) ≤ Asm.hugest ∧ wr.heap[w1.heap.size]? = some (.cells #[.int .i64 10] 2 (0, 0)) ∧ wr.heap[w1.heap.size + 1]? = some (.cells #[.func (.func 130) #[] #[.pointer (some ⟨w1.heap.size, 0, none⟩)]] 224 (0, 0)) ∧ Below w1.heap.size w1 wr) (fun _ vi _ => k - (intOf vi).toNat)
          case atStart => exact ⟨0, rfl, rfl, by omega, by simp [Asm.fold], by simp [Asm.fold, Asm.hugest], A1, A2, HB⟩
          case round =>
           obtain ⟨j, rfl, rfl, hj, hf0, hf1, B1, B2, HR⟩ := hrel
           clear A1 A2 HB d1 f1 d2 f2
           obtain ⟨d1, f1⟩ := blk_facts B1
           obtain ⟨d2, f2⟩ := blk_facts B2
           by_cases hjk : j < k
           · have hjD : j < D.length := by omega
             have hpos : 0 ≤ Asm.val false D[j] := by
              have := Asm.span_get (fun c => decide (0 ≤ Asm.val false c)) D j hjD (by omega)
              simpa using this
             have hlt := Asm.val_lt false D[j]
             have hsn : D.take (j + 1) = D.take j ++ [D[j]] := List.take_succ_eq_append_getElem hjD
             have hst : Asm.fold false (D.take (j + 1)) = Asm.step false (Asm.fold false (D.take j)) D[j] := by rw [hsn, Asm.fold_snoc]
             have hidx : ∀ h, (⟨D.toArray⟩ : ByteArray)[j]'h = D[j] := fun h => by simp [ByteArray.getElem_eq_getElem_data]
             have hu0 := Asm.step_nonneg false (Asm.fold false (D.take j)) D[j] hf0 hpos
             have hu1 := Asm.step_le false (Asm.fold false (D.take j)) D[j]
             obtain ⟨n, hn⟩ : ∃ n, Asm.fold false (D.take j) = n := ⟨_, rfl⟩
             obtain ⟨v, hv⟩ : ∃ v, Asm.val false D[j] = v := ⟨_, rfl⟩
             rw [hn] at hf0 hf1 hst hu0 hu1 ⊢
             rw [hv] at hpos hlt
             simp only [Asm.hugest] at hf1
             have hstep : Asm.step false n D[j] = min (n * 10 + v) 1099511627776 := by unfold Asm.step; rw [hv]; rfl
             have c1 : wr.cell? ⟨w1.heap.size, 0, none⟩ = some (.int .i64 10) := d1 0
             have c2 : wr.cell? ⟨w1.heap.size + 1, 0, none⟩ = some (.func (.func 130) #[] #[.pointer (some ⟨w1.heap.size, 0, none⟩)]) := d2 0
             have c1d : wr.drew.cell? ⟨w1.heap.size, 0, none⟩ = some (.int .i64 10) := c1
             have c2d : wr.drew.cell? ⟨w1.heap.size + 1, 0, none⟩ = some (.func (.func 130) #[] #[.pointer (some ⟨w1.heap.size, 0, none⟩)]) := c2
             go_wp2_with fail
             go_region_held3 (fun w' => w'.cell? ⟨w1.heap.size, 0, none⟩ = some (.int .i64 10) ∧ w'.cell? ⟨w1.heap.size + 1, 0, none⟩ = some (.func (.func 130) #[] #[.pointer (some ⟨w1.heap.size, 0, none⟩)]))
              (first | exact ⟨c1, c2⟩ | exact ⟨c1d, c2d⟩ | go_keep)
              ((first | (go_at_call 130; refine (num1_calls false w1.heap.size D[j] _ (by first | exact c1 | exact c1d)).mono ?_; rintro e y1 ⟨rfl, rfl⟩; rw [hv])))
             all_goals go_wp2_with fail
             refine ⟨⟨j + 1, ?_, ?_, by omega, by rw [hst]; exact hu0, by rw [hst]; exact hu1, B1, B2, below_drewN' HR 1⟩, ?_⟩
             · simp
             · rw [hst, hstep, IntWalk.i64_in (n * 10) (by omega), IntWalk.i64_in (n * 10 + v) (by omega)]
             · simp [intOf]; omega
           · have hjk' : j = k := by omega
             subst hjk'
             simp only [Asm.hugest] at hf1
             have habs : Asm.numAbs s = Asm.fold false (D.take j) := by unfold Asm.numAbs; rw [hX, hD, hsz]
             have hlen : (Asm.numLen s : Int) = (s.length : Int) - (D.length : Int) + (j : Int) := by unfold Asm.numLen; rw [hD, hsz]; omega
             cases M with
             | true =>
              go_wp2_with fail
              refine bodyPost_ret (v := .tuple #[.int .i64 ((s.length : Int) - (D.length : Int) + (j : Int)), .int .i64 (- Asm.fold false (D.take j))]) (by simp [results, Tryz.results93, go_sem]) rfl ⟨?_, HR⟩
              simp [Asm.numAns, hno, hlen, Asm.numVal, hM, habs]
             | false =>
              go_wp2_with fail
              refine bodyPost_ret (v := .tuple #[.int .i64 ((s.length : Int) - (D.length : Int) + (j : Int)), .int .i64 (Asm.fold false (D.take j))]) (by simp [results, Tryz.results93, go_sem]) rfl ⟨?_, HR⟩
              simp [Asm.numAns, hno, hlen, Asm.numVal, hM, habs]
      · have hgk : D[k]? = none := List.getElem?_eq_none (by omega)
        have hno : Asm.noNum s = false := by simp [Asm.noNum, hsz, hk0, hX, hD, hgk, hg0, hc48]
        go_wp2_with fail
        go_loopw [13, 67] (fun vn vi wr => ∃ j : Nat, vi = .int .i64 j ∧ vn = .int .i64 (Asm.fold false (D.take j)) ∧ j ≤ k ∧ 0 ≤ Asm.fold false (D.take j) ∧ Asm.fold false (D.take j) ≤ Asm.hugest ∧ wr.heap[w1.heap.size]? = some (.cells #[.int .i64 10] 2 (0, 0)) ∧ wr.heap[w1.heap.size + 1]? = some (.cells #[.func (.func 130) #[] #[.pointer (some ⟨w1.heap.size, 0, none⟩)]] 224 (0, 0)) ∧ Below w1.heap.size w1 wr) (fun _ vi _ => k - (intOf vi).toNat)
        case atStart => exact ⟨0, rfl, rfl, by omega, by simp [Asm.fold], by simp [Asm.fold, Asm.hugest], A1, A2, HB⟩
        case round =>
         obtain ⟨j, rfl, rfl, hj, hf0, hf1, B1, B2, HR⟩ := hrel
         clear A1 A2 HB d1 f1 d2 f2
         obtain ⟨d1, f1⟩ := blk_facts B1
         obtain ⟨d2, f2⟩ := blk_facts B2
         by_cases hjk : j < k
         · have hjD : j < D.length := by omega
           have hpos : 0 ≤ Asm.val false D[j] := by
            have := Asm.span_get (fun c => decide (0 ≤ Asm.val false c)) D j hjD (by omega)
            simpa using this
           have hlt := Asm.val_lt false D[j]
           have hsn : D.take (j + 1) = D.take j ++ [D[j]] := List.take_succ_eq_append_getElem hjD
           have hst : Asm.fold false (D.take (j + 1)) = Asm.step false (Asm.fold false (D.take j)) D[j] := by rw [hsn, Asm.fold_snoc]
           have hidx : ∀ h, (⟨D.toArray⟩ : ByteArray)[j]'h = D[j] := fun h => by simp [ByteArray.getElem_eq_getElem_data]
           have hu0 := Asm.step_nonneg false (Asm.fold false (D.take j)) D[j] hf0 hpos
           have hu1 := Asm.step_le false (Asm.fold false (D.take j)) D[j]
           obtain ⟨n, hn⟩ : ∃ n, Asm.fold false (D.take j) = n := ⟨_, rfl⟩
           obtain ⟨v, hv⟩ : ∃ v, Asm.val false D[j] = v := ⟨_, rfl⟩
           rw [hn] at hf0 hf1 hst hu0 hu1 ⊢
           rw [hv] at hpos hlt
           simp only [Asm.hugest] at hf1
           have hstep : Asm.step false n D[j] = min (n * 10 + v) 1099511627776 := by unfold Asm.step; rw [hv]; rfl
           have c1 : wr.cell? ⟨w1.heap.size, 0, none⟩ = some (.int .i64 10) := d1 0
           have c2 : wr.cell? ⟨w1.heap.size + 1, 0, none⟩ = some (.func (.func 130) #[] #[.pointer (some ⟨w1.heap.size, 0, none⟩)]) := d2 0
           have c1d : wr.drew.cell? ⟨w1.heap.size, 0, none⟩ = some (.int .i64 10) := c1
           have c2d : wr.drew.cell? ⟨w1.heap.size + 1, 0, none⟩ = some (.func (.func 130) #[] #[.pointer (some ⟨w1.heap.size, 0, none⟩)]) := c2
           go_wp2_with fail
           go_region_held3 (fun w' => w'.cell? ⟨w1.heap.size, 0, none⟩ = some (.int .i64 10) ∧ w'.cell? ⟨w1.heap.size + 1, 0, none⟩ = some (.func (.func 130) #[] #[.pointer (some ⟨w1.heap.size, 0, none⟩)]))
            (first | exact ⟨c1, c2⟩ | exact ⟨c1d, c2d⟩ | go_keep)
            ((first | (go_at_call 130; refine (num1_calls false w1.heap.size D[j] _ (by first | exact c1 | exact c1d)).mono ?_; rintro e y1 ⟨rfl, rfl⟩; rw [hv])))
           all_goals go_wp2_with fail
           refine ⟨⟨j + 1, ?_, ?_, by omega, by rw [hst]; exact hu0, by rw [hst]; exact hu1, B1, B2, below_drewN' HR 1⟩, ?_⟩
           · simp
           · rw [hst, hstep, IntWalk.i64_in (n * 10) (by omega), IntWalk.i64_in (n * 10 + v) (by omega)]
           · simp [intOf]; omega
         · have hjk' : j = k := by omega
           subst hjk'
           simp only [Asm.hugest] at hf1
           have habs : Asm.numAbs s = Asm.fold false (D.take j) := by unfold Asm.numAbs; rw [hX, hD, hsz]
           have hlen : (Asm.numLen s : Int) = (s.length : Int) - (D.length : Int) + (j : Int) := by unfold Asm.numLen; rw [hD, hsz]; omega
           cases M with
           | true =>
            go_wp2_with fail
            refine bodyPost_ret (v := .tuple #[.int .i64 ((s.length : Int) - (D.length : Int) + (j : Int)), .int .i64 (- Asm.fold false (D.take j))]) (by simp [results, Tryz.results93, go_sem]) rfl ⟨?_, HR⟩
            simp [Asm.numAns, hno, hlen, Asm.numVal, hM, habs]
           | false =>
            go_wp2_with fail
            refine bodyPost_ret (v := .tuple #[.int .i64 ((s.length : Int) - (D.length : Int) + (j : Int)), .int .i64 (Asm.fold false (D.take j))]) (by simp [results, Tryz.results93, go_sem]) rfl ⟨?_, HR⟩
            simp [Asm.numAns, hno, hlen, Asm.numVal, hM, habs]
    · have hk1 : k ≤ 1 := by omega
      by_cases hkD : k < D.length
      · have hidk : ∀ h, (⟨D.toArray⟩ : ByteArray)[k]'h = D[k] := fun h => by simp [ByteArray.getElem_eq_getElem_data]
        have hgk : D[k]? = some D[k] := List.getElem?_eq_getElem hkD
        go_wp2_with fail
        refine (isLetter_calls D[k] _).mono ?_
        rintro e w3 ⟨rfl, rfl⟩
        cases hlt : Asm.letter D[k] with
        | true =>
         have hno : Asm.noNum s = true := by simp [Asm.noNum, hsz, hD, hgk, hlt]
         go_wp2_with fail
         refine bodyPost_ret (v := .tuple #[.int .i64 0, .int .i64 0]) (by simp [results, Tryz.results93, go_sem]) rfl ⟨?_, HB⟩
         simp [Asm.numAns, hno]
        | false =>
         go_wp2_with fail
         refine (isDigit_calls D[k] _).mono ?_
         rintro e w3 ⟨rfl, rfl⟩
         cases hdg : Asm.digit D[k] with
         | true =>
          have hno : Asm.noNum s = true := by simp [Asm.noNum, hsz, hD, hgk, hdg]
          go_wp2_with fail
          refine bodyPost_ret (v := .tuple #[.int .i64 0, .int .i64 0]) (by simp [results, Tryz.results93, go_sem]) rfl ⟨?_, HB⟩
          simp [Asm.numAns, hno]
         | false =>
          have hno : Asm.noNum s = false := by simp [Asm.noNum, hsz, hk0, hX, hD, hgk, hlt, hdg, hg0, h1k]
          go_wp2_with fail
          go_loopw [13, 67] (fun vn vi wr => ∃ j : Nat, vi = .int .i64 j ∧ vn = .int .i64 (Asm.fold false (D.take j)) ∧ j ≤ k ∧ 0 ≤ Asm.fold false (D.take j) ∧ Asm.fold false (D.take j) ≤ Asm.hugest ∧ wr.heap[w1.heap.size]? = some (.cells #[.int .i64 10] 2 (0, 0)) ∧ wr.heap[w1.heap.size + 1]? = some (.cells #[.func (.func 130) #[] #[.pointer (some ⟨w1.heap.size, 0, none⟩)]] 224 (0, 0)) ∧ Below w1.heap.size w1 wr) (fun _ vi _ => k - (intOf vi).toNat)
          case atStart => exact ⟨0, rfl, rfl, by omega, by simp [Asm.fold], by simp [Asm.fold, Asm.hugest], A1, A2, HB⟩
          case round =>
           obtain ⟨j, rfl, rfl, hj, hf0, hf1, B1, B2, HR⟩ := hrel
           clear A1 A2 HB d1 f1 d2 f2
           obtain ⟨d1, f1⟩ := blk_facts B1
           obtain ⟨d2, f2⟩ := blk_facts B2
           by_cases hjk : j < k
           · have hjD : j < D.length := by omega
             have hpos : 0 ≤ Asm.val false D[j] := by
              have := Asm.span_get (fun c => decide (0 ≤ Asm.val false c)) D j hjD (by omega)
              simpa using this
             have hlt := Asm.val_lt false D[j]
             have hsn : D.take (j + 1) = D.take j ++ [D[j]] := List.take_succ_eq_append_getElem hjD
             have hst : Asm.fold false (D.take (j + 1)) = Asm.step false (Asm.fold false (D.take j)) D[j] := by rw [hsn, Asm.fold_snoc]
             have hidx : ∀ h, (⟨D.toArray⟩ : ByteArray)[j]'h = D[j] := fun h => by simp [ByteArray.getElem_eq_getElem_data]
             have hu0 := Asm.step_nonneg false (Asm.fold false (D.take j)) D[j] hf0 hpos
             have hu1 := Asm.step_le false (Asm.fold false (D.take j)) D[j]
             obtain ⟨n, hn⟩ : ∃ n, Asm.fold false (D.take j) = n := ⟨_, rfl⟩
             obtain ⟨v, hv⟩ : ∃ v, Asm.val false D[j] = v := ⟨_, rfl⟩
             rw [hn] at hf0 hf1 hst hu0 hu1 ⊢
             rw [hv] at hpos hlt
             simp only [Asm.hugest] at hf1
             have hstep : Asm.step false n D[j] = min (n * 10 + v) 1099511627776 := by unfold Asm.step; rw [hv]; rfl
             have c1 : wr.cell? ⟨w1.heap.size, 0, none⟩ = some (.int .i64 10) := d1 0
             have c2 : wr.cell? ⟨w1.heap.size + 1, 0, none⟩ = some (.func (.func 130) #[] #[.pointer (some ⟨w1.heap.size, 0, none⟩)]) := d2 0
             have c1d : wr.drew.cell? ⟨w1.heap.size, 0, none⟩ = some (.int .i64 10) := c1
             have c2d : wr.drew.cell? ⟨w1.heap.size + 1, 0, none⟩ = some (.func (.func 130) #[] #[.pointer (some ⟨w1.heap.size, 0, none⟩)]) := c2
             go_wp2_with fail
             go_region_held3 (fun w' => w'.cell? ⟨w1.heap.size, 0, none⟩ = some (.int .i64 10) ∧ w'.cell? ⟨w1.heap.size + 1, 0, none⟩ = some (.func (.func 130) #[] #[.pointer (some ⟨w1.heap.size, 0, none⟩)]))
              (first | exact ⟨c1, c2⟩ | exact ⟨c1d, c2d⟩ | go_keep)
              ((first | (go_at_call 130; refine (num1_calls false w1.heap.size D[j] _ (by first | exact c1 | exact c1d)).mono ?_; rintro e y1 ⟨rfl, rfl⟩; rw [hv])))
             all_goals go_wp2_with fail
             refine ⟨⟨j + 1, ?_, ?_, by omega, by rw [hst]; exact hu0, by rw [hst]; exact hu1, B1, B2, below_drewN' HR 1⟩, ?_⟩
             · simp
             · rw [hst, hstep, IntWalk.i64_in (n * 10) (by omega), IntWalk.i64_in (n * 10 + v) (by omega)]
             · simp [intOf]; omega
           · have hjk' : j = k := by omega
             subst hjk'
             simp only [Asm.hugest] at hf1
             have habs : Asm.numAbs s = Asm.fold false (D.take j) := by unfold Asm.numAbs; rw [hX, hD, hsz]
             have hlen : (Asm.numLen s : Int) = (s.length : Int) - (D.length : Int) + (j : Int) := by unfold Asm.numLen; rw [hD, hsz]; omega
             cases M with
             | true =>
              go_wp2_with fail
              refine bodyPost_ret (v := .tuple #[.int .i64 ((s.length : Int) - (D.length : Int) + (j : Int)), .int .i64 (- Asm.fold false (D.take j))]) (by simp [results, Tryz.results93, go_sem]) rfl ⟨?_, HR⟩
              simp [Asm.numAns, hno, hlen, Asm.numVal, hM, habs]
             | false =>
              go_wp2_with fail
              refine bodyPost_ret (v := .tuple #[.int .i64 ((s.length : Int) - (D.length : Int) + (j : Int)), .int .i64 (Asm.fold false (D.take j))]) (by simp [results, Tryz.results93, go_sem]) rfl ⟨?_, HR⟩
              simp [Asm.numAns, hno, hlen, Asm.numVal, hM, habs]
      · have hgk : D[k]? = none := List.getElem?_eq_none (by omega)
        have hno : Asm.noNum s = false := by simp [Asm.noNum, hsz, hk0, hX, hD, hgk, hg0, h1k]
        go_wp2_with fail
        go_loopw [13, 67] (fun vn vi wr => ∃ j : Nat, vi = .int .i64 j ∧ vn = .int .i64 (Asm.fold false (D.take j)) ∧ j ≤ k ∧ 0 ≤ Asm.fold false (D.take j) ∧ Asm.fold false (D.take j) ≤ Asm.hugest ∧ wr.heap[w1.heap.size]? = some (.cells #[.int .i64 10] 2 (0, 0)) ∧ wr.heap[w1.heap.size + 1]? = some (.cells #[.func (.func 130) #[] #[.pointer (some ⟨w1.heap.size, 0, none⟩)]] 224 (0, 0)) ∧ Below w1.heap.size w1 wr) (fun _ vi _ => k - (intOf vi).toNat)
        case atStart => exact ⟨0, rfl, rfl, by omega, by simp [Asm.fold], by simp [Asm.fold, Asm.hugest], A1, A2, HB⟩
        case round =>
         obtain ⟨j, rfl, rfl, hj, hf0, hf1, B1, B2, HR⟩ := hrel
         clear A1 A2 HB d1 f1 d2 f2
         obtain ⟨d1, f1⟩ := blk_facts B1
         obtain ⟨d2, f2⟩ := blk_facts B2
         by_cases hjk : j < k
         · have hjD : j < D.length := by omega
           have hpos : 0 ≤ Asm.val false D[j] := by
            have := Asm.span_get (fun c => decide (0 ≤ Asm.val false c)) D j hjD (by omega)
            simpa using this
           have hlt := Asm.val_lt false D[j]
           have hsn : D.take (j + 1) = D.take j ++ [D[j]] := List.take_succ_eq_append_getElem hjD
           have hst : Asm.fold false (D.take (j + 1)) = Asm.step false (Asm.fold false (D.take j)) D[j] := by rw [hsn, Asm.fold_snoc]
           have hidx : ∀ h, (⟨D.toArray⟩ : ByteArray)[j]'h = D[j] := fun h => by simp [ByteArray.getElem_eq_getElem_data]
           have hu0 := Asm.step_nonneg false (Asm.fold false (D.take j)) D[j] hf0 hpos
           have hu1 := Asm.step_le false (Asm.fold false (D.take j)) D[j]
           obtain ⟨n, hn⟩ : ∃ n, Asm.fold false (D.take j) = n := ⟨_, rfl⟩
           obtain ⟨v, hv⟩ : ∃ v, Asm.val false D[j] = v := ⟨_, rfl⟩
           rw [hn] at hf0 hf1 hst hu0 hu1 ⊢
           rw [hv] at hpos hlt
           simp only [Asm.hugest] at hf1
           have hstep : Asm.step false n D[j] = min (n * 10 + v) 1099511627776 := by unfold Asm.step; rw [hv]; rfl
           have c1 : wr.cell? ⟨w1.heap.size, 0, none⟩ = some (.int .i64 10) := d1 0
           have c2 : wr.cell? ⟨w1.heap.size + 1, 0, none⟩ = some (.func (.func 130) #[] #[.pointer (some ⟨w1.heap.size, 0, none⟩)]) := d2 0
           have c1d : wr.drew.cell? ⟨w1.heap.size, 0, none⟩ = some (.int .i64 10) := c1
           have c2d : wr.drew.cell? ⟨w1.heap.size + 1, 0, none⟩ = some (.func (.func 130) #[] #[.pointer (some ⟨w1.heap.size, 0, none⟩)]) := c2
           go_wp2_with fail
           go_region_held3 (fun w' => w'.cell? ⟨w1.heap.size, 0, none⟩ = some (.int .i64 10) ∧ w'.cell? ⟨w1.heap.size + 1, 0, none⟩ = some (.func (.func 130) #[] #[.pointer (some ⟨w1.heap.size, 0, none⟩)]))
            (first | exact ⟨c1, c2⟩ | exact ⟨c1d, c2d⟩ | go_keep)
            ((first | (go_at_call 130; refine (num1_calls false w1.heap.size D[j] _ (by first | exact c1 | exact c1d)).mono ?_; rintro e y1 ⟨rfl, rfl⟩; rw [hv])))
           all_goals go_wp2_with fail
           refine ⟨⟨j + 1, ?_, ?_, by omega, by rw [hst]; exact hu0, by rw [hst]; exact hu1, B1, B2, below_drewN' HR 1⟩, ?_⟩
           · simp
           · rw [hst, hstep, IntWalk.i64_in (n * 10) (by omega), IntWalk.i64_in (n * 10 + v) (by omega)]
           · simp [intOf]; omega
         · have hjk' : j = k := by omega
           subst hjk'
           simp only [Asm.hugest] at hf1
           have habs : Asm.numAbs s = Asm.fold false (D.take j) := by unfold Asm.numAbs; rw [hX, hD, hsz]
           have hlen : (Asm.numLen s : Int) = (s.length : Int) - (D.length : Int) + (j : Int) := by unfold Asm.numLen; rw [hD, hsz]; omega
           cases M with
           | true =>
            go_wp2_with fail
            refine bodyPost_ret (v := .tuple #[.int .i64 ((s.length : Int) - (D.length : Int) + (j : Int)), .int .i64 (- Asm.fold false (D.take j))]) (by simp [results, Tryz.results93, go_sem]) rfl ⟨?_, HR⟩
            simp [Asm.numAns, hno, hlen, Asm.numVal, hM, habs]
           | false =>
            go_wp2_with fail
            refine bodyPost_ret (v := .tuple #[.int .i64 ((s.length : Int) - (D.length : Int) + (j : Int)), .int .i64 (Asm.fold false (D.take j))]) (by simp [results, Tryz.results93, go_sem]) rfl ⟨?_, HR⟩
            simp [Asm.numAns, hno, hlen, Asm.numVal, hM, habs]
end Go.Proofs.YtabmlbnnhhpaoaaGreatDoor
