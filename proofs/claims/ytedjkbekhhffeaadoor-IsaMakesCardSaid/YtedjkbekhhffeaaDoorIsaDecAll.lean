/- isa.Decode's contract, at every word. -/
import Derived.Test.YtedjkbekhhffeaaDoorIsaDecA
import Derived.Test.YtedjkbekhhffeaaDoorIsaDecB
import Derived.Test.YtedjkbekhhffeaaDoorIsaBase
namespace Go.Proofs.YtedjkbekhhffeaaDoor
open Go.RowKit
set_option linter.unusedSimpArgs false
set_option linter.unusedVariables false
set_option maxHeartbeats 4000000 in
set_option maxRecDepth 100000 in
theorem dec_none (x : Int) (hx0 : 0 ≤ x) (hx1 : x ≤ 4294967295) (h : x / 67108864 < 1 ∨ 49 ≤ x / 67108864) (w : World) (hL : Isa.Laid w) :
    Calls Tryd.prog 10 #[.int .u32 x] w (Isa.DecPost (0, 0, 0, 0, 0, 100) w) := by
  obtain ⟨op, hop⟩ : ∃ op, x / 67108864 = op := ⟨_, rfl⟩
  rw [hop] at h
  have hO := Lib.hid h
  clear h
  have hb0 : 0 ≤ op := by omega
  have hb1 : op ≤ 63 := by omega
  go_enter Tryd.func10, Tryd.ntmps10
  go_wp2_with fail
  refine (of_none op hO.out _).mono ?_
  rintro e w1 ⟨rfl, hb1⟩
  have k0 := blk_keep hb1 (blk_alloc _ (heap_alloc_new _ _))
  obtain ⟨d0, f0⟩ := blk_facts k0
  have z1 := blk_size k0
  have z1k : ∀ k, w.heap.size < w1.heap.size + k := fun k => by omega
  have HB1 := Lib.hid (below_next (below_alloc' (below_alloc' (Below.refl _ _) _) _) hb1)
  go_wp2_with fail
  refine bodyPost_ret (v := .tuple #[.agg #[.int .i64 0, .int .u8 0, .int .u8 0, .int .u8 0, .int .i32 0], .int .i64 100]) (by simp [results, Tryd.results10, go_sem, d0, z1]) rfl ⟨rfl, ?_⟩
  repeat (first | (with_reducible exact HB1.out) | refine Below.setCell ?_ (by first | exact Nat.le_refl _ | exact Nat.le_succ _) _ | refine Below.drew ?_ | refine below_drewN' ?_ _ | refine below_alloc' ?_ _)
def Isa.high (at_ y : Int) : Int := if 0 ≤ at_ then y / 2 ^ at_.toNat else 0
def Isa.rest (at_ y : Int) : Int := if 0 ≤ at_ then y % 2 ^ at_.toNat else y
def Isa.decF (f nu : Nat) (n y : Int) : Int × Int × Int × Int × Int × Int :=
  Isa.decOut n f nu (Isa.high (Isa.atD f) y) (Isa.high (Isa.atA f) (Isa.rest (Isa.atD f) y)) (Isa.high (Isa.atB f) (Isa.rest (Isa.atA f) (Isa.rest (Isa.atD f) y))) (Isa.rest (Isa.atB f) (Isa.rest (Isa.atA f) (Isa.rest (Isa.atD f) y)))
/-- Decode's answer at every word. -/
def Isa.dec (x : Int) : Int × Int × Int × Int × Int × Int :=
  if x / 67108864 < 1 ∨ 49 ≤ x / 67108864 then (0, 0, 0, 0, 0, 100) else Isa.decF (Isa.formOf (x / 67108864).toNat) (Isa.numOf (x / 67108864).toNat) (x / 67108864) (x % 67108864)
theorem dec_form1_0 (n : Nat) (h1 : 1 ≤ n) (h2 : n < 49) (hf : Isa.formOf n = 1) (hn : Isa.numOf n = 0) (x : Int) (hx0 : 0 ≤ x) (hx1 : x ≤ 4294967295) (hx : x / 67108864 = (n : Int)) (w : World) (hL : Isa.Laid w) :
    Calls Tryd.prog 10 #[.int .u32 x] w (Isa.DecPost (Isa.decF 1 0 (n : Int) (x % 67108864)) w) := by
  have hf' : (Isa.formOf n : Int) = 1 := by rw [hf]; rfl
  have hn' : (Isa.numOf n : Int) = 0 := by rw [hn]; rfl
  have hy : bits BinOp.and IntKind.u32 x 67108863 = x % 67108864 := u32_mask 26 (by decide) x hx0 (by omega)
  have hDa : bits BinOp.and IntKind.u32 ((x % 67108864) / 4194304) 15 = (x % 67108864) / 4194304 := by
    rw [show (15 : Int) = 2 ^ 4 - 1 from rfl, u32_mask 4 (by decide) _ (by omega) (by omega)]
    omega
  have hs1 : bits BinOp.andNot IntKind.u32 (x % 67108864) 62914560 = (x % 67108864) % 4194304 := u32_strike 22 (by decide) (x % 67108864) 62914560 (by omega) (by omega) (by decide) (by decide) (by decide)
  have hAa : bits BinOp.and IntKind.u32 (((x % 67108864) % 4194304) / 262144) 15 = ((x % 67108864) % 4194304) / 262144 := by
    rw [show (15 : Int) = 2 ^ 4 - 1 from rfl, u32_mask 4 (by decide) _ (by omega) (by omega)]
    omega
  have hs2 : bits BinOp.andNot IntKind.u32 ((x % 67108864) % 4194304) 3932160 = ((x % 67108864) % 4194304) % 262144 := u32_strike 18 (by decide) ((x % 67108864) % 4194304) 3932160 (by omega) (by omega) (by decide) (by decide) (by decide)
  have hBa : bits BinOp.and IntKind.u32 ((((x % 67108864) % 4194304) % 262144) / 16384) 15 = (((x % 67108864) % 4194304) % 262144) / 16384 := by
    rw [show (15 : Int) = 2 ^ 4 - 1 from rfl, u32_mask 4 (by decide) _ (by omega) (by omega)]
    omega
  have hs3 : bits BinOp.andNot IntKind.u32 (((x % 67108864) % 4194304) % 262144) 245760 = (((x % 67108864) % 4194304) % 262144) % 16384 := u32_strike 14 (by decide) (((x % 67108864) % 4194304) % 262144) 245760 (by omega) (by omega) (by decide) (by decide) (by decide)
  have e : Isa.decF 1 0 (n : Int) (x % 67108864) = Isa.decOut (n : Int) 1 0 ((x % 67108864) / 4194304) (((x % 67108864) % 4194304) / 262144) ((((x % 67108864) % 4194304) % 262144) / 16384) ((((x % 67108864) % 4194304) % 262144) % 16384) := by
    simp [Isa.decF, Isa.high, Isa.rest, Isa.atD, Isa.atA, Isa.atB, Isa.layD, Isa.layA, Isa.layB]
  rw [e]
  exact dec_1_0 n h1 h2 hf' hn' x hx0 hx1 hx (x % 67108864) hy (by omega) (by omega) ((x % 67108864) / 4194304) rfl (by omega) (by omega) hDa ((x % 67108864) % 4194304) hs1 (by omega) (by omega) (((x % 67108864) % 4194304) / 262144) rfl (by omega) (by omega) hAa (((x % 67108864) % 4194304) % 262144) hs2 (by omega) (by omega) ((((x % 67108864) % 4194304) % 262144) / 16384) rfl (by omega) (by omega) hBa ((((x % 67108864) % 4194304) % 262144) % 16384) hs3 (by omega) (by omega) w hL
theorem dec_form2_1 (n : Nat) (h1 : 1 ≤ n) (h2 : n < 49) (hf : Isa.formOf n = 2) (hn : Isa.numOf n = 1) (x : Int) (hx0 : 0 ≤ x) (hx1 : x ≤ 4294967295) (hx : x / 67108864 = (n : Int)) (w : World) (hL : Isa.Laid w) :
    Calls Tryd.prog 10 #[.int .u32 x] w (Isa.DecPost (Isa.decF 2 1 (n : Int) (x % 67108864)) w) := by
  have hf' : (Isa.formOf n : Int) = 2 := by rw [hf]; rfl
  have hn' : (Isa.numOf n : Int) = 1 := by rw [hn]; rfl
  have hy : bits BinOp.and IntKind.u32 x 67108863 = x % 67108864 := u32_mask 26 (by decide) x hx0 (by omega)
  have hDa : bits BinOp.and IntKind.u32 ((x % 67108864) / 4194304) 15 = (x % 67108864) / 4194304 := by
    rw [show (15 : Int) = 2 ^ 4 - 1 from rfl, u32_mask 4 (by decide) _ (by omega) (by omega)]
    omega
  have hs1 : bits BinOp.andNot IntKind.u32 (x % 67108864) 62914560 = (x % 67108864) % 4194304 := u32_strike 22 (by decide) (x % 67108864) 62914560 (by omega) (by omega) (by decide) (by decide) (by decide)
  have hAa : bits BinOp.and IntKind.u32 (((x % 67108864) % 4194304) / 262144) 15 = ((x % 67108864) % 4194304) / 262144 := by
    rw [show (15 : Int) = 2 ^ 4 - 1 from rfl, u32_mask 4 (by decide) _ (by omega) (by omega)]
    omega
  have hs2 : bits BinOp.andNot IntKind.u32 ((x % 67108864) % 4194304) 3932160 = ((x % 67108864) % 4194304) % 262144 := u32_strike 18 (by decide) ((x % 67108864) % 4194304) 3932160 (by omega) (by omega) (by decide) (by decide) (by decide)
  have e : Isa.decF 2 1 (n : Int) (x % 67108864) = Isa.decOut (n : Int) 2 1 ((x % 67108864) / 4194304) (((x % 67108864) % 4194304) / 262144) 0 (((x % 67108864) % 4194304) % 262144) := by
    simp [Isa.decF, Isa.high, Isa.rest, Isa.atD, Isa.atA, Isa.atB, Isa.layD, Isa.layA, Isa.layB]
  rw [e]
  exact dec_2_1 n h1 h2 hf' hn' x hx0 hx1 hx (x % 67108864) hy (by omega) (by omega) ((x % 67108864) / 4194304) rfl (by omega) (by omega) hDa ((x % 67108864) % 4194304) hs1 (by omega) (by omega) (((x % 67108864) % 4194304) / 262144) rfl (by omega) (by omega) hAa (((x % 67108864) % 4194304) % 262144) hs2 (by omega) (by omega) w hL
theorem dec_form2_2 (n : Nat) (h1 : 1 ≤ n) (h2 : n < 49) (hf : Isa.formOf n = 2) (hn : Isa.numOf n = 2) (x : Int) (hx0 : 0 ≤ x) (hx1 : x ≤ 4294967295) (hx : x / 67108864 = (n : Int)) (w : World) (hL : Isa.Laid w) :
    Calls Tryd.prog 10 #[.int .u32 x] w (Isa.DecPost (Isa.decF 2 2 (n : Int) (x % 67108864)) w) := by
  have hf' : (Isa.formOf n : Int) = 2 := by rw [hf]; rfl
  have hn' : (Isa.numOf n : Int) = 2 := by rw [hn]; rfl
  have hy : bits BinOp.and IntKind.u32 x 67108863 = x % 67108864 := u32_mask 26 (by decide) x hx0 (by omega)
  have hDa : bits BinOp.and IntKind.u32 ((x % 67108864) / 4194304) 15 = (x % 67108864) / 4194304 := by
    rw [show (15 : Int) = 2 ^ 4 - 1 from rfl, u32_mask 4 (by decide) _ (by omega) (by omega)]
    omega
  have hs1 : bits BinOp.andNot IntKind.u32 (x % 67108864) 62914560 = (x % 67108864) % 4194304 := u32_strike 22 (by decide) (x % 67108864) 62914560 (by omega) (by omega) (by decide) (by decide) (by decide)
  have hAa : bits BinOp.and IntKind.u32 (((x % 67108864) % 4194304) / 262144) 15 = ((x % 67108864) % 4194304) / 262144 := by
    rw [show (15 : Int) = 2 ^ 4 - 1 from rfl, u32_mask 4 (by decide) _ (by omega) (by omega)]
    omega
  have hs2 : bits BinOp.andNot IntKind.u32 ((x % 67108864) % 4194304) 3932160 = ((x % 67108864) % 4194304) % 262144 := u32_strike 18 (by decide) ((x % 67108864) % 4194304) 3932160 (by omega) (by omega) (by decide) (by decide) (by decide)
  have e : Isa.decF 2 2 (n : Int) (x % 67108864) = Isa.decOut (n : Int) 2 2 ((x % 67108864) / 4194304) (((x % 67108864) % 4194304) / 262144) 0 (((x % 67108864) % 4194304) % 262144) := by
    simp [Isa.decF, Isa.high, Isa.rest, Isa.atD, Isa.atA, Isa.atB, Isa.layD, Isa.layA, Isa.layB]
  rw [e]
  exact dec_2_2 n h1 h2 hf' hn' x hx0 hx1 hx (x % 67108864) hy (by omega) (by omega) ((x % 67108864) / 4194304) rfl (by omega) (by omega) hDa ((x % 67108864) % 4194304) hs1 (by omega) (by omega) (((x % 67108864) % 4194304) / 262144) rfl (by omega) (by omega) hAa (((x % 67108864) % 4194304) % 262144) hs2 (by omega) (by omega) w hL
theorem dec_form2_3 (n : Nat) (h1 : 1 ≤ n) (h2 : n < 49) (hf : Isa.formOf n = 2) (hn : Isa.numOf n = 3) (x : Int) (hx0 : 0 ≤ x) (hx1 : x ≤ 4294967295) (hx : x / 67108864 = (n : Int)) (w : World) (hL : Isa.Laid w) :
    Calls Tryd.prog 10 #[.int .u32 x] w (Isa.DecPost (Isa.decF 2 3 (n : Int) (x % 67108864)) w) := by
  have hf' : (Isa.formOf n : Int) = 2 := by rw [hf]; rfl
  have hn' : (Isa.numOf n : Int) = 3 := by rw [hn]; rfl
  have hy : bits BinOp.and IntKind.u32 x 67108863 = x % 67108864 := u32_mask 26 (by decide) x hx0 (by omega)
  have hDa : bits BinOp.and IntKind.u32 ((x % 67108864) / 4194304) 15 = (x % 67108864) / 4194304 := by
    rw [show (15 : Int) = 2 ^ 4 - 1 from rfl, u32_mask 4 (by decide) _ (by omega) (by omega)]
    omega
  have hs1 : bits BinOp.andNot IntKind.u32 (x % 67108864) 62914560 = (x % 67108864) % 4194304 := u32_strike 22 (by decide) (x % 67108864) 62914560 (by omega) (by omega) (by decide) (by decide) (by decide)
  have hAa : bits BinOp.and IntKind.u32 (((x % 67108864) % 4194304) / 262144) 15 = ((x % 67108864) % 4194304) / 262144 := by
    rw [show (15 : Int) = 2 ^ 4 - 1 from rfl, u32_mask 4 (by decide) _ (by omega) (by omega)]
    omega
  have hs2 : bits BinOp.andNot IntKind.u32 ((x % 67108864) % 4194304) 3932160 = ((x % 67108864) % 4194304) % 262144 := u32_strike 18 (by decide) ((x % 67108864) % 4194304) 3932160 (by omega) (by omega) (by decide) (by decide) (by decide)
  have e : Isa.decF 2 3 (n : Int) (x % 67108864) = Isa.decOut (n : Int) 2 3 ((x % 67108864) / 4194304) (((x % 67108864) % 4194304) / 262144) 0 (((x % 67108864) % 4194304) % 262144) := by
    simp [Isa.decF, Isa.high, Isa.rest, Isa.atD, Isa.atA, Isa.atB, Isa.layD, Isa.layA, Isa.layB]
  rw [e]
  exact dec_2_3 n h1 h2 hf' hn' x hx0 hx1 hx (x % 67108864) hy (by omega) (by omega) ((x % 67108864) / 4194304) rfl (by omega) (by omega) hDa ((x % 67108864) % 4194304) hs1 (by omega) (by omega) (((x % 67108864) % 4194304) / 262144) rfl (by omega) (by omega) hAa (((x % 67108864) % 4194304) % 262144) hs2 (by omega) (by omega) w hL
theorem dec_form3_1 (n : Nat) (h1 : 1 ≤ n) (h2 : n < 49) (hf : Isa.formOf n = 3) (hn : Isa.numOf n = 1) (x : Int) (hx0 : 0 ≤ x) (hx1 : x ≤ 4294967295) (hx : x / 67108864 = (n : Int)) (w : World) (hL : Isa.Laid w) :
    Calls Tryd.prog 10 #[.int .u32 x] w (Isa.DecPost (Isa.decF 3 1 (n : Int) (x % 67108864)) w) := by
  have hf' : (Isa.formOf n : Int) = 3 := by rw [hf]; rfl
  have hn' : (Isa.numOf n : Int) = 1 := by rw [hn]; rfl
  have hy : bits BinOp.and IntKind.u32 x 67108863 = x % 67108864 := u32_mask 26 (by decide) x hx0 (by omega)
  have hAa : bits BinOp.and IntKind.u32 ((x % 67108864) / 4194304) 15 = (x % 67108864) / 4194304 := by
    rw [show (15 : Int) = 2 ^ 4 - 1 from rfl, u32_mask 4 (by decide) _ (by omega) (by omega)]
    omega
  have hs1 : bits BinOp.andNot IntKind.u32 (x % 67108864) 62914560 = (x % 67108864) % 4194304 := u32_strike 22 (by decide) (x % 67108864) 62914560 (by omega) (by omega) (by decide) (by decide) (by decide)
  have hBa : bits BinOp.and IntKind.u32 (((x % 67108864) % 4194304) / 262144) 15 = ((x % 67108864) % 4194304) / 262144 := by
    rw [show (15 : Int) = 2 ^ 4 - 1 from rfl, u32_mask 4 (by decide) _ (by omega) (by omega)]
    omega
  have hs2 : bits BinOp.andNot IntKind.u32 ((x % 67108864) % 4194304) 3932160 = ((x % 67108864) % 4194304) % 262144 := u32_strike 18 (by decide) ((x % 67108864) % 4194304) 3932160 (by omega) (by omega) (by decide) (by decide) (by decide)
  have e : Isa.decF 3 1 (n : Int) (x % 67108864) = Isa.decOut (n : Int) 3 1 0 ((x % 67108864) / 4194304) (((x % 67108864) % 4194304) / 262144) (((x % 67108864) % 4194304) % 262144) := by
    simp [Isa.decF, Isa.high, Isa.rest, Isa.atD, Isa.atA, Isa.atB, Isa.layD, Isa.layA, Isa.layB]
  rw [e]
  exact dec_3_1 n h1 h2 hf' hn' x hx0 hx1 hx (x % 67108864) hy (by omega) (by omega) ((x % 67108864) / 4194304) rfl (by omega) (by omega) hAa ((x % 67108864) % 4194304) hs1 (by omega) (by omega) (((x % 67108864) % 4194304) / 262144) rfl (by omega) (by omega) hBa (((x % 67108864) % 4194304) % 262144) hs2 (by omega) (by omega) w hL
theorem dec_form4_1 (n : Nat) (h1 : 1 ≤ n) (h2 : n < 49) (hf : Isa.formOf n = 4) (hn : Isa.numOf n = 1) (x : Int) (hx0 : 0 ≤ x) (hx1 : x ≤ 4294967295) (hx : x / 67108864 = (n : Int)) (w : World) (hL : Isa.Laid w) :
    Calls Tryd.prog 10 #[.int .u32 x] w (Isa.DecPost (Isa.decF 4 1 (n : Int) (x % 67108864)) w) := by
  have hf' : (Isa.formOf n : Int) = 4 := by rw [hf]; rfl
  have hn' : (Isa.numOf n : Int) = 1 := by rw [hn]; rfl
  have hy : bits BinOp.and IntKind.u32 x 67108863 = x % 67108864 := u32_mask 26 (by decide) x hx0 (by omega)
  have hDa : bits BinOp.and IntKind.u32 ((x % 67108864) / 4194304) 15 = (x % 67108864) / 4194304 := by
    rw [show (15 : Int) = 2 ^ 4 - 1 from rfl, u32_mask 4 (by decide) _ (by omega) (by omega)]
    omega
  have hs1 : bits BinOp.andNot IntKind.u32 (x % 67108864) 62914560 = (x % 67108864) % 4194304 := u32_strike 22 (by decide) (x % 67108864) 62914560 (by omega) (by omega) (by decide) (by decide) (by decide)
  have e : Isa.decF 4 1 (n : Int) (x % 67108864) = Isa.decOut (n : Int) 4 1 ((x % 67108864) / 4194304) 0 0 ((x % 67108864) % 4194304) := by
    simp [Isa.decF, Isa.high, Isa.rest, Isa.atD, Isa.atA, Isa.atB, Isa.layD, Isa.layA, Isa.layB]
  rw [e]
  exact dec_4_1 n h1 h2 hf' hn' x hx0 hx1 hx (x % 67108864) hy (by omega) (by omega) ((x % 67108864) / 4194304) rfl (by omega) (by omega) hDa ((x % 67108864) % 4194304) hs1 (by omega) (by omega) w hL
theorem dec_form4_2 (n : Nat) (h1 : 1 ≤ n) (h2 : n < 49) (hf : Isa.formOf n = 4) (hn : Isa.numOf n = 2) (x : Int) (hx0 : 0 ≤ x) (hx1 : x ≤ 4294967295) (hx : x / 67108864 = (n : Int)) (w : World) (hL : Isa.Laid w) :
    Calls Tryd.prog 10 #[.int .u32 x] w (Isa.DecPost (Isa.decF 4 2 (n : Int) (x % 67108864)) w) := by
  have hf' : (Isa.formOf n : Int) = 4 := by rw [hf]; rfl
  have hn' : (Isa.numOf n : Int) = 2 := by rw [hn]; rfl
  have hy : bits BinOp.and IntKind.u32 x 67108863 = x % 67108864 := u32_mask 26 (by decide) x hx0 (by omega)
  have hDa : bits BinOp.and IntKind.u32 ((x % 67108864) / 4194304) 15 = (x % 67108864) / 4194304 := by
    rw [show (15 : Int) = 2 ^ 4 - 1 from rfl, u32_mask 4 (by decide) _ (by omega) (by omega)]
    omega
  have hs1 : bits BinOp.andNot IntKind.u32 (x % 67108864) 62914560 = (x % 67108864) % 4194304 := u32_strike 22 (by decide) (x % 67108864) 62914560 (by omega) (by omega) (by decide) (by decide) (by decide)
  have e : Isa.decF 4 2 (n : Int) (x % 67108864) = Isa.decOut (n : Int) 4 2 ((x % 67108864) / 4194304) 0 0 ((x % 67108864) % 4194304) := by
    simp [Isa.decF, Isa.high, Isa.rest, Isa.atD, Isa.atA, Isa.atB, Isa.layD, Isa.layA, Isa.layB]
  rw [e]
  exact dec_4_2 n h1 h2 hf' hn' x hx0 hx1 hx (x % 67108864) hy (by omega) (by omega) ((x % 67108864) / 4194304) rfl (by omega) (by omega) hDa ((x % 67108864) % 4194304) hs1 (by omega) (by omega) w hL
theorem dec_form5_0 (n : Nat) (h1 : 1 ≤ n) (h2 : n < 49) (hf : Isa.formOf n = 5) (hn : Isa.numOf n = 0) (x : Int) (hx0 : 0 ≤ x) (hx1 : x ≤ 4294967295) (hx : x / 67108864 = (n : Int)) (w : World) (hL : Isa.Laid w) :
    Calls Tryd.prog 10 #[.int .u32 x] w (Isa.DecPost (Isa.decF 5 0 (n : Int) (x % 67108864)) w) := by
  have hf' : (Isa.formOf n : Int) = 5 := by rw [hf]; rfl
  have hn' : (Isa.numOf n : Int) = 0 := by rw [hn]; rfl
  have hy : bits BinOp.and IntKind.u32 x 67108863 = x % 67108864 := u32_mask 26 (by decide) x hx0 (by omega)
  have hDa : bits BinOp.and IntKind.u32 ((x % 67108864) / 4194304) 15 = (x % 67108864) / 4194304 := by
    rw [show (15 : Int) = 2 ^ 4 - 1 from rfl, u32_mask 4 (by decide) _ (by omega) (by omega)]
    omega
  have hs1 : bits BinOp.andNot IntKind.u32 (x % 67108864) 62914560 = (x % 67108864) % 4194304 := u32_strike 22 (by decide) (x % 67108864) 62914560 (by omega) (by omega) (by decide) (by decide) (by decide)
  have e : Isa.decF 5 0 (n : Int) (x % 67108864) = Isa.decOut (n : Int) 5 0 ((x % 67108864) / 4194304) 0 0 ((x % 67108864) % 4194304) := by
    simp [Isa.decF, Isa.high, Isa.rest, Isa.atD, Isa.atA, Isa.atB, Isa.layD, Isa.layA, Isa.layB]
  rw [e]
  exact dec_5_0 n h1 h2 hf' hn' x hx0 hx1 hx (x % 67108864) hy (by omega) (by omega) ((x % 67108864) / 4194304) rfl (by omega) (by omega) hDa ((x % 67108864) % 4194304) hs1 (by omega) (by omega) w hL
theorem dec_form6_0 (n : Nat) (h1 : 1 ≤ n) (h2 : n < 49) (hf : Isa.formOf n = 6) (hn : Isa.numOf n = 0) (x : Int) (hx0 : 0 ≤ x) (hx1 : x ≤ 4294967295) (hx : x / 67108864 = (n : Int)) (w : World) (hL : Isa.Laid w) :
    Calls Tryd.prog 10 #[.int .u32 x] w (Isa.DecPost (Isa.decF 6 0 (n : Int) (x % 67108864)) w) := by
  have hf' : (Isa.formOf n : Int) = 6 := by rw [hf]; rfl
  have hn' : (Isa.numOf n : Int) = 0 := by rw [hn]; rfl
  have hy : bits BinOp.and IntKind.u32 x 67108863 = x % 67108864 := u32_mask 26 (by decide) x hx0 (by omega)
  have hAa : bits BinOp.and IntKind.u32 ((x % 67108864) / 4194304) 15 = (x % 67108864) / 4194304 := by
    rw [show (15 : Int) = 2 ^ 4 - 1 from rfl, u32_mask 4 (by decide) _ (by omega) (by omega)]
    omega
  have hs1 : bits BinOp.andNot IntKind.u32 (x % 67108864) 62914560 = (x % 67108864) % 4194304 := u32_strike 22 (by decide) (x % 67108864) 62914560 (by omega) (by omega) (by decide) (by decide) (by decide)
  have e : Isa.decF 6 0 (n : Int) (x % 67108864) = Isa.decOut (n : Int) 6 0 0 ((x % 67108864) / 4194304) 0 ((x % 67108864) % 4194304) := by
    simp [Isa.decF, Isa.high, Isa.rest, Isa.atD, Isa.atA, Isa.atB, Isa.layD, Isa.layA, Isa.layB]
  rw [e]
  exact dec_6_0 n h1 h2 hf' hn' x hx0 hx1 hx (x % 67108864) hy (by omega) (by omega) ((x % 67108864) / 4194304) rfl (by omega) (by omega) hAa ((x % 67108864) % 4194304) hs1 (by omega) (by omega) w hL
theorem dec_form7_2 (n : Nat) (h1 : 1 ≤ n) (h2 : n < 49) (hf : Isa.formOf n = 7) (hn : Isa.numOf n = 2) (x : Int) (hx0 : 0 ≤ x) (hx1 : x ≤ 4294967295) (hx : x / 67108864 = (n : Int)) (w : World) (hL : Isa.Laid w) :
    Calls Tryd.prog 10 #[.int .u32 x] w (Isa.DecPost (Isa.decF 7 2 (n : Int) (x % 67108864)) w) := by
  have hf' : (Isa.formOf n : Int) = 7 := by rw [hf]; rfl
  have hn' : (Isa.numOf n : Int) = 2 := by rw [hn]; rfl
  have hy : bits BinOp.and IntKind.u32 x 67108863 = x % 67108864 := u32_mask 26 (by decide) x hx0 (by omega)
  have e : Isa.decF 7 2 (n : Int) (x % 67108864) = Isa.decOut (n : Int) 7 2 0 0 0 (x % 67108864) := by
    simp [Isa.decF, Isa.high, Isa.rest, Isa.atD, Isa.atA, Isa.atB, Isa.layD, Isa.layA, Isa.layB]
  rw [e]
  exact dec_7_2 n h1 h2 hf' hn' x hx0 hx1 hx (x % 67108864) hy (by omega) (by omega) w hL
theorem dec_form8_0 (n : Nat) (h1 : 1 ≤ n) (h2 : n < 49) (hf : Isa.formOf n = 8) (hn : Isa.numOf n = 0) (x : Int) (hx0 : 0 ≤ x) (hx1 : x ≤ 4294967295) (hx : x / 67108864 = (n : Int)) (w : World) (hL : Isa.Laid w) :
    Calls Tryd.prog 10 #[.int .u32 x] w (Isa.DecPost (Isa.decF 8 0 (n : Int) (x % 67108864)) w) := by
  have hf' : (Isa.formOf n : Int) = 8 := by rw [hf]; rfl
  have hn' : (Isa.numOf n : Int) = 0 := by rw [hn]; rfl
  have hy : bits BinOp.and IntKind.u32 x 67108863 = x % 67108864 := u32_mask 26 (by decide) x hx0 (by omega)
  have e : Isa.decF 8 0 (n : Int) (x % 67108864) = Isa.decOut (n : Int) 8 0 0 0 0 (x % 67108864) := by
    simp [Isa.decF, Isa.high, Isa.rest, Isa.atD, Isa.atA, Isa.atB, Isa.layD, Isa.layA, Isa.layB]
  rw [e]
  exact dec_8_0 n h1 h2 hf' hn' x hx0 hx1 hx (x % 67108864) hy (by omega) (by omega) w hL
theorem Isa.combos : ∀ n : Fin 49, 1 ≤ n.1 → (Isa.formOf n.1 = 1 ∧ Isa.numOf n.1 = 0) ∨ (Isa.formOf n.1 = 2 ∧ Isa.numOf n.1 = 1) ∨ (Isa.formOf n.1 = 2 ∧ Isa.numOf n.1 = 2) ∨ (Isa.formOf n.1 = 2 ∧ Isa.numOf n.1 = 3) ∨ (Isa.formOf n.1 = 3 ∧ Isa.numOf n.1 = 1) ∨ (Isa.formOf n.1 = 4 ∧ Isa.numOf n.1 = 1) ∨ (Isa.formOf n.1 = 4 ∧ Isa.numOf n.1 = 2) ∨ (Isa.formOf n.1 = 5 ∧ Isa.numOf n.1 = 0) ∨ (Isa.formOf n.1 = 6 ∧ Isa.numOf n.1 = 0) ∨ (Isa.formOf n.1 = 7 ∧ Isa.numOf n.1 = 2) ∨ (Isa.formOf n.1 = 8 ∧ Isa.numOf n.1 = 0) := by decide
/-- THE CONTRACT. -/
theorem Decode_calls (x : Int) (hx0 : 0 ≤ x) (hx1 : x ≤ 4294967295) (w : World) (hL : Isa.Laid w) : Calls Tryd.prog 10 #[.int .u32 x] w (Isa.DecPost (Isa.dec x) w) := by
  by_cases h : x / 67108864 < 1 ∨ 49 ≤ x / 67108864
  · rw [show Isa.dec x = (0, 0, 0, 0, 0, 100) from if_pos h]
    exact dec_none x hx0 hx1 h w hL
  · obtain ⟨n, hn⟩ : ∃ n : Nat, x / 67108864 = (n : Int) := ⟨(x / 67108864).toNat, by omega⟩
    have e : Isa.dec x = Isa.decF (Isa.formOf n) (Isa.numOf n) (n : Int) (x % 67108864) := by
      unfold Isa.dec
      rw [if_neg h, hn]
      rfl
    rw [e]
    have h1 : 1 ≤ n := by omega
    have h2 : n < 49 := by omega
    have hc := Isa.combos ⟨n, h2⟩ h1
    simp only at hc
    rcases hc with ⟨a, b⟩ | ⟨a, b⟩ | ⟨a, b⟩ | ⟨a, b⟩ | ⟨a, b⟩ | ⟨a, b⟩ | ⟨a, b⟩ | ⟨a, b⟩ | ⟨a, b⟩ | ⟨a, b⟩ | ⟨a, b⟩
    · rw [a, b]; exact dec_form1_0 n h1 h2 a b x hx0 hx1 hn w hL
    · rw [a, b]; exact dec_form2_1 n h1 h2 a b x hx0 hx1 hn w hL
    · rw [a, b]; exact dec_form2_2 n h1 h2 a b x hx0 hx1 hn w hL
    · rw [a, b]; exact dec_form2_3 n h1 h2 a b x hx0 hx1 hn w hL
    · rw [a, b]; exact dec_form3_1 n h1 h2 a b x hx0 hx1 hn w hL
    · rw [a, b]; exact dec_form4_1 n h1 h2 a b x hx0 hx1 hn w hL
    · rw [a, b]; exact dec_form4_2 n h1 h2 a b x hx0 hx1 hn w hL
    · rw [a, b]; exact dec_form5_0 n h1 h2 a b x hx0 hx1 hn w hL
    · rw [a, b]; exact dec_form6_0 n h1 h2 a b x hx0 hx1 hn w hL
    · rw [a, b]; exact dec_form7_2 n h1 h2 a b x hx0 hx1 hn w hL
    · rw [a, b]; exact dec_form8_0 n h1 h2 a b x hx0 hx1 hn w hL
end Go.Proofs.YtedjkbekhhffeaaDoor
