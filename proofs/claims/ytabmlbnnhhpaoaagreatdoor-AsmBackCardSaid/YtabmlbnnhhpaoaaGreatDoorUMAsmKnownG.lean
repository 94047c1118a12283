/- What this claim needs of AsmKnown0, AsmKnown, AsmRow0. -/
import Derived.Test.YtabmlbnnhhpaoaaGreatDoorUMAsmAll
import Derived.Test.YtabmlbnnhhpaoaaGreatDoorEMAsmDisG
import Derived.Test.YtabmlbnnhhpaoaaGreatDoorEMAsmOnes
import Derived.Test.YtabmlbnnhhpaoaaGreatDoorRows
import Derived.Test.YtabmlbnnhhpaoaaGreatDoorEMAsmHexG
import Derived.Lay
import Derived.Carry
import Derived.ChangeOld
import Derived.ShutString
import Derived.SizedLaws
import Derived.Lib.LaidU8
import Derived.ProofKit
import Derived.LaidMore
import Derived.OpenShut
import Derived.Stop.Joined
set_option linter.unusedSimpArgs false
set_option linter.unusedVariables false
namespace Go.Proofs.YtabmlbnnhhpaoaaGreatDoor
open Go.RowKit Go.Shelf
namespace Asm
def ksrc : List UInt8 := [46, 111, 114, 103, 32, 48, 120, 49, 48, 48, 48, 10, 116, 111, 112, 58, 32, 97, 100, 100, 105, 32, 114, 49, 44, 32, 114, 49, 44, 32, 45, 49, 32, 35, 32, 111, 110, 101, 32, 108, 101, 115, 115, 10, 98, 110, 101, 32, 114, 49, 44, 32, 114, 48, 44, 32, 116, 111, 112, 10, 104, 97, 108, 116, 10]
def ktop : List UInt8 := [116, 111, 112]
def kS1 : PS := { init with line := init.line + 1, toks := [], origin := 4096, placed := true }
def kS2 : PS := pushed { kS1 with line := kS1.line + 1, toks := [], fresh := kS1.fresh ++ [ktop] } ⟨14, 1, 1, 0, 0⟩ ⟨[], -1⟩
def kS3 : PS := pushed { kS2 with line := kS2.line + 1, toks := [], fresh := kS2.fresh } ⟨33, 0, 1, 0, 0⟩ ⟨ktop, 0⟩
def kS4 : PS := pushed { kS3 with line := kS3.line + 1, toks := [], fresh := kS3.fresh } ⟨47, 0, 0, 0, 0⟩ ⟨[], 0⟩
def kS5 : PS := marked { kS4 with line := kS4.line + 1, toks := [], fresh := kS4.fresh }
def kst : Nat → PS
 | 0 => init
 | 1 => kS1
 | 2 => kS2
 | 3 => kS3
 | 4 => kS4
 | _ => kS5
theorem klines : lines ksrc = [[46, 111, 114, 103, 32, 48, 120, 49, 48, 48, 48], [116, 111, 112, 58, 32, 97, 100, 100, 105, 32, 114, 49, 44, 32, 114, 49, 44, 32, 45, 49, 32, 35, 32, 111, 110, 101, 32, 108, 101, 115, 115], [98, 110, 101, 32, 114, 49, 44, 32, 114, 48, 44, 32, 116, 111, 112], [104, 97, 108, 116], []] := by decide +kernel
theorem bnd0 : Bnd init := ⟨by decide, by decide, by decide, by decide, by decide, by decide, by decide, by decide⟩
theorem bnd1 : Bnd kS1 := ⟨by decide, by decide, by decide, by decide, by decide, by decide, by decide, by decide⟩
theorem bnd2 : Bnd kS2 := ⟨by decide, by decide, by decide, by decide, by decide, by decide, by decide, by decide⟩
theorem bnd3 : Bnd kS3 := ⟨by decide, by decide, by decide, by decide, by decide, by decide, by decide, by decide⟩
theorem bnd4 : Bnd kS4 := ⟨by decide, by decide, by decide, by decide, by decide, by decide, by decide, by decide⟩
theorem bnd5 : Bnd kS5 := ⟨by decide, by decide, by decide, by decide, by decide, by decide, by decide, by decide⟩
theorem kone0 : OneOk init [46, 111, 114, 103, 32, 48, 120, 49, 48, 48, 48] kS1 := fun B w hP =>
 one_NO [46, 111, 114, 103, 32, 48, 120, 49, 48, 48, 48] (by decide) ⟨0, [46, 111, 114, 103], 0⟩ ⟨1, [48, 120, 49, 48, 48, 48], 4096⟩ (by decide +kernel) rfl rfl rfl (by decide) (by decide) (by decide) B init bnd0 (by decide) (by decide) rfl rfl w hP
theorem kone1 : OneOk kS1 [116, 111, 112, 58, 32, 97, 100, 100, 105, 32, 114, 49, 44, 32, 114, 49, 44, 32, 45, 49, 32, 35, 32, 111, 110, 101, 32, 108, 101, 115, 115] kS2 := fun B w hP =>
 one_L2 [116, 111, 112, 58, 32, 97, 100, 100, 105, 32, 114, 49, 44, 32, 114, 49, 44, 32, 45, 49, 32, 35, 32, 111, 110, 101, 32, 108, 101, 115, 115] (by decide) ⟨0, [116, 111, 112], 0⟩ ⟨2, [58], 0⟩ ⟨0, [97, 100, 100, 105], 0⟩ ⟨0, [114, 49], 0⟩ ⟨2, [44], 0⟩ ⟨0, [114, 49], 0⟩ ⟨2, [44], 0⟩ ⟨1, [45, 49], -1⟩ 1 1 ⟨[], -1⟩ (by decide +kernel) rfl (by decide) (by decide +kernel) ⟨rfl, rfl⟩ ⟨rfl, by decide +kernel⟩ ⟨rfl, rfl⟩ ⟨rfl, by decide +kernel⟩ ⟨rfl, rfl⟩ (.inl ⟨rfl, rfl⟩) rfl 14 (by decide) (by decide) (by decide +kernel) (by decide) (by decide +kernel) B kS1 bnd1 (by decide) (by decide) (by decide +kernel) (by decide) (by decide) w hP
theorem kone2 : OneOk kS2 [98, 110, 101, 32, 114, 49, 44, 32, 114, 48, 44, 32, 116, 111, 112] kS3 := fun B w hP =>
 one_N3 [98, 110, 101, 32, 114, 49, 44, 32, 114, 48, 44, 32, 116, 111, 112] (by decide) ⟨0, [98, 110, 101], 0⟩ ⟨0, [114, 49], 0⟩ ⟨2, [44], 0⟩ ⟨0, [114, 48], 0⟩ ⟨2, [44], 0⟩ ⟨0, [116, 111, 112], 0⟩ 1 0 ⟨ktop, 0⟩ (by decide +kernel) ⟨rfl, by decide +kernel⟩ ⟨rfl, rfl⟩ ⟨rfl, by decide +kernel⟩ ⟨rfl, rfl⟩ (.inr ⟨rfl, by decide, by decide +kernel, rfl⟩) rfl 33 (by decide) (by decide) (by decide +kernel) (by decide) (by decide +kernel) B kS2 bnd2 (by decide) (by decide) (by decide +kernel) (by decide) (by decide) w hP
theorem kone3 : OneOk kS3 [104, 97, 108, 116] kS4 := fun B w hP =>
 one_N8 [104, 97, 108, 116] (by decide) ⟨0, [104, 97, 108, 116], 0⟩ (by decide +kernel) rfl 47 (by decide) (by decide) (by decide +kernel) (by decide) (by decide +kernel) B kS3 bnd3 (by decide) (by decide) (by decide +kernel) (by decide) (by decide) w hP
theorem kone4 : OneOk kS4 [] kS5 := fun B w hP =>
 one_NB [] (by decide) (by decide +kernel) B kS4 bnd4 (by decide) (by decide) (by decide +kernel) w hP
theorem kst_ok : ∀ k (h : k < (lines ksrc).length), OneOk (kst k) (lines ksrc)[k] (kst (k + 1)) := by
 intro k h
 have hl := List.getElem?_eq_getElem h
 obtain ⟨l, hk⟩ : ∃ l, (lines ksrc)[k] = l := ⟨_, rfl⟩
 rw [hk] at hl ⊢
 clear hk
 rw [klines] at h hl
 match k, h, hl with
 | 0, _, hl => simp at hl; subst hl; exact kone0
 | 1, _, hl => simp at hl; subst hl; exact kone1
 | 2, _, hl => simp at hl; subst hl; exact kone2
 | 3, _, hl => simp at hl; subst hl; exact kone3
 | 4, _, hl => simp at hl; subst hl; exact kone4
 | k + 5, h, _ => exact absurd h (by simp)
theorem kend : kst (lines ksrc).length = kS5 := by rw [klines]; rfl
theorem kpieces : kS5.pieces = [⟨2, 4096, ⟨14, 1, 1, 0, 0⟩, ⟨[], -1⟩, .enc⟩, ⟨3, 4100, ⟨33, 0, 1, 0, 0⟩, ⟨ktop, 0⟩, .enc⟩, ⟨4, 4104, ⟨47, 0, 0, 0, 0⟩, ⟨[], 0⟩, .enc⟩] := by decide +kernel
theorem klabels : kS5.labels = [(ktop, 4096)] := by decide +kernel
theorem kpo : ∀ x ∈ kS5.pieces, PieceOk kS5 x := by
 rw [kpieces]
 intro x hx
 simp at hx
 rcases hx with rfl | rfl | rfl
 all_goals show EncOk kS5 _
 all_goals exact ⟨⟨by decide, by decide, by decide⟩, by decide, by decide +kernel, by decide, by decide, by decide +kernel, by decide +kernel, by decide +kernel, by decide +kernel, by decide +kernel⟩
theorem kwords : (kS5.pieces.take 3).flatMap (wordsOf kS5) = [944242687, 2219048959, 3154116608] := by decide +kernel
end Asm
end Go.Proofs.YtabmlbnnhhpaoaaGreatDoor
set_option maxHeartbeats 2000000
set_option maxRecDepth 100000
namespace Go.Proofs.YtabmlbnnhhpaoaaGreatDoor
open Go.RowKit Go.Shelf
namespace Asm
theorem hex4096 : Hex.text 4096 = [49, 48, 48, 48] := by
 rw [Hex.text_big 4096 (by decide), Hex.text_big (4096 / 16) (by decide), Hex.text_big (4096 / 16 / 16) (by decide), Hex.text_small (4096 / 16 / 16 / 16) (by decide)]
 decide
theorem dec1 : Lib.decDigits 1 = [49] := by rw [Lib.decDigits, dif_pos (by decide)]; rfl
theorem dec0 : Lib.decDigits 0 = [48] := by rw [Lib.decDigits, dif_pos (by decide)]; rfl
theorem itoa1 : Lib.itoa 1 = [49] := by unfold Lib.itoa; rw [if_neg (by decide)]; exact dec1
theorem itoa0 : Lib.itoa 0 = [48] := by unfold Lib.itoa; rw [if_neg (by decide)]; exact dec0
theorem itoam : Lib.itoa (-1) = [45, 49] := by unfold Lib.itoa; rw [if_pos (by decide), show (-1 : Int).natAbs = 1 from rfl, dec1]
theorem kdec0 : Isa.dec ((944242687 : Nat) : Int) = (14, 1, 1, 0, -1, 0) := by decide +kernel
theorem kdec1 : Isa.dec ((2219048959 : Nat) : Int) = (33, 0, 1, 0, -1, 0) := by decide +kernel
theorem kline0 : lineText 944242687 4096 = ⟨#[97, 100, 100, 105, 32, 114, 49, 44, 32, 114, 49, 44, 32, 45, 49]⟩ := by
 unfold lineText
 rw [kdec0]
 have hg : goes 14 = false := by decide
 have he : (Isa.enc 14 1 1 0 (-1)).2 = 0 := by decide +kernel
 simp only [if_true, hg, Bool.false_eq_true, if_false]
 unfold Isa.text
 rw [if_neg (by rw [he]; decide)]
 have h1 : Isa.formOf (14 : Int).toNat = 2 := by decide +kernel
 have h2 : Isa.numOf (14 : Int).toNat = 1 := by decide +kernel
 have h3 : Isa.shapeOf (14 : Int).toNat = 0 := by decide +kernel
 have h4 : Isa.nameOf (14 : Int).toNat = ⟨#[97, 100, 100, 105]⟩ := by decide +kernel
 rw [h1, h2, h3, h4]
 unfold Isa.textF Isa.parts
 rw [if_neg (by decide)]
 simp only [Isa.atD, Isa.atA, Isa.atB, Isa.layD, Isa.layA, Isa.layB, Isa.reg, Isa.num, itoa1, itoam]
 decide +kernel
theorem kline1 : lineText 2219048959 4100 = ⟨#[98, 110, 101, 32, 114, 49, 44, 32, 114, 48, 44, 32, 45, 49, 32, 35, 32, 48, 120, 48, 48, 48, 48, 49, 48, 48, 48]⟩ := by
 unfold lineText
 rw [kdec1]
 have hg : goes 33 = true := by decide
 have he : (Isa.enc 33 0 1 0 (-1)).2 = 0 := by decide +kernel
 have ht : ((((4100 : Nat) : Int) + 4 * ((-1 : Int) % 4294967296)) % 4294967296).toNat = 4096 := by decide
 simp only [if_true, hg]
 unfold Isa.text
 rw [if_neg (by rw [he]; decide), ht]
 have h1 : Isa.formOf (33 : Int).toNat = 3 := by decide +kernel
 have h2 : Isa.numOf (33 : Int).toNat = 1 := by decide +kernel
 have h3 : Isa.shapeOf (33 : Int).toNat = 0 := by decide +kernel
 have h4 : Isa.nameOf (33 : Int).toNat = ⟨#[98, 110, 101]⟩ := by decide +kernel
 rw [h1, h2, h3, h4]
 unfold Isa.textF Isa.parts Hex.eight
 rw [if_neg (by decide), hex4096]
 simp only [Isa.atD, Isa.atA, Isa.atB, Isa.layD, Isa.layA, Isa.layB, Isa.reg, Isa.num, itoa1, itoa0, itoam]
 decide +kernel
theorem ksound : sound 4096 3 [(ktop, 4096)] = true := by decide +kernel
theorem kdis : ∃ t : List UInt8, dis 4096 [944242687, 2219048959, 3154116608] [(ktop, 4096)] = (t, 0) ∧ 60 < t.length := by
 have h1 : (disHead 4096).length = 16 := by simp [disHead, Hex.eight_len 4096 (by decide)]
 have h2 : (oneLine 944242687 4096).length = 17 := by unfold oneLine; rw [kline0]; rfl
 have h3 : (oneLine 2219048959 4100).length = 29 := by unfold oneLine; rw [kline1]; rfl
 have h4 := oneLine_len 3154116608 4104 (by decide) (by decide)
 have e : disBody 4096 [944242687, 2219048959, 3154116608] [(ktop, 4096)] = (ktop ++ [58, 10]) ++ (oneLine 944242687 4096 ++ (oneLine 2219048959 4100 ++ (oneLine 3154116608 4104 ++ []))) := by
  simp [disBody, takeAt]
 have hl : (disText 4096 [944242687, 2219048959, 3154116608] [(ktop, 4096)]).length = 16 + (5 + (17 + (29 + (oneLine 3154116608 4104).length))) := by
  unfold disText
  rw [e]
  simp only [List.length_append, h1, h2, h3]
  rfl
 refine ⟨disText 4096 [944242687, 2219048959, 3154116608] [(ktop, 4096)], ?_, by omega⟩
 unfold dis
 rw [if_pos (show sound 4096 [944242687, 2219048959, 3154116608].length [(ktop, 4096)] = true from ksound), if_neg (by omega)]
theorem RowView.of_row {w : World} {base : Nat} {e : TypeId} {size : Nat} {v : Value} {n : Nat} {xs : List Value} (h : w.ownsRow base e size v n xs) : RowView w e v n xs := by
 rcases h.2 with ⟨rfl, hn⟩ | ⟨g, cap, cur, rfl, hb, hg, h1, h2, h3, h4⟩
 · exact ⟨none, 0, by rw [hn], by omega, by decide, fun hne => absurd hn hne⟩
 · refine ⟨some ⟨g, 0, none⟩, cap, rfl, h1, h2, fun _ => ⟨g, 0, cur, _, rfl, hg, fun j u hj => ?_⟩⟩
   have hj' : j < n * size := by
    have := (List.getElem?_eq_some_iff.1 hj).1
    rw [h.1] at this
    exact this
   rw [← h4] at hj
   rw [Nat.zero_add, ← Array.getElem?_toList]
   rw [List.getElem?_take] at hj
   rw [if_pos hj'] at hj
   exact hj
end Asm
theorem known_calls (w : World) (hL : Isa.Laid w) (hH : Hex.Laid w) : Calls Tryz.prog 11 #[] w fun e w' => e = .returned (.bool true) ∧ Below w.heap.size w w' := by
 have hA := fun W (h : Isa.Laid W) => assemble_calls Asm.ksrc (by decide) Asm.kst rfl Asm.kst_ok Asm.kS5 Asm.kend rfl Asm.bnd5 Asm.kpo W h
 go_enter Tryz.func11, Tryz.ntmps11
 go_wp2_with fail
 refine (hA w hL).mono ?_
 rintro e w1 ⟨⟨vW, vL, rfl, hW, hl⟩, hb1⟩
 clear hA
 have hor : Asm.kS5.origin % 4294967296 = 4096 := by decide +kernel
 have hpl : Asm.kS5.pieces.length = 3 := by decide +kernel
 have hll : Asm.kS5.labels.length = 1 := by decide +kernel
 have hwt : Asm.wordsTo Asm.kS5 3 = [944242687, 2219048959, 3154116608].map Asm.wordCells := by
  unfold Asm.wordsTo
  have h := congrArg (List.map Asm.word32) Asm.kwords
  rw [List.map_flatMap] at h
  exact h
 have hlt : Asm.kS5.labels.flatMap Asm.labelCells = [(Asm.ktop, 4096)].flatMap Asm.labCells := by rw [Asm.klabels]; rfl
 rw [hor]
 rw [hpl, hwt] at hW
 replace hW : w1.ownsRow w.heap.size 23 1 vW 3 ([944242687, 2219048959, 3154116608].map Asm.wordCells) := hW
 rw [hll, hlt] at hl
 have hvW := Asm.RowView.of_row hW
 have hvL := Asm.RowView.of_row hl
 clear hor hpl hll hwt hlt hW hl
 obtain ⟨g, o, cap, rfl, hc1, hc2, hg, hcw⟩ := hvW.cells (by decide)
 obtain ⟨g', o', cap', rfl, hc1', hc2', hg', hcl⟩ := hvL.cells (by decide)
 have a1 : w1.cell? ⟨g, o + 1, none⟩ = some (.int .u32 2219048959) := hcw 1 _ rfl
 have a2 : w1.cell? ⟨g, o + 2, none⟩ = some (.int .u32 3154116608) := hcw 2 _ rfl
 have l0 : w1.cell? ⟨g', o', none⟩ = some (.string ⟨#[116, 111, 112]⟩) := hcl 0 _ rfl
 have l1 : w1.cell? ⟨g', o' + 1, none⟩ = some (.int .u32 4096) := hcl 1 _ rfl
 clear hcw hcl
 have HVW := Lib.hid hvW
 have HVL := Lib.hid hvL
 have HB1 := Lib.hid hb1
 clear hvW hvL hb1
 have BX : Below w1.heap.size w1 (w1.alloc (.cells #[.int .u32 4096, .slice (some ⟨g, o, none⟩) 3 cap, .slice (some ⟨g', o', none⟩) 1 cap'] 27)) := below_alloc' (Below.refl _ _) _
 have KX := heap_alloc_new w1 (.cells #[.int .u32 4096, .slice (some ⟨g, o, none⟩) 3 cap, .slice (some ⟨g', o', none⟩) 1 cap'] 27)
 have HBX := Lib.hid (below_next HB1.out BX)
 have HKX := Lib.hid KX
 have hline : ∀ W : World, Isa.Laid W → Hex.Laid W → Calls Tryz.prog 20 #[.int .u32 2219048959, .int .u32 4100] W fun e w' => e = .returned (.string (Asm.lineText 2219048959 4100)) ∧ Below W.heap.size W w' := fun W h1 h2 => line_calls 2219048959 4100 (by decide) (by decide) W h1 h2
 rw [Asm.kline1] at hline
 have HLINE := Lib.hid hline
 obtain ⟨tx, hdis, htl⟩ := Asm.kdis
 have hdc : ∀ W : World, Below w1.heap.size w1 W → Isa.Laid W → Hex.Laid W → Calls Tryz.prog 18 #[.agg #[.int .u32 4096, .slice (some ⟨g, o, none⟩) 3 cap, .slice (some ⟨g', o', none⟩) 1 cap']] W fun e w' => e = .returned (.tuple #[.string ⟨tx.toArray⟩, .int .i64 0]) ∧ Below W.heap.size W w' := fun W hb h1 h2 => by
  have h := dis_calls 4096 [944242687, 2219048959, 3154116608] [(Asm.ktop, 4096)] (.slice (some ⟨g, o, none⟩) 3 cap) (.slice (some ⟨g', o', none⟩) 1 cap') W (by decide) (by decide) (by decide) (HVW.out.below hb) (HVL.out.below hb) (by decide) (by decide) h1 h2
  rw [hdis] at h
  exact h
 have HDC := Lib.hid hdc
 clear BX KX hline hdis hdc
 go_wp2_with fail
 refine (HLINE.out _ (hL.below HBX.out) (hH.below HBX.out)).mono ?_
 rintro e w3 ⟨rfl, hb3⟩
 have kx3 := blk_keep hb3 HKX.out
 have hbw3 := below_next (below_alloc' (Below.refl w1.heap.size w1) _) hb3
 have hB3 := below_next HBX.out hb3
 have q0 : w3.cell? ⟨w1.heap.size, 0, none⟩ = some (.int .u32 4096) := (blk_facts kx3).1 0
 have q1 : w3.cell? ⟨w1.heap.size, 1, none⟩ = some (.slice (some ⟨g, o, none⟩) 3 cap) := (blk_facts kx3).1 1
 have q2 : w3.cell? ⟨w1.heap.size, 2, none⟩ = some (.slice (some ⟨g', o', none⟩) 1 cap') := (blk_facts kx3).1 2
 have zx := blk_size kx3
 have HBW3 := Lib.hid hbw3
 have HB3 := Lib.hid hB3
 have HKX3 := Lib.hid kx3
 clear hb3 kx3 hbw3 hB3
 go_wp2_with fail
 refine (HDC.out _ HBW3.out (hL.below HB3.out) (hH.below HB3.out)).mono ?_
 rintro e w4 ⟨rfl, hb4⟩
 have kx4 := blk_keep hb4 HKX3.out
 have hbw4 := below_next HBW3.out hb4
 have hB4 := below_next HB3.out hb4
 have r1 : w4.cell? ⟨w1.heap.size, 1, none⟩ = some (.slice (some ⟨g, o, none⟩) 3 cap) := (blk_facts kx4).1 1
 have r2 : w4.cell? ⟨w1.heap.size, 2, none⟩ = some (.slice (some ⟨g', o', none⟩) 1 cap') := (blk_facts kx4).1 2
 have b2 : w4.cell? ⟨g, o + 2, none⟩ = some (.int .u32 3154116608) := (hbw4.cell (p := ⟨g, o + 2, none⟩) hg).trans a2
 have m0 : w4.cell? ⟨g', o', none⟩ = some (.string ⟨#[116, 111, 112]⟩) := (hbw4.cell (p := ⟨g', o', none⟩) hg').trans l0
 have m1 : w4.cell? ⟨g', o' + 1, none⟩ = some (.int .u32 4096) := (hbw4.cell (p := ⟨g', o' + 1, none⟩) hg').trans l1
 have zx4 := blk_size kx4
 have hgt : decide ((60 : Int) < (tx.length : Int)) = true := by simp; omega
 have HB4 := Lib.hid hB4
 clear hb4 kx4 hbw4 hB4 a1 a2 l0 l1 q0 q1 q2
 go_wp2_with fail
 go_ret
 exact ⟨rfl, HB4.out⟩
end Go.Proofs.YtabmlbnnhhpaoaaGreatDoor
set_option maxRecDepth 100000
namespace Go.Proofs.YtabmlbnnhhpaoaaGreatDoor
open Go.ChangeShapes Go.WideShapes Go.ChangeAt Go.RowKit
theorem own : ownKnob Tryz.prog.godebug = none := by kernel_rfl
def laid6 : List (String × DataW Unit) := (Rows.asmLinesRow).laid
theorem laid6_plain (W : World) : laidMetH Tryz.prog laid6 W = laidMet Tryz.prog laid6 W := MakeChecks.laidMetH_plain _ _ _ (by kernel_rfl)
theorem row_of_var {W : World} {nm : String} {g : Nat} {cs : Array Value} (hg : Tryz.prog.globalNamed nm = some g) (hv : W.var? Tryz.prog nm = some cs) : ∃ t fr, W.heap[g]? = some (.cells cs t fr) := by
 unfold World.var? at hv
 rw [hg, Option.bind_some] at hv
 split at hv
 · rename_i cs' t fr hh
   obtain rfl := Option.some.inj hv
   exact ⟨t, fr, hh⟩
 · cases hv
theorem quads {α : Type} : ∀ (n : Nat) (l : List α) (L : Nat → List α), l.length = n * 4 → (∀ i, i < n → (l.drop (i * 4)).take 4 = L i) → l = (List.range n).flatMap L
 | 0, l, L, hl, _ => by
  have : l = [] := List.length_eq_zero_iff.1 (by simpa using hl)
  simp [this]
 | n + 1, l, L, hl, h => by
  have h0 := h 0 (by omega)
  simp only [Nat.zero_mul, List.drop_zero] at h0
  have ih := quads n (l.drop 4) (fun i => L (i + 1)) (by simp; omega) (fun i hi => by
   have := h (i + 1) (by omega)
   rw [← this, List.drop_drop]
   congr 2
   omega)
  rw [List.range_succ_eq_map, List.flatMap_cons, ← h0, List.flatMap_map]
  exact (List.take_append_drop 4 l).symm.trans (congrArg (l.take 4 ++ ·) ih)
theorem of_laid {W : World} (h : laidMetH Tryz.prog laid6 W) : Isa.Laid W := by
 rw [laid6_plain] at h
 constructor
 · obtain ⟨g, t, cs, fuel, p, hg, ht, hv, hd⟩ := Lib.laidMet.reads h (n := _) (d := Rows.laid_cloister_isa_layouts) (.tail _ (.tail _ (.tail _ (.tail _ (.head _)))))
   obtain rfl : 0 = g := Option.some.inj ((show Tryz.prog.globalNamed _ = some 0 by kernel_rfl).symm.trans hg)
   obtain rfl : 156 = t := Option.some.inj ((show (Tryz.prog.globals[0]?).map (·.type) = some 156 by kernel_rfl).symm.trans ht)
   obtain ⟨ty, fr, hh⟩ := row_of_var hg hv
   refine ⟨ty, fr, ?_⟩
   obtain ⟨xs, m, rfl, hx, hl, hn, hel⟩ := DataW.trod_array Tryz.underlying156 hd
   have hl' : cs.toList.length = 9 * 4 := hl.trans (by kernel_rfl)
   have hxs : xs.map (·.1) = (List.range 9).map fun f => (DataW.agg ([Isa.atD f, Isa.atA f, Isa.atB f, (Isa.bits f : Int)].map fun z => .lit (.int .i64 z)) : DataW Unit) := by
    have := congrArg Prod.fst hx
    simp only [Rows.laid_cloister_isa_layouts, DataW.agg.injEq] at this
    rw [← this]
    rfl
   have key : ∀ i, i < 9 → (cs.toList.drop (i * 4)).take 4 = [Isa.atD i, Isa.atA i, Isa.atB i, (Isa.bits i : Int)].map fun z => Value.int .i64 z := by
    intro i hi
    have h1 := hel i hi
    have h2 : (xs.map (·.1))[i]? = some (DataW.agg ([Isa.atD i, Isa.atA i, Isa.atB i, (Isa.bits i : Int)].map fun z => .lit (.int .i64 z)) : DataW Unit) := by
     rw [hxs, List.getElem?_map, List.getElem?_range hi]
     rfl
    rw [List.getElem?_map, Option.map_eq_some_iff] at h2
    obtain ⟨⟨d, pp⟩, h3, h4⟩ := h2
    have h5 : d = _ := h4
    subst h5
    rw [h3] at h1
    have e4 : Tryz.prog.cellsOf 155 = 4 := by kernel_rfl
    rw [e4] at h1
    exact Lib.ints_of_struct Tryz.underlying155 (fun j f hf => by
     match j, hf with
     | 0, hf => obtain rfl := Option.some.inj hf; exact ⟨Tryz.underlying3, rfl, by kernel_rfl⟩
     | 1, hf => obtain rfl := Option.some.inj hf; exact ⟨Tryz.underlying3, rfl, by kernel_rfl⟩
     | 2, hf => obtain rfl := Option.some.inj hf; exact ⟨Tryz.underlying3, rfl, by kernel_rfl⟩
     | 3, hf => obtain rfl := Option.some.inj hf; exact ⟨Tryz.underlying3, rfl, by kernel_rfl⟩
     | n + 4, hf => cases hf) (by kernel_rfl) h1
   have hc : cs.toList = (List.range 9).flatMap fun i => [Isa.atD i, Isa.atA i, Isa.atB i, (Isa.bits i : Int)].map fun z => Value.int .i64 z := quads 9 _ _ hl' key
   have hcs : cs = Isa.layCells := by
    apply Array.toList_inj.1
    rw [hc]
    rfl
   rw [hh, hcs]
 · obtain ⟨g, t, cs, fuel, p, hg, ht, hv, hd⟩ := Lib.laidMet.reads h (n := _) (d := Rows.laid_internal_strconv_uint64pow10) (.tail _ (.tail _ (.head _)))
   obtain rfl : 4 = g := Option.some.inj ((show Tryz.prog.globalNamed _ = some 4 by kernel_rfl).symm.trans hg)
   obtain rfl : 246 = t := Option.some.inj ((show (Tryz.prog.globals[4]?).map (·.type) = some 246 by kernel_rfl).symm.trans ht)
   obtain ⟨ty, fr, hh⟩ := row_of_var hg hv
   refine ⟨ty, fr, ?_⟩
   have e := Lib.cells_of_tab (zs := Lib.pow10Tab) Tryz.underlying246 Tryz.underlying141 (by kernel_rfl) (by kernel_rfl) hd
   rw [hh, ← e]
theorem hex_of_laid {W : World} (h : laidMetH Tryz.prog laid6 W) : Hex.Laid W := by
 rw [laid6_plain] at h
 constructor
 obtain ⟨g, t, cs, fuel, p, hg, ht, hv, hd⟩ := Lib.laidMet.reads h (n := _) (d := Rows.laid_math_bits_deBruijn64tab) (.tail _ (.head _))
 obtain rfl : 6 = g := Option.some.inj ((show Tryz.prog.globalNamed _ = some 6 by kernel_rfl).symm.trans hg)
 obtain rfl : 256 = t := Option.some.inj ((show (Tryz.prog.globals[6]?).map (·.type) = some 256 by kernel_rfl).symm.trans ht)
 obtain ⟨ty, fr, hh⟩ := row_of_var hg hv
 refine ⟨ty, fr, cs, hh, ?_⟩
 have e := Lib.cells_of_tab (k := .u8) (zs := [0, 1, 56, 2, 57, 49, 28, 3, 61, 58, 42, 50, 38, 29, 17, 4, 62, 47, 59, 36, 45, 43, 51, 22, 53, 39, 33, 30, 24, 18, 12, 5, 63, 55, 48, 27, 60, 41, 37, 16, 46, 35, 44, 21, 52, 32, 23, 11, 54, 26, 40, 15, 34, 20, 31, 10, 25, 14, 19, 9, 13, 8, 7, 6]) Tryz.underlying256 Tryz.underlying5 (by kernel_rfl) (by kernel_rfl) hd
 rw [← Array.getElem?_toList, e]
 rfl
theorem laidOut : laidOutB Tryz.prog = true := by kernel_rfl
theorem trod_back {H : Type} {enc : TypeId × Value → H} {t : TypeId} (hr : Tryz.prog.readableRec t = true) (ht : decide (t < Tryz.prog.types.size) = true) {W W' : World} {v : Value} {d : DataW H} {ps : List MemPlace}
 (h : DataW.Trod enc Tryz.prog W 0 (fun _ => true) true t v d ps) (hb : Below W.heap.size W W') : DataW.Trod enc Tryz.prog W' 0 (fun b => decide (b < W.heap.size)) true t v d ps :=
 Below.trod laidOut hr (of_decide_eq_true ht) h hb (by obtain ⟨m, hm⟩ := h; exact DataW.trod_lt m _ _ _ hm)
theorem lay_met (os : Os) (args : Array Value) : laidMetH Tryz.prog laid6 ((World.laidAll Tryz.prog os laid6).forCall (fun _ _ => 0) ⟨#[], args, []⟩).memory := by
 rw [laid6_plain]
 exact laidMet_laidAll _ (by kernel_rfl) (by kernel_rfl)
end Go.Proofs.YtabmlbnnhhpaoaaGreatDoor
