/- What this claim needs of RenWalk, RenOpen, AsmRenamedRow. -/
import Derived.Test.YtabmlbnnhhpaoaaGreatDoorDMAsmKnownG
import Derived.Test.YtabmlbnnhhpaoaaGreatDoorDMRenG2
import Derived.Test.YtabmlbnnhhpaoaaGreatDoorDMAsmBackTop
import Derived.Test.YtabmlbnnhhpaoaaGreatDoorCards
import Derived.Test.YtabmlbnnhhpaoaaGreatDoorTie
import Derived.SevenTiedAt
set_option linter.unusedSimpArgs false
set_option linter.unusedVariables false
set_option maxHeartbeats 4000000
set_option maxRecDepth 100000
namespace Go.Proofs.YtabmlbnnhhpaoaaGreatDoor
open Go.RowKit Go.Shelf
theorem Asm.ren_made {N : Nat → List UInt8} (hN : Asm.NamesOk N) (r : List Asm.Raw) (hr : r.length ≤ 60) (w : World) (hL : Isa.Laid w) {ls : List Asm.Ln} {ks : List Nat} (els : Asm.lnsOf r 0 (List.replicate 5 false) = ls) (eks : Asm.ksOf (Asm.sbEnd r (List.replicate 5 false)) 0 = ks) :
 Calls Tryz.prog 13 #[.string ⟨(Asm.renText N ls ks).toArray⟩] w fun e w' => (∃ vW vL, e = .returned (.tuple #[.agg #[.int .u32 0, vW, vL], .int .i64 0, .int .i64 0]) ∧ w'.ownsRow w.heap.size 23 1 vW (Asm.allWords ls ks).length ((Asm.allWords ls ks).map Asm.word32) ∧ w'.ownsRow w.heap.size 42 2 vL (Asm.renLabs N ls ks).length ((Asm.renLabs N ls ks).flatMap Asm.labCells)) ∧ Below w.heap.size w w' := by
 obtain ⟨h1, h2, h3, h4⟩ := Asm.news_all r
 rw [els, eks] at h1 h3 h4
 rw [eks] at h2
 have hkl : ks.length ≤ 5 := by rw [List.length_append] at h4; omega
 have hll := Asm.lnsOf_len r 0 (List.replicate 5 false)
 rw [els] at hll
 exact ren_assemble hN ls ks (by rw [← els]; exact Asm.lnsOf_ok r 0 _) (by omega) h2 h1 h3 hkl w hL
theorem Asm.ren_five (N : Nat → List UInt8) (r : List Asm.Raw) {ls : List Asm.Ln} {ks : List Nat} (els : Asm.lnsOf r 0 (List.replicate 5 false) = ls) (eks : Asm.ksOf (Asm.sbEnd r (List.replicate 5 false)) 0 = ks) : (Asm.allLabs ls ks).length = 5 ∧ (Asm.renLabs N ls ks).length = 5 := by
 obtain ⟨_, _, _, h4⟩ := Asm.news_all r
 rw [els, eks, List.length_append, List.length_map] at h4
 have h : (Asm.allLabs ls ks).length = 5 := by unfold Asm.allLabs; rw [List.length_append, List.length_map]; exact h4
 exact ⟨h, by unfold Asm.renLabs; rw [List.length_map]; exact h⟩
structure Asm.Imgs (w : World) (vW vL : Value) (ws : List Int) (ls : List (Nat × Nat)) : Prop where
 words : ∃ p c, vW = .slice p ws.length c ∧ (ws.length ≠ 0 → ∃ g o, p = some ⟨g, o, none⟩ ∧ g < w.heap.size ∧ ws.length ≤ c ∧ ∀ i x, ws[i]? = some x → w.cell? ⟨g, o + i, none⟩ = some (.int .u32 x))
 small : ws.length ≤ maxLen
 labs : ∃ g o c, vL = .slice (some ⟨g, o, none⟩) 5 c ∧ g < w.heap.size ∧ 5 ≤ c ∧ ∀ i x, ls[i]? = some x → w.cell? ⟨g, o + (i * 2 + 1), none⟩ = some (.int .u32 (x.2 : Int))
theorem Asm.imgs_of {N : Nat → List UInt8} {w : World} {T1 T2 : TypeId} {vW vL : Value} {ls : List Asm.Ln} {ks : List Nat} (h5 : (Asm.renLabs N ls ks).length = 5) (h1 : Asm.RowView w T1 vW (Asm.allWords ls ks).length ((Asm.allWords ls ks).map Asm.word32)) (h2 : Asm.RowView w T2 vL (Asm.renLabs N ls ks).length ((Asm.renLabs N ls ks).flatMap Asm.labCells)) : Asm.Imgs w vW vL (Asm.allWords ls ks) (Asm.allLabs ls ks) := by
 refine ⟨?_, by obtain ⟨p, c, e, k1, k2, k3⟩ := h1; omega, ?_⟩
 · obtain ⟨p, c, e, k1, k2, k3⟩ := id h1
   refine ⟨p, c, e, fun hn => ?_⟩
   obtain ⟨g, o, cap, ep, c1, c2, hg, hc⟩ := h1.cells hn
   rw [e] at ep
   injection ep with e1 e2 e3
   exact ⟨g, o, e1, hg, by omega, fun i x hx => hc i _ (by rw [List.getElem?_map, hx]; rfl)⟩
 · obtain ⟨g, o, cap, ep, c1, c2, hg, hc⟩ := h2.cells (by omega)
   rw [h5] at ep c1
   refine ⟨g, o, cap, ep, hg, c1, fun i x hx => hc _ _ ?_⟩
   exact (Asm.labs_at (Asm.renLabs N ls ks) i (N x.1, x.2) (by unfold Asm.renLabs; rw [List.getElem?_map, hx]; rfl)).2
theorem Asm.Imgs.below {w w' : World} {vW vL : Value} {ws : List Int} {ls : List (Nat × Nat)} (h : Asm.Imgs w vW vL ws ls) (hb : Below w.heap.size w w') : Asm.Imgs w' vW vL ws ls := by
 refine ⟨?_, h.small, ?_⟩
 · obtain ⟨p, c, e, k⟩ := h.words
   refine ⟨p, c, e, fun hn => ?_⟩
   obtain ⟨g, o, e1, hg, hc, k⟩ := k hn
   exact ⟨g, o, e1, Nat.lt_of_lt_of_le hg hb.size, hc, fun i x hx => (hb.cell (p := ⟨g, o + i, none⟩) hg).trans (k i x hx)⟩
 · obtain ⟨g, o, c, e, hg, hc, k⟩ := h.labs
   exact ⟨g, o, c, e, Nat.lt_of_lt_of_le hg hb.size, hc, fun i x hx => (hb.cell (p := ⟨g, o + (i * 2 + 1), none⟩) hg).trans (k i x hx)⟩
theorem Asm.Imgs.shape {w : World} {vW vL : Value} {ws : List Int} {ls : List (Nat × Nat)} (h : Asm.Imgs w vW vL ws ls) : ∃ p c g o d, vW = .slice p ws.length c ∧ vL = .slice (some ⟨g, o, none⟩) 5 d := by
 obtain ⟨⟨p, c, e, _⟩, _, g, o, d, e2, _⟩ := h
 exact ⟨p, c, g, o, d, e, e2⟩
theorem Asm.Imgs.facts {w : World} {p : Option Addr} {n c g o d : Nat} {ws : List Int} {ls : List (Nat × Nat)} (h : Asm.Imgs w (.slice p n c) (.slice (some ⟨g, o, none⟩) 5 d) ws ls) : (ws.length ≠ 0 → ∃ g o, p = some ⟨g, o, none⟩ ∧ g < w.heap.size ∧ ws.length ≤ c ∧ ∀ i x, ws[i]? = some x → w.cell? ⟨g, o + i, none⟩ = some (.int .u32 x)) ∧ g < w.heap.size ∧ 5 ≤ d ∧ ∀ i x, ls[i]? = some x → w.cell? ⟨g, o + (i * 2 + 1), none⟩ = some (.int .u32 (x.2 : Int)) := by
 obtain ⟨⟨p', c', e, k⟩, _, g', o', d', e2, k2⟩ := h
 injection e with e1 _ e3
 injection e2 with e4 _ e5
 injection e4 with e4
 injection e4 with e6 e7
 subst e1 e3 e5 e6 e7
 exact ⟨k, k2⟩
theorem asmRenamed_walk {T : TypeId} (zs : List Asm.Raw) (lv : Value) (w : World) (hz : ∀ x ∈ zs, (-9223372036854775808 ≤ x.1 ∧ x.1 ≤ 9223372036854775807) ∧ (-9223372036854775808 ≤ x.2.1 ∧ x.2.1 ≤ 9223372036854775807)) (hl : Asm.RowView w T lv zs.length (zs.flatMap Asm.rawCells)) (hL : Isa.Laid w) (hH : Hex.Laid w) :
 Calls Tryz.prog 10 #[lv] w fun e w' => e = .returned (.bool true) ∧ Below w.heap.size w w' := by
 obtain ⟨ls, hls⟩ : ∃ ls, Asm.lnsOf (zs.take 60) 0 (List.replicate 5 false) = ls := ⟨_, rfl⟩
 obtain ⟨ks, hks⟩ : ∃ ks, Asm.ksOf (Asm.sbEnd (zs.take 60) (List.replicate 5 false)) 0 = ks := ⟨_, rfl⟩
 have hr60 : (zs.take 60).length ≤ 60 := by rw [List.length_take]; omega
 have hw1 := fun nb W hW h => written_calls (T := T) Asm.rn1 Asm.names1 zs lv nb W hz (hl.below hW) h
 have hw2 := fun nb W hW h => written_calls (T := T) Asm.rn2 Asm.names2 zs lv nb W hz (hl.below hW) h
 have ha1 := fun W hW => Asm.ren_made Asm.names1 (zs.take 60) hr60 W hW hls hks
 have ha2 := fun W hW => Asm.ren_made Asm.names2 (zs.take 60) hr60 W hW hls hks
 obtain ⟨h51, hf1⟩ := Asm.ren_five Asm.rn1 (zs.take 60) hls hks
 obtain ⟨_, hf2⟩ := Asm.ren_five Asm.rn2 (zs.take 60) hls hks
 rw [hls, hks] at hw1 hw2
 obtain ⟨A, hA⟩ : ∃ A, Asm.renText Asm.rn1 ls ks = A := ⟨_, rfl⟩
 obtain ⟨B, hB⟩ : ∃ B, Asm.renText Asm.rn2 ls ks = B := ⟨_, rfl⟩
 rw [hA] at hw1 ha1
 rw [hB] at hw2 ha2
 have hi1 := fun W T1 T2 vW vL => Asm.imgs_of (N := Asm.rn1) (w := W) (T1 := T1) (T2 := T2) (vW := vW) (vL := vL) hf1
 have hi2 := fun W T1 T2 vW vL => Asm.imgs_of (N := Asm.rn2) (w := W) (T1 := T1) (T2 := T2) (vW := vW) (vL := vL) hf2
 obtain ⟨ws, hws⟩ : ∃ ws, Asm.allWords ls ks = ws := ⟨_, rfl⟩
 obtain ⟨la, hla⟩ : ∃ la, Asm.allLabs ls ks = la := ⟨_, rfl⟩
 rw [hws] at ha1 ha2 hi1 hi2
 rw [hla] at hi1 hi2 h51
 have HW1 := Lib.hid hw1
 have HW2 := Lib.hid hw2
 have HA1 := Lib.hid ha1
 have HA2 := Lib.hid ha2
 have HI1 := Lib.hid hi1
 have HI2 := Lib.hid hi2
 have H5 := Lib.hid h51
 obtain ⟨pl, cl, rfl⟩ : ∃ p c, lv = .slice p zs.length c := by obtain ⟨p, c, e, _⟩ := hl; exact ⟨p, c, e⟩
 clear hw1 hw2 ha1 ha2 hi1 hi2 h51 hA hB hws hla hls hks hf1 hf2 hl hz hr60
 go_enter Tryz.func10, Tryz.ntmps10
 go_wp2_with fail
 refine (known_calls _ hL hH).mono ?_
 rintro e w1 ⟨rfl, b1⟩
 obtain ⟨W1, hW1⟩ : ∃ W, w1.alloc (.cells #[.string ⟨#[97]⟩, .string ⟨#[98]⟩, .string ⟨#[99]⟩, .string ⟨#[100]⟩, .string ⟨#[101]⟩] 9) = W := ⟨_, rfl⟩
 have bW1 := hW1 ▸ below_alloc' b1 (.cells #[.string ⟨#[97]⟩, .string ⟨#[98]⟩, .string ⟨#[99]⟩, .string ⟨#[100]⟩, .string ⟨#[101]⟩] 9)
 have k1 : W1.heap[w1.heap.size]? = _ := hW1 ▸ heap_alloc_new w1 (.cells #[.string ⟨#[97]⟩, .string ⟨#[98]⟩, .string ⟨#[99]⟩, .string ⟨#[100]⟩, .string ⟨#[101]⟩] 9)
 go_wp2_with fail
 try rw [hW1]
 clear hW1
 refine (HW1.out _ W1 bW1 k1).mono ?_
 rintro e w2 ⟨rfl, hb2⟩
 have b2 := below_next bW1 hb2
 clear hb2 k1 bW1 b1
 obtain ⟨W2, hW2⟩ : ∃ W, w2.alloc (.cells #[.string ⟨#[116, 111, 112]⟩, .string ⟨#[114, 49, 54]⟩, .string ⟨#[97, 100, 100]⟩, .string ⟨#[95]⟩, .string ⟨#[65, 98, 99, 100, 101, 102, 103, 104, 105, 106, 107, 108, 109, 110, 95, 49]⟩] 9) = W := ⟨_, rfl⟩
 have bW2 := hW2 ▸ below_alloc' b2 (.cells #[.string ⟨#[116, 111, 112]⟩, .string ⟨#[114, 49, 54]⟩, .string ⟨#[97, 100, 100]⟩, .string ⟨#[95]⟩, .string ⟨#[65, 98, 99, 100, 101, 102, 103, 104, 105, 106, 107, 108, 109, 110, 95, 49]⟩] 9)
 have k2 : W2.heap[w2.heap.size]? = _ := hW2 ▸ heap_alloc_new w2 (.cells #[.string ⟨#[116, 111, 112]⟩, .string ⟨#[114, 49, 54]⟩, .string ⟨#[97, 100, 100]⟩, .string ⟨#[95]⟩, .string ⟨#[65, 98, 99, 100, 101, 102, 103, 104, 105, 106, 107, 108, 109, 110, 95, 49]⟩] 9)
 go_wp2_with fail
 try rw [hW2]
 clear hW2
 refine (HW2.out _ W2 bW2 k2).mono ?_
 rintro e w3 ⟨rfl, hb3⟩
 have b3 := below_next bW2 hb3
 clear hb3 k2 bW2 b2
 go_wp2_with fail
 refine (HA1.out w3 (hL.below b3)).mono ?_
 rintro e w4 ⟨⟨vW, vL, rfl, h1, h2⟩, hb4⟩
 have i1 := HI1.out _ _ _ _ _ (Asm.RowView.of_row h1) (Asm.RowView.of_row h2)
 have b4 := below_next b3 hb4
 clear hb4 h1 h2 b3
 obtain ⟨p1, c1, g1, o1, d1, rfl, rfl⟩ := i1.shape
 have I1 := Lib.hid i1
 clear i1
 obtain ⟨W4, hW4⟩ : ∃ W, w4.alloc (.cells #[.int .u32 0, .slice p1 ws.length c1, .slice (some ⟨g1, o1, none⟩) 5 d1] 27) = W := ⟨_, rfl⟩
 have bW4 : Below w4.heap.size w4 W4 := hW4 ▸ below_alloc' (Below.refl _ _) _
 have k4 : W4.heap[w4.heap.size]? = _ := hW4 ▸ heap_alloc_new w4 (.cells #[.int .u32 0, .slice p1 ws.length c1, .slice (some ⟨g1, o1, none⟩) 5 d1] 27)
 go_wp2_with fail
 try rw [hW4]
 clear hW4
 have b4' := below_next b4 bW4
 refine (HA2.out W4 (hL.below b4')).mono ?_
 rintro e w5 ⟨⟨uW, uL, rfl, h1, h2⟩, hb5⟩
 have i2 := HI2.out _ _ _ _ _ (Asm.RowView.of_row h1) (Asm.RowView.of_row h2)
 obtain ⟨p2, c2, g2, o2, d2, rfl, rfl⟩ := i2.shape
 have sm := i2.small
 unfold maxLen at sm
 obtain ⟨W5, hW5⟩ : ∃ W, w5.alloc (.cells #[.int .u32 0, .slice p2 ws.length c2, .slice (some ⟨g2, o2, none⟩) 5 d2] 27) = W := ⟨_, rfl⟩
 have bW5 : Below w5.heap.size w5 W5 := hW5 ▸ below_alloc' (Below.refl _ _) _
 have k5 : W5.heap[w5.heap.size]? = _ := hW5 ▸ heap_alloc_new w5 (.cells #[.int .u32 0, .slice p2 ws.length c2, .slice (some ⟨g2, o2, none⟩) 5 d2] 27)
 have b45 := below_next hb5 bW5
 have b5 := below_next (below_next b4' hb5) bW5
 have k4' := blk_keep b45 k4
 obtain ⟨X1, z1, y1, L1⟩ := ((I1.out.below bW4).below b45).facts
 obtain ⟨X2, z2, y2, L2⟩ := (i2.below bW5).facts
 have zz := hb5.size
 have za := blk_size k4
 have k45 := blk_keep hb5 k4
 have r0 : w5.cell? ⟨w4.heap.size, 0, none⟩ = some (.int .u32 0) := (blk_facts k45).1 0
 have r1 : w5.cell? ⟨w4.heap.size, 1, none⟩ = some (.slice p1 ws.length c1) := (blk_facts k45).1 1
 have r2 : w5.cell? ⟨w4.heap.size, 2, none⟩ = some (.slice (some ⟨g1, o1, none⟩) 5 d1) := (blk_facts k45).1 2
 have zr := blk_size k45
 have m0 : W5.cell? ⟨w4.heap.size, 0, none⟩ = some (.int .u32 0) := (blk_facts k4').1 0
 have m1 : W5.cell? ⟨w4.heap.size, 1, none⟩ = some (.slice p1 ws.length c1) := (blk_facts k4').1 1
 have m2 : W5.cell? ⟨w4.heap.size, 2, none⟩ = some (.slice (some ⟨g1, o1, none⟩) 5 d1) := (blk_facts k4').1 2
 have n0 : W5.cell? ⟨w5.heap.size, 0, none⟩ = some (.int .u32 0) := (blk_facts k5).1 0
 have n1 : W5.cell? ⟨w5.heap.size, 1, none⟩ = some (.slice p2 ws.length c2) := (blk_facts k5).1 1
 have n2 : W5.cell? ⟨w5.heap.size, 2, none⟩ = some (.slice (some ⟨g2, o2, none⟩) 5 d2) := (blk_facts k5).1 2
 have zm := blk_size k4'
 have zn := blk_size k5
 have X := Lib.hid (And.intro X1 (And.intro X2 (And.intro L1 L2)))
 clear X1 X2 L1 L2 i2 hb5 h1 h2 b4 I1 bW4 bW5 k4 k5 k4' b45 b4' za zz k45
 clear HW1 HW2 HA1 HA2 HI1 HI2
 obtain ⟨n, hn⟩ : ∃ n, ws.length = n := ⟨_, rfl⟩
 have HN := Lib.hid hn
 rw [hn] at m1 n1 r1 hW5 sm ⊢
 clear hn
 go_wp2_with fail
 try rw [hW5]
 clear hW5 r0 r1 r2 zr
 obtain ⟨X1, X2, L1, L2⟩ := X.out
 rw [HN.out] at X1 X2
 have MM := Lib.hid (And.intro m1 (And.intro m2 (And.intro n1 n2)))
 have B5 := Lib.hid b5
 clear m0 m1 m2 n0 n1 n2 b5
 go_loopw [12] (fun v12 wr => ∃ (j : Nat), v12 = .int .i64 (j : Int) ∧ j ≤ n ∧ Below W5.heap.size W5 wr) (fun v _ => n - (intOf v).toNat)
 case atStart => exact ⟨0, rfl, Nat.zero_le _, Below.refl _ _⟩
 case round =>
  obtain ⟨j, rfl, hj, HB⟩ := hrel
  have zw := HB.size
  obtain ⟨m1, m2, n1, n2⟩ := MM.out
  have m1 := (HB.cell (p := ⟨w4.heap.size, 1, none⟩) zm).trans m1
  have m2 := (HB.cell (p := ⟨w4.heap.size, 2, none⟩) zm).trans m2
  have n1 := (HB.cell (p := ⟨w5.heap.size, 1, none⟩) zn).trans n1
  have n2 := (HB.cell (p := ⟨w5.heap.size, 2, none⟩) zn).trans n2
  by_cases hlt : j < n
  · obtain ⟨q1, s1, rfl, t1, u1, R1⟩ := X1 (by omega)
    obtain ⟨q2, s2, rfl, t2, u2, R2⟩ := X2 (by omega)
    obtain ⟨x, hx⟩ : ∃ x, ws[j]? = some x := ⟨_, List.getElem?_eq_getElem (by rw [HN.out]; exact hlt)⟩
    have e1 := (HB.cell (p := ⟨q1, s1 + j, none⟩) t1).trans (R1 j x hx)
    have e2 := (HB.cell (p := ⟨q2, s2 + j, none⟩) t2).trans (R2 j x hx)
    have HX := Lib.hid hx
    clear R1 R2 X1 X2 L1 L2 hx
    have zm' : w4.heap.size < wr.heap.size := by omega
    have zn' : w5.heap.size < wr.heap.size := by omega
    have t1' : q1 < wr.heap.size := by omega
    have t2' : q2 < wr.heap.size := by omega
    go_wp2_with fail
    go_quiet (fail)
    go_wp2_with fail
    go_roundw
    · exact ⟨j + 1, congrArg (Value.int .i64) (by omega), by omega, below_drewN' HB _⟩
    · simp [intOf]; omega
  · clear X1 X2
    have zm' : w4.heap.size < wr.heap.size := by omega
    have zn' : w5.heap.size < wr.heap.size := by omega
    go_wp2_with fail
    clear m1 m2 n1 n2
    have hb := HB
    have HB0 := Lib.hid HB
    clear HB zw
    go_loopw [13] (fun v13 wr' => ∃ (j : Nat), v13 = .int .i64 (j : Int) ∧ j ≤ 5 ∧ Below W5.heap.size W5 wr') (fun v _ => 5 - (intOf v).toNat)
    case atStart => exact ⟨0, rfl, Nat.zero_le _, hb⟩
    case round =>
     clear hb
     obtain ⟨k, rfl, hk, HB⟩ := hrel
     have zw := HB.size
     obtain ⟨m1, m2, n1, n2⟩ := MM.out
     have m2 := (HB.cell (p := ⟨w4.heap.size, 2, none⟩) zm).trans m2
     have n2 := (HB.cell (p := ⟨w5.heap.size, 2, none⟩) zn).trans n2
     clear m1 n1
     by_cases hlt : k < 5
     · obtain ⟨x, hx⟩ : ∃ x, la[k]? = some x := ⟨_, List.getElem?_eq_getElem (by rw [H5.out]; exact hlt)⟩
       have e1 := (HB.cell (p := ⟨g1, o1 + (k * 2 + 1), none⟩) z1).trans (L1 k x hx)
       have e2 := (HB.cell (p := ⟨g2, o2 + (k * 2 + 1), none⟩) z2).trans (L2 k x hx)
       rw [← Nat.add_assoc] at e1 e2
       have HX := Lib.hid hx
       clear L1 L2 hx
       have zm' := Nat.lt_of_lt_of_le zm zw
       have zn' := Nat.lt_of_lt_of_le zn zw
       have z1' := Nat.lt_of_lt_of_le z1 zw
       have z2' := Nat.lt_of_lt_of_le z2 zw
       go_wp2_with fail
       go_quiet (fail)
       go_wp2_with fail
       go_roundw
       · exact ⟨k + 1, congrArg (Value.int .i64) (by omega), by omega, below_drewN' HB _⟩
       · simp [intOf]; omega
     · go_wp2_with fail
       go_ret
       exact ⟨rfl, below_next B5.out HB⟩
end Go.Proofs.YtabmlbnnhhpaoaaGreatDoor
set_option maxRecDepth 100000
namespace Go.Proofs.YtabmlbnnhhpaoaaGreatDoor
open Go.Joins Go.ChangeShapes Go.WideShapes Go.ChangeAt Go.RowKit Go.Deep
namespace Asm
theorem raws_len : ∀ l : List Raw, (l.flatMap rawCells).length = l.length * 3
 | [] => rfl
 | x :: l => by rw [List.flatMap_cons, List.length_append, raws_len l, List.length_cons]; simp [rawCells]; omega
theorem raws_at : ∀ (zs : List Raw) (j : Nat) (x : Raw), zs[j]? = some x → (zs.flatMap rawCells)[j * 3]? = some (.int .i64 x.1) ∧ (zs.flatMap rawCells)[j * 3 + 1]? = some (.int .i64 x.2.1) ∧ (zs.flatMap rawCells)[j * 3 + 2]? = some (.int .i64 x.2.2)
 | [], j, x, h => by cases h
 | y :: l, 0, x, h => by simp at h; subst h; simp [rawCells]
 | y :: l, j + 1, x, h => by
  have := raws_at l j x (by simpa using h)
  rw [show (j + 1) * 3 = j * 3 + 3 by omega, List.flatMap_cons, List.getElem?_append_right (by simp [rawCells]), List.getElem?_append_right (by simp [rawCells]), List.getElem?_append_right (by simp [rawCells])]
  simp only [rawCells, List.length_cons, List.length_nil]
  rw [show j * 3 + 3 - (0 + 1 + 1 + 1) = j * 3 by omega, show j * 3 + 3 + 1 - (0 + 1 + 1 + 1) = j * 3 + 1 by omega, show j * 3 + 3 + 2 - (0 + 1 + 1 + 1) = j * 3 + 2 by omega]
  exact this
end Asm
theorem slice_of_okR {W : World} {b0 : Nat} {v : Value} (hok : Value.okWide Tryz.prog W .any b0 54 v) : ∃ p l c, v = .slice p l c := by
 unfold Value.okWide at hok
 rw [Tryz.underlying54] at hok
 simp only [] at hok
 unfold Cell.okWide at hok
 rw [Tryz.underlying54] at hok
 cases v <;> simp [Cell.ok, Tryz.underlying54] at hok ⊢
theorem open_raws {H : Type} {enc : TypeId × Value → H} {W : World} {base : Nat} {sp : Nat → Bool} {held : Bool} {v : Value} {d : DataW H} {p : List MemPlace} {b0 : Nat} (hok : Value.okWide Tryz.prog W .any b0 54 v) (h : DataW.Trod enc Tryz.prog W base sp held 54 v d p) :
 ∃ (zs : List Asm.Raw) (Tr : TypeId), (∀ x ∈ zs, (-9223372036854775808 ≤ x.1 ∧ x.1 ≤ 9223372036854775807) ∧ (-9223372036854775808 ≤ x.2.1 ∧ x.2.1 ≤ 9223372036854775807)) ∧ Asm.RowView W Tr v zs.length (zs.flatMap Asm.rawCells) := by
 obtain ⟨fuel, h⟩ := h
 obtain ⟨sp0, sl, sc, rfl⟩ := slice_of_okR hok
 rcases open_slice Tryz.underlying54 h with ⟨e, _⟩ | ⟨a, len, cap, m, n1, D, Pl, e, _, hl, hm, hmm, hy, hx⟩
 · obtain ⟨rfl, rfl, rfl⟩ : sp0 = none ∧ sl = 0 ∧ sc = 0 := by simpa [Value.cells] using e
   exact ⟨[], 0, by simp, ⟨none, 0, rfl, Nat.le_refl _, by decide, fun h => absurd rfl h⟩⟩
 · obtain ⟨rfl, rfl, rfl⟩ : some a = sp0 ∧ len = sl ∧ cap = sc := by
    simp [Value.cells] at e
    exact ⟨e.1.symm, e.2.1.symm, e.2.2.symm⟩
   have hlm : len ≤ m := by rw [hmm]; split <;> omega
   have hce : Tryz.prog.cellsOf 105 = 3 := by kernel_rfl
   have key : ∀ i, i < len → ∃ x : Asm.Raw, ((-9223372036854775808 ≤ x.1 ∧ x.1 ≤ 9223372036854775807) ∧ (-9223372036854775808 ≤ x.2.1 ∧ x.2.1 ≤ 9223372036854775807)) ∧ W.cell? (a.add (i * 3)) = some (.int .i64 x.1) ∧ W.cell? (a.add (i * 3 + 1)) = some (.int .i64 x.2.1) ∧ W.cell? (a.add (i * 3 + 2)) = some (.int .i64 x.2.2) := by
    intro i hi
    obtain ⟨cs', h1, h2⟩ := hx i (by omega)
    rw [hce] at h1
    obtain ⟨_, hlen, hcell⟩ := World.cells?_some h1
    obtain ⟨xs, k, hk, hxy, _, hxl, hf⟩ := DataW.trod_struct Tryz.underlying105 h2
    match xs, hxl, cs', hlen with
    | [y0, y1, y2], _, [v0, v1, v2], _ =>
     have g0 := hf 0 _ rfl
     have g1 := hf 1 _ rfl
     have g2 := hf 2 _ rfl
     have c1 : Tryz.prog.cellsOf 3 = 1 := by kernel_rfl
     simp [c1] at g0 g1 g2
     have e0 := hcell 0 (by omega)
     have e1 := hcell 1 (by omega)
     have e2 := hcell 2 (by omega)
     rw [add_add] at e0 e1 e2
     obtain ⟨q0, hq0, _, w0⟩ := DataW.trod_int Tryz.underlying3 g0
     obtain ⟨q1, hq1, _, w1⟩ := DataW.trod_int Tryz.underlying3 g1
     obtain ⟨q2, hq2, _, w2⟩ := DataW.trod_int Tryz.underlying3 g2
     obtain rfl : v0 = .int .i64 q0 := by simpa using hq0
     obtain rfl : v1 = .int .i64 q1 := by simpa using hq1
     obtain rfl : v2 = .int .i64 q2 := by simpa using hq2
     simp [Lit.wf, IntKind.min, IntKind.max, IntKind.signed, IntKind.bits] at w0 w1
     exact ⟨(q0, q1, q2), ⟨⟨by show _ ≤ q0; omega, by show q0 ≤ _; omega⟩, by show _ ≤ q1; omega, by show q1 ≤ _; omega⟩, by simpa using e0, by simpa using e1, by simpa using e2⟩
   obtain ⟨f, hf⟩ := choose_lt (α := Asm.Raw) key
   have hcells : ∀ (j : Nat) (u : Value), (((List.range len).map f).flatMap Asm.rawCells)[j]? = some u → W.cell? (a.add j) = some u := by
    intro j u hj
    have hjl : j < len * 3 := by
     have := (List.getElem?_eq_some_iff.1 hj).1
     rw [Asm.raws_len, List.length_map, List.length_range] at this
     exact this
    have hi : j / 3 < len := by omega
    have hat : ((List.range len).map f)[j / 3]? = some (f (j / 3)) := by simp [hi]
    obtain ⟨a0, a1, a2⟩ := Asm.raws_at _ _ _ hat
    obtain ⟨_, b0, b1, b2⟩ := hf (j / 3) hi
    have h3 : j = j / 3 * 3 ∨ j = j / 3 * 3 + 1 ∨ j = j / 3 * 3 + 2 := by omega
    rcases h3 with h | h | h
    · rw [show a.add j = a.add (j / 3 * 3) from congrArg _ h, b0]; exact a0.symm.trans ((congrArg _ h.symm).trans hj)
    · rw [show a.add j = a.add (j / 3 * 3 + 1) from congrArg _ h, b1]; exact a1.symm.trans ((congrArg _ h.symm).trans hj)
    · rw [show a.add j = a.add (j / 3 * 3 + 2) from congrArg _ h, b2]; exact a2.symm.trans ((congrArg _ h.symm).trans hj)
   obtain ⟨T, hT⟩ := Asm.RowView.of_cells a len cap 3 _ hl hm (by decide) (by rw [Asm.raws_len, List.length_map, List.length_range]) hcells
   refine ⟨(List.range len).map f, T, ?_, by rw [List.length_map, List.length_range]; exact hT⟩
   intro z hz
   obtain ⟨i, hi, rfl⟩ := List.mem_map.1 hz
   exact (hf i (List.mem_range.1 hi)).1
end Go.Proofs.YtabmlbnnhhpaoaaGreatDoor
set_option maxRecDepth 100000
namespace Go.Proofs.YtabmlbnnhhpaoaaGreatDoor
open Go.ChangeShapes Go.WideShapes Go.ChangeAt Go.RowKit
open Go.ChangeMaps (open_string)
theorem asmRenamed_lifted (os : Os) (started : os.Started) (H : Type) (enc : TypeId × Value → H) :
 ReturnsInHanded {} Tryz.checked os 10 .any (fun w args => (Rows.asmRenamedSpec.pre enc Tryz.prog Tryz.f10 [] false w args ∧ laidMetH Tryz.prog laid6 w) ∧ sizedMet enc Tryz.prog Tryz.f10 (OpenSpec.ofChange Rows.asmRenamedSpec) false w args)
  (Rows.asmRenamedSpec.post enc Tryz.prog Tryz.f10 false true false false) := by
 refine returnsInHanded_of_change_and (C := Tryz.checked) (X := fun w _ => laidMetH Tryz.prog laid6 w) (fun _ _ _ hh h => h.of_heap hh) own started (by kernel_rfl) Tryz.func10
  (ChangeSpec.witness_shaped (enc := enc) (C := Tryz.checked) (os := os) (X := fun w _ => laidMetH Tryz.prog laid6 w) false (World.laidAll Tryz.prog os laid6) #[.slice none 0 0] 8 (World.laidAll_os _ _ _) (World.shaped_of_ZipB (by kernel_rfl) (by kernel_rfl)) (by kernel_rfl) (by kernel_rfl) (by kernel_rfl) (lay_met os _)) ?_
 intro W base args ds gs before hval0 hW _ _ hL _
 have hval : ∀ (j : Nat) t v, Tryz.f10.params[j]? = some t → args[j]? = some v → Value.okWide Tryz.prog W .any base t v := hval0
 have hW' := hW
 obtain ⟨p, q, hA0, hV, rfl, hfz, hnd⟩ := hW
 have hA : DataW.TrodAll enc Tryz.prog W 0 (fun _ => true) true Tryz.f10.params.toList args.toList ds p := hA0
 rw [Tryz.params10] at hA hval
 obtain ⟨v0, d0, rfl, rfl, h0⟩ := trodAll_one hA
 obtain ⟨rfl, rfl⟩ := trodVars_none hV
 have b0 := h0
 obtain ⟨zs, T, hz, hv⟩ := open_raws (hval 0 54 v0 rfl rfl) h0
 have hLd := of_laid hL
 have hHd := hex_of_laid hL
 clear hA0 hval0
 refine (asmRenamed_walk zs v0 W hz hv hLd hHd).mono fun e W' ⟨he, bel⟩ => ?_
 subst he
 exact ⟨_, rfl, _, _, _, [], _, [], hW', trodAll_mk1 (shut_bool Tryz.underlying4 _), (trodAll_cons_mk (trod_back (by kernel_rfl) (by kernel_rfl) b0 bel) trodAll_mk0), rfl, bel.frame _, fun h => by cases h⟩
theorem asmRenamed_holds : Rows.AsmRenamedSaid :=
 OpenClaim.holds_of_wide 10 Tryz.f10 rfl rfl rfl rfl rfl rfl rfl ⟨rfl, rfl, rfl, rfl, rfl⟩ rfl rfl rfl rfl rfl (by kernel_rfl) Tryz.func10 (by kernel_rfl)
  (of_decide_eq_true (by kernel_rfl)) (by unfold Func.isWrapper; first | (rw [if_pos (by decide +kernel)]; kernel_rfl) | (rw [if_neg (by decide +kernel)]; exact ⟨rfl, rfl⟩))
  (fun os started H enc _ => asmRenamed_lifted os started H enc)
theorem asmRenamed_card_holds : Rows.AsmRenamedCardSaid :=
 Claim7.holds_tied_plain_at .later [] [.data, .data, .data, .data, .data, .pinned] true _ true
  asmRenamed_holds (fun _ h => by cases h) (by kernel_rfl) (fun _ h => by cases h) asmRenamed_row_tie rfl ⟨rfl, rfl⟩ (by kernel_rfl) rfl
  (fun f fn hf hfn => by
   obtain rfl : f = 10 := Option.some.inj ((show Tryz.prog.funcNamed _ = some 10 by kernel_rfl).symm.trans hf) |>.symm
   obtain rfl : fn = Tryz.f10 := (Option.some.inj (Tryz.func10.symm.trans hfn)).symm
   exact ⟨by kernel_rfl, fun j t ht => by
    rw [Tryz.params10] at ht
    have hm : t ∈ [54] := by simpa using Array.mem_of_getElem? ht
    have hall : ([54].all fun u => !Tryz.prog.wantsStandIn u) = true := by kernel_rfl
    exact (show Tryz.prog.wantsStandIn t = false by simpa using List.all_eq_true.1 hall t hm)⟩)
  (by kernel_rfl)
#print axioms asmRenamed_card_holds
end Go.Proofs.YtabmlbnnhhpaoaaGreatDoor
