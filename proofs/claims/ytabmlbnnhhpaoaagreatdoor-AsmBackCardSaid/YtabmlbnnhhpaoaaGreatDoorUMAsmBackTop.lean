/- What this claim needs of AsmBackWalk, AsmBackRow. -/
import Derived.Test.YtabmlbnnhhpaoaaGreatDoorUMAsmKnownG
import Derived.Test.YtabmlbnnhhpaoaaGreatDoorUMBackG
import Derived.Test.YtabmlbnnhhpaoaaGreatDoorUMImgG
import Derived.Test.YtabmlbnnhhpaoaaGreatDoorCards
import Derived.Test.YtabmlbnnhhpaoaaGreatDoorTie
import Derived.SevenTiedAt
set_option linter.unusedSimpArgs false
set_option linter.unusedVariables false
set_option maxHeartbeats 2000000
set_option maxRecDepth 100000
namespace Go.Proofs.YtabmlbnnhhpaoaaGreatDoor
open Go.RowKit
theorem asmBack_walk {Tw Tl : TypeId} (o : Nat) (ws : List Nat) (ls : List Asm.Lab) (wv lv : Value) (w : World) (ho : o < 4294967296) (hws : ∀ x ∈ ws, x < 4294967296) (hww : Asm.RowView w Tw wv ws.length (ws.map Asm.wordCells)) (hlv : Asm.RowView w Tl lv ls.length (ls.flatMap Asm.labCells))
 (hls : ∀ x ∈ ls, x.1.length ≤ 9223372036854775806 ∧ x.2 < 4294967296) (hll : ls.length * 24 ≤ 140737488351232) (hwl : ws.length ≤ 140737488355328) (hL : Isa.Laid w) (hH : Hex.Laid w) :
 Calls Tryz.prog 6 #[.agg #[.int .u32 (o : Int), wv, lv]] w fun e w' => e = .returned (.bool true) ∧ Below w.heap.size w w' := by
 obtain ⟨pw, cw, rfl⟩ : ∃ p c, wv = .slice p ws.length c := by obtain ⟨p, c, e, _⟩ := hww; exact ⟨p, c, e⟩
 obtain ⟨pl, cl, rfl⟩ : ∃ p c, lv = .slice p ls.length c := by obtain ⟨p, c, e, _⟩ := hlv; exact ⟨p, c, e⟩
 have hD := fun W (hb : Below w.heap.size w W) => dis_calls o ws ls _ _ W ho hws (by omega) (hww.below hb) (hlv.below hb) hls (by omega) (hL.below hb) (hH.below hb)
 have b0 : Below w.heap.size w (w.alloc (.cells #[.int .u32 (o : Int), .slice pw ws.length cw, .slice pl ls.length cl] 27)) := below_alloc' (Below.refl _ _) _
 have k0 := heap_alloc_new w (.cells #[.int .u32 (o : Int), .slice pw ws.length cw, .slice pl ls.length cl] 27)
 have HD := Lib.hid hD
 have HW := Lib.hid hww
 have HLV := Lib.hid hlv
 clear hD hww hlv
 go_enter Tryz.func6, Tryz.ntmps6
 go_wp2_with fail
 refine (known_calls _ (hL.below b0) (hH.below b0)).mono ?_
 rintro e w1 ⟨rfl, hb1⟩
 have b1 := below_next b0 hb1
 have k1 := blk_keep hb1 k0
 have c0 : w1.cell? ⟨w.heap.size, 0, none⟩ = some (.int .u32 (o : Int)) := (blk_facts k1).1 0
 have c1 : w1.cell? ⟨w.heap.size, 1, none⟩ = some (.slice pw ws.length cw) := (blk_facts k1).1 1
 have c2 : w1.cell? ⟨w.heap.size, 2, none⟩ = some (.slice pl ls.length cl) := (blk_facts k1).1 2
 have z1 := blk_size k1
 go_wp2_with fail
 refine (HD.out w1 b1).mono ?_
 rintro e w2 ⟨rfl, hb2⟩
 have b2 := below_next b1 hb2
 have k2 := blk_keep hb2 k1
 have c0 : w2.cell? ⟨w.heap.size, 0, none⟩ = some (.int .u32 (o : Int)) := (blk_facts k2).1 0
 have c1 : w2.cell? ⟨w.heap.size, 1, none⟩ = some (.slice pw ws.length cw) := (blk_facts k2).1 1
 have c2 : w2.cell? ⟨w.heap.size, 2, none⟩ = some (.slice pl ls.length cl) := (blk_facts k2).1 2
 have z2 := blk_size k2
 clear hb1 hb2 k1 b1 z1
 unfold Asm.dis
 cases hs : Asm.sound o ws.length ls with
 | false =>
  rw [if_neg (by simp)]
  go_wp2_with fail
  go_ret
  exact ⟨rfl, b2⟩
 | true =>
  rw [if_pos rfl]
  by_cases hlen : 20000 < (Asm.disText o ws ls).length
  · rw [if_pos hlen]
    go_wp2_with fail
    go_ret
    exact ⟨rfl, b2⟩
  · rw [if_neg hlen]
    have hA := back_assemble o ws ls ho hws (fun x hx => (hls x hx).2) hs (by omega) w2 (hL.below b2)
    obtain ⟨tx, htx⟩ : ∃ tx, Asm.disText o ws ls = tx := ⟨_, rfl⟩
    rw [htx] at hA ⊢
    have HA := Lib.hid hA
    clear hA htx hlen
    go_wp2_with fail
    refine HA.out.mono ?_
    rintro e w3 ⟨⟨vW, vL, rfl, h1, h2⟩, hb3⟩
    have b3 := below_next b2 hb3
    have k3 := blk_keep hb3 k2
    have c0 : w3.cell? ⟨w.heap.size, 0, none⟩ = some (.int .u32 (o : Int)) := (blk_facts k3).1 0
    have c1 : w3.cell? ⟨w.heap.size, 1, none⟩ = some (.slice pw ws.length cw) := (blk_facts k3).1 1
    have c2 : w3.cell? ⟨w.heap.size, 2, none⟩ = some (.slice pl ls.length cl) := (blk_facts k3).1 2
    have z3 := blk_size k3
    have hvW := Asm.RowView.of_row h1
    have hvL := Asm.RowView.of_row h2
    obtain ⟨p1, q1, rfl⟩ := Asm.row_slice h1
    obtain ⟨p2, q2, rfl⟩ := Asm.row_slice h2
    clear h1 h2 hb3 k2 b2 z2
    go_wp2_with fail
    have b4 : Below w3.heap.size w3 (w3.alloc (.cells #[.int .u32 (o : Int), .slice p1 ws.length q1, .slice p2 ls.length q2] 27)) := below_alloc' (Below.refl _ _) _
    have b34 := below_next b3 b4
    refine (same_calls o o ws ws ls ls _ _ _ _ _ (HW.out.below b34) (hvW.below b4) (HLV.out.below b34) (hvL.below b4) (by omega) (by omega) (by omega) (by omega)).mono ?_
    rintro e w5 ⟨rfl, hb5⟩
    rw [Asm.same_refl]
    go_wp2_with fail
    go_ret
    exact ⟨rfl, below_next b34 hb5⟩
end Go.Proofs.YtabmlbnnhhpaoaaGreatDoor
set_option maxRecDepth 100000
namespace Go.Proofs.YtabmlbnnhhpaoaaGreatDoor
open Go.ChangeShapes Go.WideShapes Go.ChangeAt Go.RowKit
theorem asmBack_lifted (os : Os) (started : os.Started) (H : Type) (enc : TypeId × Value → H) :
 ReturnsInHanded {} Tryz.checked os 6 .any (fun w args => (Rows.asmBackSpec.pre enc Tryz.prog Tryz.f6 [] false w args ∧ laidMetH Tryz.prog laid6 w) ∧ sizedMet enc Tryz.prog Tryz.f6 (OpenSpec.ofChange Rows.asmBackSpec) false w args)
  (Rows.asmBackSpec.post enc Tryz.prog Tryz.f6 false true false false) := by
 refine returnsInHanded_of_change_and (C := Tryz.checked) (X := fun w _ => laidMetH Tryz.prog laid6 w) (fun _ _ _ hh h => h.of_heap hh) own started (by kernel_rfl) Tryz.func6
  (ChangeSpec.witness_shaped (enc := enc) (C := Tryz.checked) (os := os) (X := fun w _ => laidMetH Tryz.prog laid6 w) false (World.laidAll Tryz.prog os laid6) noImage 8 (World.laidAll_os _ _ _) (World.shaped_of_ZipB (by kernel_rfl) (by kernel_rfl)) (by kernel_rfl) (by kernel_rfl) (by kernel_rfl) (lay_met os _)) ?_
 intro W base args ds gs before hval0 hW _ hsz hL _
 have hval : ∀ (j : Nat) t v, Tryz.f6.params[j]? = some t → args[j]? = some v → Value.okWide Tryz.prog W .any base t v := hval0
 have hW' := hW
 obtain ⟨p, q, hA0, hV, rfl, hfz, hnd⟩ := hW
 have hA : DataW.TrodAll enc Tryz.prog W 0 (fun _ => true) true Tryz.f6.params.toList args.toList ds p := hA0
 rw [Tryz.params6] at hA hval hsz
 obtain ⟨v0, d0, rfl, rfl, h0⟩ := trodAll_one hA
 obtain ⟨rfl, rfl⟩ := trodVars_none hV
 have b0 := h0
 obtain ⟨o, ws, ls, wv, lv, Tw, Tl, rfl, ho, hws, hww, hlv, hls, hsized⟩ := open_image_sized (hval 0 27 v0 rfl rfl) h0
 obtain ⟨z1, z2, z3⟩ := hsized fun n hn => of_decide_eq_true ((List.all_eq_true.1 hsz) n (List.mem_append_left _ hn))
 have er : reachBytes = 140737488351232 := rfl
 have hLd := of_laid hL
 have hHd := hex_of_laid hL
 clear hA0 hval0
 refine (asmBack_walk o ws ls wv lv W ho hws hww hlv (fun x hx => ⟨by have := z1 x hx; omega, hls x hx⟩) (by omega) (by omega) hLd hHd).mono fun e W' ⟨he, bel⟩ => ?_
 subst he
 exact ⟨_, rfl, _, _, _, [], _, [], hW', trodAll_mk1 (shut_bool Tryz.underlying4 _), (trodAll_cons_mk (trod_back (by kernel_rfl) (by kernel_rfl) b0 bel) trodAll_mk0), rfl, bel.frame _, fun h => by cases h⟩
theorem asmBack_holds : Rows.AsmBackSaid :=
 OpenClaim.holds_of_wide 6 Tryz.f6 rfl rfl rfl rfl rfl rfl rfl ⟨rfl, rfl, rfl, rfl, rfl⟩ rfl rfl rfl rfl rfl (by kernel_rfl) Tryz.func6 (by kernel_rfl)
  (of_decide_eq_true (by kernel_rfl)) (by unfold Func.isWrapper; first | (rw [if_pos (by decide +kernel)]; kernel_rfl) | (rw [if_neg (by decide +kernel)]; exact ⟨rfl, rfl⟩))
  (fun os started H enc _ => asmBack_lifted os started H enc)
theorem asmBack_card_holds : Rows.AsmBackCardSaid :=
 Claim7.holds_tied_plain_at .later [] [.data, .data, .data, .data, .data, .pinned] true _ true
  asmBack_holds (fun _ h => by cases h) (by kernel_rfl) (fun _ h => by cases h) asmBack_row_tie rfl ⟨rfl, rfl⟩ (by kernel_rfl) rfl
  (fun f fn hf hfn => by
   obtain rfl : f = 6 := Option.some.inj ((show Tryz.prog.funcNamed _ = some 6 by kernel_rfl).symm.trans hf) |>.symm
   obtain rfl : fn = Tryz.f6 := (Option.some.inj (Tryz.func6.symm.trans hfn)).symm
   exact ⟨by kernel_rfl, fun j t ht => by
    rw [Tryz.params6] at ht
    have hm : t ∈ [27] := by simpa using Array.mem_of_getElem? ht
    have hall : ([27].all fun u => !Tryz.prog.wantsStandIn u) = true := by kernel_rfl
    exact (show Tryz.prog.wantsStandIn t = false by simpa using List.all_eq_true.1 hall t hm)⟩)
  (by kernel_rfl)
#print axioms asmBack_card_holds
end Go.Proofs.YtabmlbnnhhpaoaaGreatDoor
