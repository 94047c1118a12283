/- What this claim needs of AsmWordWalk, AsmWordRow. -/
import Derived.Test.YtabmlbnnhhpaoaaGreatDoorTMAsmKnownG
import Derived.Test.YtabmlbnnhhpaoaaGreatDoorTMAsmWordG
import Derived.Test.YtabmlbnnhhpaoaaGreatDoorCards
import Derived.Test.YtabmlbnnhhpaoaaGreatDoorTie
import Derived.SevenTiedAt
set_option linter.unusedSimpArgs false
set_option linter.unusedVariables false
set_option maxHeartbeats 1000000
set_option maxRecDepth 100000
namespace Go.Proofs.YtabmlbnnhhpaoaaGreatDoor
open Go.RowKit
theorem asmWord_walk (x at_ : Nat) (hx : x < 4294967296) (ha : at_ < 4294967296) (w : World) (hL : Isa.Laid w) (hH : Hex.Laid w) :
 Calls Tryz.prog 8 #[.int .u32 (x : Int), .int .u32 (at_ : Int)] w fun e w' => e = .returned (.bool true) ∧ Below w.heap.size w w' := by
 have h1 := fun W => line_calls x at_ hx ha W
 have h2 := fun W => word_assemble x at_ hx ha W
 obtain ⟨tx, htx⟩ : ∃ tx, Asm.lineText x at_ = tx := ⟨_, rfl⟩
 rw [htx] at h1 h2
 have H1 := Lib.hid h1
 have H2 := Lib.hid h2
 clear htx h1 h2
 go_enter Tryz.func8, Tryz.ntmps8
 go_wp2_with fail
 refine (known_calls _ hL hH).mono ?_
 rintro e w1 ⟨rfl, hb1⟩
 go_wp2_with fail
 refine (H1.out _ (hL.below hb1) (hH.below hb1)).mono ?_
 rintro e w2 ⟨rfl, hb2⟩
 have hb12 := below_next hb1 hb2
 go_wp2_with fail
 refine (H2.out _ (hL.below hb12)).mono ?_
 rintro e w3 ⟨⟨vW, lp, ln, lc, O, rfl, hrow⟩, hb3⟩
 have hb13 := below_next hb12 hb3
 obtain ⟨g, cap, rfl, hc1, hc2, hg, hcell⟩ := Asm.row_cells hrow (by decide)
 have c0 : w3.cell? ⟨g, 0, none⟩ = some (.int .u32 (x : Int)) := hcell 0 (by decide)
 clear hrow hcell
 go_wp2_with fail
 go_ret
 exact ⟨rfl, below_next hb13 (below_alloc' (Below.refl _ _) _)⟩
theorem asmWord_int (x a : Int) (hx0 : 0 ≤ x) (hx1 : x ≤ 4294967295) (ha0 : 0 ≤ a) (ha1 : a ≤ 4294967295) (w : World) (hL : Isa.Laid w) (hH : Hex.Laid w) :
 Calls Tryz.prog 8 #[.int .u32 x, .int .u32 a] w fun e w' => e = .returned (.bool true) ∧ Below w.heap.size w w' := by
 obtain ⟨n, rfl⟩ := Int.eq_ofNat_of_zero_le hx0
 obtain ⟨m, rfl⟩ := Int.eq_ofNat_of_zero_le ha0
 exact asmWord_walk n m (by omega) (by omega) w hL hH
end Go.Proofs.YtabmlbnnhhpaoaaGreatDoor
set_option maxRecDepth 100000
namespace Go.Proofs.YtabmlbnnhhpaoaaGreatDoor
open Go.ChangeShapes Go.WideShapes Go.ChangeAt Go.RowKit
open Go.ChangeMaps (open_string)
theorem asmWord_lifted (os : Os) (started : os.Started) (H : Type) (enc : TypeId × Value → H) :
 ReturnsInHanded {} Tryz.checked os 8 .any (fun w args => (Rows.asmWordSpec.pre enc Tryz.prog Tryz.f8 [] false w args ∧ laidMetH Tryz.prog laid6 w) ∧ sizedMet enc Tryz.prog Tryz.f8 (OpenSpec.ofChange Rows.asmWordSpec) false w args)
  (Rows.asmWordSpec.post enc Tryz.prog Tryz.f8 false true false false) := by
 refine returnsInHanded_of_change_and (C := Tryz.checked) (X := fun w _ => laidMetH Tryz.prog laid6 w) (fun _ _ _ hh h => h.of_heap hh) own started (by kernel_rfl) Tryz.func8
  (ChangeSpec.witness_shaped (enc := enc) (C := Tryz.checked) (os := os) (X := fun w _ => laidMetH Tryz.prog laid6 w) false (World.laidAll Tryz.prog os laid6) #[.int .u32 0, .int .u32 0] 8 (World.laidAll_os _ _ _) (World.shaped_of_ZipB (by kernel_rfl) (by kernel_rfl)) (by kernel_rfl) (by kernel_rfl) (by kernel_rfl) (lay_met os _)) ?_
 intro W base args ds gs before hval0 hW _ _ hL _
 have hval : ∀ (j : Nat) t v, Tryz.f8.params[j]? = some t → args[j]? = some v → Value.okWide Tryz.prog W .any base t v := hval0
 have hW' := hW
 obtain ⟨p, q, hA0, hV, rfl, hfz, hnd⟩ := hW
 have hA : DataW.TrodAll enc Tryz.prog W 0 (fun _ => true) true Tryz.f8.params.toList args.toList ds p := hA0
 rw [Tryz.params8] at hA hval
 obtain ⟨v0, v1, d0, d1, p0, p1, rfl, rfl, rfl, h0, h1⟩ := trodAll_two hA
 obtain ⟨rfl, rfl⟩ := trodVars_none hV
 have b0 := h0
 have b1 := h1
 obtain ⟨a0, rfl, rfl, rfl, w0⟩ := open_int Tryz.underlying23 (hval 0 23 v0 rfl rfl) h0
 obtain ⟨l0, u0⟩ : 0 ≤ a0 ∧ a0 ≤ 4294967295 := by
  simp [Lit.wf, IntKind.min, IntKind.max, IntKind.signed, IntKind.bits] at w0
  omega
 obtain ⟨a1, rfl, rfl, rfl, w1⟩ := open_int Tryz.underlying23 (hval 1 23 v1 rfl rfl) h1
 obtain ⟨l1, u1⟩ : 0 ≤ a1 ∧ a1 ≤ 4294967295 := by
  simp [Lit.wf, IntKind.min, IntKind.max, IntKind.signed, IntKind.bits] at w1
  omega
 have hLd := of_laid hL
 have hHd := hex_of_laid hL
 clear hA0 hval0
 refine (asmWord_int a0 a1 l0 u0 l1 u1 W hLd hHd).mono fun e W' ⟨he, bel⟩ => ?_
 subst he
 exact ⟨_, rfl, _, _, _, [], _, [], hW', trodAll_mk1 (shut_bool Tryz.underlying4 _), (trodAll_cons_mk (trod_back (by kernel_rfl) (by kernel_rfl) b0 bel) (trodAll_cons_mk (trod_back (by kernel_rfl) (by kernel_rfl) b1 bel) trodAll_mk0)), rfl, bel.frame _, fun h => by cases h⟩
theorem asmWord_holds : Rows.AsmWordSaid :=
 OpenClaim.holds_of_wide 8 Tryz.f8 rfl rfl rfl rfl rfl rfl rfl ⟨rfl, rfl, rfl, rfl, rfl⟩ rfl rfl rfl rfl rfl (by kernel_rfl) Tryz.func8 (by kernel_rfl)
  (of_decide_eq_true (by kernel_rfl)) (by unfold Func.isWrapper; first | (rw [if_pos (by decide +kernel)]; kernel_rfl) | (rw [if_neg (by decide +kernel)]; exact ⟨rfl, rfl⟩))
  (fun os started H enc _ => asmWord_lifted os started H enc)
theorem asmWord_card_holds : Rows.AsmWordCardSaid :=
 Claim7.holds_tied_plain_at .later [] [.data, .data, .data, .data, .data, .pinned] true _ true
  asmWord_holds (fun _ h => by cases h) (by kernel_rfl) (fun _ h => by cases h) asmWord_row_tie rfl ⟨rfl, rfl⟩ (by kernel_rfl) rfl
  (fun f fn hf hfn => by
   obtain rfl : f = 8 := Option.some.inj ((show Tryz.prog.funcNamed _ = some 8 by kernel_rfl).symm.trans hf) |>.symm
   obtain rfl : fn = Tryz.f8 := (Option.some.inj (Tryz.func8.symm.trans hfn)).symm
   exact ⟨by kernel_rfl, fun j t ht => by
    rw [Tryz.params8] at ht
    have hm : t ∈ [23, 23] := by simpa using Array.mem_of_getElem? ht
    have hall : ([23, 23].all fun u => !Tryz.prog.wantsStandIn u) = true := by kernel_rfl
    exact (show Tryz.prog.wantsStandIn t = false by simpa using List.all_eq_true.1 hall t hm)⟩)
  (by kernel_rfl)
#print axioms asmWord_card_holds
end Go.Proofs.YtabmlbnnhhpaoaaGreatDoor
