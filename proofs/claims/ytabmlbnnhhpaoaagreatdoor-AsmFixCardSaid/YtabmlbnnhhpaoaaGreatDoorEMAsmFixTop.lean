/- What this claim needs of AsmFixWalk, AsmFixRow. -/
import Derived.Test.YtabmlbnnhhpaoaaGreatDoorEMAsmKnownG
import Derived.Test.YtabmlbnnhhpaoaaGreatDoorEMBackG
import Derived.Test.YtabmlbnnhhpaoaaGreatDoorEMImgG
import Derived.Test.YtabmlbnnhhpaoaaGreatDoorEMFixG
import Derived.SevenTiedAt
import Derived.Deep.DeepHandedRow
import Derived.Test.YtabmlbnnhhpaoaaGreatDoorCards
import Derived.Test.YtabmlbnnhhpaoaaGreatDoorTie
set_option linter.unusedSimpArgs false
set_option linter.unusedVariables false
set_option maxHeartbeats 4000000
set_option maxRecDepth 100000
namespace Go.Proofs.YtabmlbnnhhpaoaaGreatDoor
open Go.RowKit Go.Shelf
theorem assemble_long (src : List UInt8) (hlen : 20000 < src.length) (hle : src.length ≤ 9223372036854775806) (w : World) :
 Calls Tryz.prog 13 #[.string ⟨src.toArray⟩] w fun e w' => e = .returned (.tuple #[.agg #[.int .u32 0, .slice none 0 0, .slice none 0 0], .int .i64 110, .int .i64 0]) ∧ Below w.heap.size w w' := by
 have hsz : (⟨src.toArray⟩ : ByteArray).size = src.length := by simp [ByteArray.size]
 have hli : (20000 : Int) < (src.length : Int) := by omega
 go_enter Tryz.func13, Tryz.ntmps13
 go_wp2_with fail
 have k1 := blk_alloc (.cells #[.int .i64 0] 3) (blk_alloc (.cells #[.int .i64 110] 35) (heap_alloc_new w (.cells #[.int .u32 0, .slice none 0 0, .slice none 0 0] 27)))
 have k2 := blk_alloc (.cells #[.int .i64 0] 3) (heap_alloc_new (w.alloc (.cells #[.int .u32 0, .slice none 0 0, .slice none 0 0] 27)) (.cells #[.int .i64 110] 35))
 have k3 := heap_alloc_new ((w.alloc (.cells #[.int .u32 0, .slice none 0 0, .slice none 0 0] 27)).alloc (.cells #[.int .i64 110] 35)) (.cells #[.int .i64 0] 3)
 rw [alloc_size] at k2
 rw [alloc_size, alloc_size] at k3
 exact bodyPost_ret (assemble_results2 _ w.heap.size (w.heap.size + 1) (w.heap.size + 1 + 1) rfl rfl rfl 0 110 0 _ _ _ k1 k2 k3) rfl ⟨rfl, below_alloc' (below_alloc' (below_alloc' (Below.refl _ _) _) _) _⟩
def Asm.FixOut (src : List UInt8) (w : World) (e : Ending) (w' : World) : Prop :=
 (∃ er line : Int, e = .returned (.tuple #[.agg #[.int .u32 0, .slice none 0 0, .slice none 0 0], .int .i64 er, .int .i64 line]) ∧ er ≠ 0 ∧ 0 ≤ line ∧ line ≤ src.length + 1) ∨
 (∃ (o : Nat) (ws : List Nat) (ls : List Asm.Lab) (vW vL : Value), e = .returned (.tuple #[.agg #[.int .u32 (o : Int), vW, vL], .int .i64 0, .int .i64 0]) ∧ o < 4294967296 ∧ (∀ x ∈ ws, x < 4294967296) ∧ (∀ x ∈ ls, x.1.length ≤ 16 ∧ x.2 < 4294967296) ∧ Asm.sound o ws.length ls = true ∧
  w'.ownsRow w.heap.size 23 1 vW ws.length (ws.map Asm.wordCells) ∧ w'.ownsRow w.heap.size 42 2 vL ls.length (ls.flatMap Asm.labCells) ∧ ls.length ≤ 1000000)
theorem assemble_fix (src : List UInt8) (hle : src.length ≤ 9223372036854775806) (w : World) (hL : Isa.Laid w) :
 Calls Tryz.prog 13 #[.string ⟨src.toArray⟩] w fun e w' => Asm.FixOut src w e w' ∧ Below w.heap.size w w' := by
 by_cases hlen : 20000 < src.length
 · refine (assemble_long src hlen hle w).mono ?_
   rintro e w' ⟨rfl, hb⟩
   exact ⟨.inl ⟨110, 0, rfl, by decide, by decide, by omega⟩, hb⟩
 · have hl : src.length ≤ 20000 := by omega
   refine (assemble_any src hl (Asm.sane hl) w hL).mono ?_
   rintro e w' ⟨hO, hb⟩
   refine ⟨?_, hb⟩
   cases hr : Asm.asmR src with
   | error p =>
    obtain ⟨er, line⟩ := p
    rw [hr] at hO
    obtain ⟨h1, h2, h3⟩ := Asm.asmR_bad hl hr
    exact .inl ⟨er, line, hO, h1, h2, h3⟩
   | ok p =>
    obtain ⟨o, ws, ls⟩ := p
    rw [hr] at hO
    obtain ⟨o', ws', ls', rfl, rfl, rfl, ho, hws, hls, hsd, hll⟩ := Asm.asmR_sound hl hr
    obtain ⟨vW, vL, he, r1, r2⟩ := hO
    rw [List.length_map, List.map_map] at r1
    rw [List.length_map, List.flatMap_map] at r2
    exact .inr ⟨o', ws', ls', vW, vL, he, ho, hws, hls, hsd, r1, r2, hll⟩
theorem asmFix_walk (s : List UInt8) (hs : s.length ≤ 9223372036854775806) (w : World) (hL : Isa.Laid w) (hH : Hex.Laid w) :
 Calls Tryz.prog 7 #[.string ⟨s.toArray⟩] w fun e w' => e = .returned (.bool true) ∧ Below w.heap.size w w' := by
 have hsz : (⟨s.toArray⟩ : ByteArray).size = s.length := by simp [ByteArray.size]
 have HA := fun (W : World) (hW : Below w.heap.size w W) => assemble_fix s (by omega) W (hL.below hW)
 go_enter Tryz.func7, Tryz.ntmps7
 go_wp2_with fail
 refine (known_calls _ hL hH).mono ?_
 rintro e w1 ⟨rfl, hb1⟩
 go_wp2_with fail
 refine (HA _ hb1).mono ?_
 rintro e w2 ⟨hO, hb2⟩
 have b2 := below_next hb1 hb2
 rcases hO with ⟨er, line, rfl, h1, h2, h3⟩ | ⟨o, ws, ls, vW, vL, rfl, ho, hws, hls, hsd, r1, r2, hll⟩
 · go_wp2_with fail
   go_ret
   exact ⟨rfl, below_next b2 (below_alloc' (Below.refl _ _) _)⟩
 · have hww := Asm.RowView.of_row r1
   have hlv := Asm.RowView.of_row r2
   obtain ⟨p1, q1, rfl⟩ := Asm.row_slice r1
   obtain ⟨p2, q2, rfl⟩ := Asm.row_slice r2
   have hwl : ws.length ≤ 4096 := by
    unfold Asm.sound at hsd
    simp only [Bool.and_eq_true, decide_eq_true_eq] at hsd
    exact hsd.2.1
   have b3 : Below w2.heap.size w2 (w2.alloc (.cells #[.int .u32 (o : Int), .slice p1 ws.length q1, .slice p2 ls.length q2] 27)) := below_alloc' (Below.refl _ _) _
   have k3 := heap_alloc_new w2 (.cells #[.int .u32 (o : Int), .slice p1 ws.length q1, .slice p2 ls.length q2] 27)
   have HD := Lib.hid (fun W (hb : Below w2.heap.size w2 W) => dis_calls o ws ls _ _ W ho hws (by omega) (hww.below hb) (hlv.below hb) (fun x hx => ⟨by have := (hls x hx).1; omega, (hls x hx).2⟩) (by omega) ((hL.below b2).below hb) ((hH.below b2).below hb))
   have HW := Lib.hid hww
   have HLV := Lib.hid hlv
   have HLS := Lib.hid hls
   have HWS := Lib.hid hws
   have HSD := Lib.hid hsd
   clear r1 r2 hww hlv hls hws hsd hb1 hb2 HA
   go_wp2_with fail
   refine (HD.out _ b3).mono ?_
   rintro e w4 ⟨rfl, hb4⟩
   have b4 := below_next b3 hb4
   have k4 := blk_keep hb4 k3
   unfold Asm.dis
   rw [if_pos HSD.out]
   by_cases hlen : 20000 < (Asm.disText o ws ls).length
   · rw [if_pos hlen]
     clear hlen
     go_wp2_with fail
     go_ret
     exact ⟨rfl, below_next b2 b4⟩
   · rw [if_neg hlen]
     have hA := fun W (hW : Isa.Laid W) => back_assemble o ws ls ho HWS.out (fun x hx => (HLS.out x hx).2) HSD.out (by omega) W hW
     have hdis : Asm.dis o ws ls = (Asm.disText o ws ls, 0) := by unfold Asm.dis; rw [if_pos HSD.out, if_neg hlen]
     obtain ⟨tx, htx⟩ : ∃ tx, Asm.disText o ws ls = tx := ⟨_, rfl⟩
     rw [htx] at hA hdis ⊢
     have HA2 := Lib.hid hA
     have HDT := Lib.hid hdis
     clear hA htx hlen hdis
     go_wp2_with fail
     refine (HA2.out _ (hL.below (below_next b2 b4))).mono ?_
     rintro e w5 ⟨⟨vW2, vL2, rfl, s1, s2⟩, hb5⟩
     have b5 := below_next b4 hb5
     have k5 := blk_keep hb5 k4
     have hvW := Asm.RowView.of_row s1
     have hvL := Asm.RowView.of_row s2
     obtain ⟨p3, q3, rfl⟩ := Asm.row_slice s1
     obtain ⟨p4, q4, rfl⟩ := Asm.row_slice s2
     have b6 : Below w5.heap.size w5 (w5.alloc (.cells #[.int .u32 (o : Int), .slice p3 ws.length q3, .slice p4 ls.length q4] 27)) := below_alloc' (Below.refl _ _) _
     have k6 := blk_keep b6 k5
     have c0 := (blk_facts k6).1 0
     have c1 := (blk_facts k6).1 1
     have c2 := (blk_facts k6).1 2
     have hd2 := fun W (hb : Below w5.heap.size w5 W) => dis_calls o ws ls _ _ W ho HWS.out (by omega) (hvW.below hb) (hvL.below hb) (fun x hx => ⟨by have := (HLS.out x hx).1; omega, (HLS.out x hx).2⟩) (by omega) ((hL.below (below_next b2 b5)).below hb) ((hH.below (below_next b2 b5)).below hb)
     rw [HDT.out] at hd2
     have HD2 := Lib.hid hd2
     clear hd2 s1 s2
     go_wp2_with fail
     have k7 := heap_alloc_new w5 (.cells #[.int .u32 (o : Int), .slice p3 ws.length q3, .slice p4 ls.length q4] 27)
     refine (HD2.out _ b6).mono ?_
     rintro e w7 ⟨rfl, hb7⟩
     have b57 := below_next b6 hb7
     have b27 := below_next b5 b57
     have k8 := blk_keep hb7 k7
     have k9 := blk_keep hb7 k6
     have d0 : w7.cell? ⟨w2.heap.size, 0, none⟩ = some (.int .u32 (o : Int)) := (blk_facts k9).1 0
     have d1 : w7.cell? ⟨w2.heap.size, 1, none⟩ = some (.slice p1 ws.length q1) := (blk_facts k9).1 1
     have d2 : w7.cell? ⟨w2.heap.size, 2, none⟩ = some (.slice p2 ls.length q2) := (blk_facts k9).1 2
     have e0 : w7.cell? ⟨w5.heap.size, 0, none⟩ = some (.int .u32 (o : Int)) := (blk_facts k8).1 0
     have e1 : w7.cell? ⟨w5.heap.size, 1, none⟩ = some (.slice p3 ws.length q3) := (blk_facts k8).1 1
     have e2 : w7.cell? ⟨w5.heap.size, 2, none⟩ = some (.slice p4 ls.length q4) := (blk_facts k8).1 2
     have z8 := blk_size k8
     have z9 := blk_size k9
     clear c0 c1 c2
     go_wp2_with fail
     refine (same_calls o o ws ws ls ls _ _ _ _ _ (HW.out.below b27) (hvW.below b57) (HLV.out.below b27) (hvL.below b57) (by omega) (by omega) (by omega) (by omega)).mono ?_
     rintro e w9 ⟨rfl, hb9⟩
     rw [Asm.same_refl]
     go_wp2_with fail
     go_ret
     exact ⟨rfl, below_next (below_next b2 b27) hb9⟩
end Go.Proofs.YtabmlbnnhhpaoaaGreatDoor
set_option maxRecDepth 100000
namespace Go.Proofs.YtabmlbnnhhpaoaaGreatDoor
open Go.ChangeShapes Go.WideShapes Go.ChangeAt Go.RowKit
open Go.ChangeMaps (open_string)
theorem asmFix_lifted (os : Os) (started : os.Started) (H : Type) (enc : TypeId × Value → H) :
 ReturnsInHanded {} Tryz.checked os 7 .any (fun w args => (Rows.asmFixSpec.pre enc Tryz.prog Tryz.f7 [] false w args ∧ laidMetH Tryz.prog laid6 w) ∧ sizedMet enc Tryz.prog Tryz.f7 (OpenSpec.ofChange Rows.asmFixSpec) false w args)
  (Rows.asmFixSpec.post enc Tryz.prog Tryz.f7 false true false false) := by
 refine returnsInHanded_of_change_and (C := Tryz.checked) (X := fun w _ => laidMetH Tryz.prog laid6 w) (fun _ _ _ hh h => h.of_heap hh) own started (by kernel_rfl) Tryz.func7
  (ChangeSpec.witness_shaped (enc := enc) (C := Tryz.checked) (os := os) (X := fun w _ => laidMetH Tryz.prog laid6 w) false (World.laidAll Tryz.prog os laid6) #[.string ByteArray.empty] 8 (World.laidAll_os _ _ _) (World.shaped_of_ZipB (by kernel_rfl) (by kernel_rfl)) (by kernel_rfl) (by kernel_rfl) (by kernel_rfl) (lay_met os _)) ?_
 intro W base args ds gs before hval0 hW _ hsz hL _
 have hval : ∀ (j : Nat) t v, Tryz.f7.params[j]? = some t → args[j]? = some v → Value.okWide Tryz.prog W .any base t v := hval0
 have hW' := hW
 obtain ⟨p, q, hA0, hV, rfl, hfz, hnd⟩ := hW
 have hA : DataW.TrodAll enc Tryz.prog W 0 (fun _ => true) true Tryz.f7.params.toList args.toList ds p := hA0
 rw [Tryz.params7] at hA hval hsz
 obtain ⟨v0, d0, rfl, rfl, h0⟩ := trodAll_one hA
 obtain ⟨rfl, rfl⟩ := trodVars_none hV
 have b0 := h0
 obtain ⟨a0, rfl, rfl, rfl, w0⟩ := open_string Tryz.underlying9 (hval 0 9 v0 rfl rfl) h0
 have hbulk : a0.data.toList.length ≤ 9223372036854775806 := by
  have h := (List.all_eq_true.1 hsz) _ (List.mem_append_left _ (List.mem_singleton.2 rfl))
  have h' : a0.data.toList.length ≤ reachBytes := of_decide_eq_true h
  have e : reachBytes = 140737488351232 := rfl
  omega
 have hLd := of_laid hL
 have hHd := hex_of_laid hL
 clear hA0 hval0
 refine (asmFix_walk a0.data.toList hbulk W hLd hHd).mono fun e W' ⟨he, bel⟩ => ?_
 subst he
 exact ⟨_, rfl, _, _, _, [], _, [], hW', trodAll_mk1 (shut_bool Tryz.underlying4 _), (trodAll_cons_mk (trod_back (by kernel_rfl) (by kernel_rfl) b0 bel) trodAll_mk0), rfl, bel.frame _, fun h => by cases h⟩
theorem asmFix_holds : Rows.AsmFixSaid :=
 OpenClaim.holds_of_wide 7 Tryz.f7 rfl rfl rfl rfl rfl rfl rfl ⟨rfl, rfl, rfl, rfl, rfl⟩ rfl rfl rfl rfl rfl (by kernel_rfl) Tryz.func7 (by kernel_rfl)
  (of_decide_eq_true (by kernel_rfl)) (by unfold Func.isWrapper; first | (rw [if_pos (by decide +kernel)]; kernel_rfl) | (rw [if_neg (by decide +kernel)]; exact ⟨rfl, rfl⟩))
  (fun os started H enc _ => asmFix_lifted os started H enc)
theorem asmFix_card_holds : Rows.AsmFixCardSaid :=
 Claim7.holds_tied_plain_at .later [] [.data, .data, .data, .data, .data, .pinned] true _ true
  asmFix_holds (fun _ h => by cases h) (by kernel_rfl) (fun _ h => by cases h) asmFix_row_tie rfl ⟨rfl, rfl⟩ (by kernel_rfl) rfl
  (fun f fn hf hfn => by
   obtain rfl : f = 7 := Option.some.inj ((show Tryz.prog.funcNamed _ = some 7 by kernel_rfl).symm.trans hf) |>.symm
   obtain rfl : fn = Tryz.f7 := (Option.some.inj (Tryz.func7.symm.trans hfn)).symm
   exact ⟨by kernel_rfl, fun j t ht => by
    rw [Tryz.params7] at ht
    have hm : t ∈ [9] := by simpa using Array.mem_of_getElem? ht
    have hall : ([9].all fun u => !Tryz.prog.wantsStandIn u) = true := by kernel_rfl
    exact (show Tryz.prog.wantsStandIn t = false by simpa using List.all_eq_true.1 hall t hm)⟩)
  (by kernel_rfl)
#print axioms asmFix_card_holds
end Go.Proofs.YtabmlbnnhhpaoaaGreatDoor
