/- What this claim needs of AsmSame, AsmRowImg, AsmPrOpen, AsmPrOpen2. -/
import Derived.Test.YtabmlbnnhhpaoaaGreatDoorEMAsmDisG
import Derived.Test.YtabmlbnnhhpaoaaGreatDoorUMAsmKnownG
import Derived.SevenTiedAt
import Derived.Deep.DeepHandedRow
import Derived.Test.YtabmlbnnhhpaoaaGreatDoorEMAsmHexG
import Derived.Lib.SmallJoins
import Derived.Deep.SlicePairs
import Derived.ChangeSame
set_option linter.unusedSimpArgs false
set_option linter.unusedVariables false
set_option maxHeartbeats 2000000
set_option maxRecDepth 100000
namespace Go.Proofs.YtabmlbnnhhpaoaaGreatDoor
open Go.RowKit Go.Shelf
namespace Asm
def same (o1 : Nat) (ws1 : List Nat) (ls1 : List Lab) (o2 : Nat) (ws2 : List Nat) (ls2 : List Lab) : Bool := decide (o1 = o2 ∧ ws1 = ws2 ∧ ls1 = ls2)
theorem take_succ_of {α : Type} {l : List α} {i : Nat} {x : α} (h : l[i]? = some x) : l.take (i + 1) = l.take i ++ [x] := by
 obtain ⟨h1, h2⟩ := List.getElem?_eq_some_iff.1 h
 rw [List.take_succ_eq_append_getElem h1, h2]
theorem same_refl (o : Nat) (ws : List Nat) (ls : List Lab) : same o ws ls o ws ls = true := by simp [same]
end Asm
theorem same_calls {T1 T2 T3 T4 : TypeId} (o1 o2 : Nat) (ws1 ws2 : List Nat) (ls1 ls2 : List Asm.Lab) (wv1 wv2 lv1 lv2 : Value) (w : World)
 (hw1 : Asm.RowView w T1 wv1 ws1.length (ws1.map Asm.wordCells)) (hw2 : Asm.RowView w T2 wv2 ws2.length (ws2.map Asm.wordCells)) (hl1 : Asm.RowView w T3 lv1 ls1.length (ls1.flatMap Asm.labCells)) (hl2 : Asm.RowView w T4 lv2 ls2.length (ls2.flatMap Asm.labCells))
 (b1 : ws1.length ≤ 140737488355328) (b2 : ws2.length ≤ 140737488355328) (b3 : ls1.length ≤ 140737488355328) (b4 : ls2.length ≤ 140737488355328) :
 Calls Tryz.prog 14 #[.agg #[.int .u32 (o1 : Int), wv1, lv1], .agg #[.int .u32 (o2 : Int), wv2, lv2]] w fun e w' => e = .returned (.bool (Asm.same o1 ws1 ls1 o2 ws2 ls2)) ∧ Below w.heap.size w w' := by
 obtain ⟨p1, c1, rfl⟩ : ∃ p c, wv1 = .slice p ws1.length c := by obtain ⟨p, c, e, _⟩ := hw1; exact ⟨p, c, e⟩
 obtain ⟨p2, c2, rfl⟩ : ∃ p c, wv2 = .slice p ws2.length c := by obtain ⟨p, c, e, _⟩ := hw2; exact ⟨p, c, e⟩
 obtain ⟨p3, c3, rfl⟩ : ∃ p c, lv1 = .slice p ls1.length c := by obtain ⟨p, c, e, _⟩ := hl1; exact ⟨p, c, e⟩
 obtain ⟨p4, c4, rfl⟩ : ∃ p c, lv2 = .slice p ls2.length c := by obtain ⟨p, c, e, _⟩ := hl2; exact ⟨p, c, e⟩
 obtain ⟨R, hR⟩ : ∃ R, Asm.same o1 ws1 ls1 o2 ws2 ls2 = R := ⟨_, rfl⟩
 rw [hR]
 have H1 := Lib.hid hw1
 have H2 := Lib.hid hw2
 have H3 := Lib.hid hl1
 have H4 := Lib.hid hl2
 have HR := Lib.hid hR
 clear hw1 hw2 hl1 hl2 hR
 obtain ⟨n1, hn1⟩ : ∃ n, ws1.length = n := ⟨_, rfl⟩
 obtain ⟨n2, hn2⟩ : ∃ n, ws2.length = n := ⟨_, rfl⟩
 obtain ⟨n3, hn3⟩ : ∃ n, ls1.length = n := ⟨_, rfl⟩
 obtain ⟨n4, hn4⟩ : ∃ n, ls2.length = n := ⟨_, rfl⟩
 have HN := Lib.hid (And.intro hn1 (And.intro hn2 (And.intro hn3 hn4)))
 rw [hn1] at b1 ⊢
 rw [hn2] at b2 ⊢
 rw [hn3] at b3 ⊢
 rw [hn4] at b4 ⊢
 clear hn1 hn2 hn3 hn4
 have B0 := below_alloc' (below_alloc' (Below.refl w.heap.size w) (.cells #[.int .u32 (o1 : Int), .slice p1 n1 c1, .slice p3 n3 c3] 27)) (.cells #[.int .u32 (o2 : Int), .slice p2 n2 c2, .slice p4 n4 c4] 27)
 have K1 := blk_alloc (.cells #[.int .u32 (o2 : Int), .slice p2 n2 c2, .slice p4 n4 c4] 27) (heap_alloc_new w (.cells #[.int .u32 (o1 : Int), .slice p1 n1 c1, .slice p3 n3 c3] 27))
 have K2 := heap_alloc_new (w.alloc (.cells #[.int .u32 (o1 : Int), .slice p1 n1 c1, .slice p3 n3 c3] 27)) (.cells #[.int .u32 (o2 : Int), .slice p2 n2 c2, .slice p4 n4 c4] 27)
 rw [alloc_size] at K2
 have HB0 := Lib.hid B0
 have HK1 := Lib.hid K1
 have HK2 := Lib.hid K2
 clear B0 K1 K2
 by_cases ho : o1 = o2
 · subst ho
   by_cases hl : n1 = n2
   · subst hl
     by_cases hl2 : n3 = n4
     · subst hl2
       have hs : R = decide (ws1 = ws2 ∧ ls1 = ls2) := by rw [← HR.out]; simp [Asm.same]
       have HSM := Lib.hid hs
       clear hs HR
       have k1 := HK1.out
       have k2 := HK2.out
       go_enter Tryz.func14, Tryz.ntmps14
       go_wp2_with fail
       go_loopw [5] (fun v wr => ∃ i : Nat, v = .int .i64 (i : Int) ∧ i ≤ n1 ∧ Hid (ws1.take i = ws2.take i) ∧ wr.heap[w.heap.size]? = some (.cells #[.int .u32 (o1 : Int), .slice p1 n1 c1, .slice p3 n3 c3] 27 (0, 0)) ∧ wr.heap[w.heap.size + 1]? = some (.cells #[.int .u32 (o1 : Int), .slice p2 n1 c2, .slice p4 n3 c4] 27 (0, 0)) ∧ Hid (Below w.heap.size w wr)) (fun v _ => n1 - (intOf v).toNat)
       case atStart => exact ⟨0, rfl, Nat.zero_le _, Lib.hid rfl, k1, k2, HB0⟩
       case round =>
        clear k1 k2
        obtain ⟨i, rfl, hi, HT, k1, k2, HB⟩ := hrel
        have e1 := (blk_facts k1).1 1
        have e2 := (blk_facts k2).1 1
        have z1 := blk_size k1
        have z2 := blk_size k2
        by_cases hlt : i < n1
        · obtain ⟨x, hx⟩ : ∃ x, ws1[i]? = some x := ⟨ws1[i]'(by have := HN.out.1; omega), List.getElem?_eq_getElem _⟩
          obtain ⟨y, hy⟩ : ∃ y, ws2[i]? = some y := ⟨ws2[i]'(by have := HN.out.2.1; omega), List.getElem?_eq_getElem _⟩
          obtain ⟨g1, q1, r1, ep1, _, _, hg1, hc1⟩ := H1.out.cells (by have := HN.out.1; omega)
          obtain ⟨g2, q2, r2, ep2, _, _, hg2, hc2⟩ := H2.out.cells (by have := HN.out.2.1; omega)
          injection ep1 with a1 a2 a3
          injection ep2 with a4 a5 a6
          subst a1
          subst a3
          subst a4
          subst a6
          have f1 : wr.cell? ⟨g1, q1 + i, none⟩ = some (.int .u32 (x : Int)) := (HB.out.cell (p := ⟨g1, q1 + i, none⟩) hg1).trans (hc1 i _ (by rw [List.getElem?_map, hx]; rfl))
          have f2 : wr.cell? ⟨g2, q2 + i, none⟩ = some (.int .u32 (y : Int)) := (HB.out.cell (p := ⟨g2, q2 + i, none⟩) hg2).trans (hc2 i _ (by rw [List.getElem?_map, hy]; rfl))
          have ix1 := fun W => idx_word g1 q1 n1 c1 i hlt W
          have ix2 := fun W => idx_word g2 q2 n1 c2 i hlt W
          clear hc1 hc2
          by_cases hxy : x = y
          · subst hxy
            have HT2 : Hid (ws1.take (i + 1) = ws2.take (i + 1)) := Lib.hid (by rw [Asm.take_succ_of hx, Asm.take_succ_of hy, HT.out])
            clear hx hy
            go_wp2_with fail
            go_quiet (fail)
            all_goals go_wp2_with fail
            go_roundw
            case rel => exact ⟨i + 1, by go_num, by omega, HT2, k1, k2, Lib.hid (by first | exact below_drewN' HB.out _ | exact HB.out)⟩
            case measure => simp [intOf]; omega
          · have hb : ((x : Int) != (y : Int)) = true := by simp; omega
            have hbn : (x != y) = true := by simp [hxy]
            have hr : R = false := by
             rw [HSM.out]
             refine decide_eq_false fun h => hxy ?_
             rw [h.1] at hx
             rw [hx] at hy
             exact Option.some.inj hy
            subst hr
            clear hx hy hxy
            go_wp2_with fail
            go_quiet (fail)
            all_goals go_wp2_with fail
            go_ret
            exact ⟨rfl, by first | exact below_drewN' HB.out _ | exact HB.out⟩
        · have hin : i = n1 := by omega
          have hww : ws1 = ws2 := by
           have h := HT.out
           rw [List.take_of_length_le (by have := HN.out.1; omega), List.take_of_length_le (by have := HN.out.2.1; omega)] at h
           exact h
          have hs : R = decide (ls1 = ls2) := by rw [HSM.out]; simp [hww]
          have HS2 := Lib.hid hs
          clear hww hs hin
          go_wp2_with fail
          go_loopw [6] (fun v wr => ∃ i : Nat, v = .int .i64 (i : Int) ∧ i ≤ n3 ∧ Hid (ls1.take i = ls2.take i) ∧ wr.heap[w.heap.size]? = some (.cells #[.int .u32 (o1 : Int), .slice p1 n1 c1, .slice p3 n3 c3] 27 (0, 0)) ∧ wr.heap[w.heap.size + 1]? = some (.cells #[.int .u32 (o1 : Int), .slice p2 n1 c2, .slice p4 n3 c4] 27 (0, 0)) ∧ Hid (Below w.heap.size w wr)) (fun v _ => n3 - (intOf v).toNat)
          case atStart => exact ⟨0, rfl, Nat.zero_le _, Lib.hid rfl, k1, k2, HB⟩
          case round =>
           clear k1 k2 e1 e2
           obtain ⟨j, rfl, hj, HT2, k1, k2, HB2⟩ := hrel
           have e1 := (blk_facts k1).1 2
           have e2 := (blk_facts k2).1 2
           have z3 := blk_size k1
           have z4 := blk_size k2
           by_cases hjt : j < n3
           · obtain ⟨x, hx⟩ : ∃ x, ls1[j]? = some x := ⟨ls1[j]'(by have := HN.out.2.2.1; omega), List.getElem?_eq_getElem _⟩
             obtain ⟨y, hy⟩ : ∃ y, ls2[j]? = some y := ⟨ls2[j]'(by have := HN.out.2.2.2; omega), List.getElem?_eq_getElem _⟩
             obtain ⟨g1, q1, r1, ep1, _, _, hg1, hc1⟩ := H3.out.cells (by have := HN.out.2.2.1; omega)
             obtain ⟨g2, q2, r2, ep2, _, _, hg2, hc2⟩ := H4.out.cells (by have := HN.out.2.2.2; omega)
             injection ep1 with a1 a2 a3
             injection ep2 with a4 a5 a6
             subst a1
             subst a3
             subst a4
             subst a6
             have f1 := (HB2.out.cell (p := ⟨g1, q1 + j * 2, none⟩) hg1).trans (hc1 _ _ (Asm.labs_at ls1 j x hx).1)
             have f2 : wr.cell? ⟨g1, q1 + j * 2 + 1, none⟩ = some (.int .u32 (x.2 : Int)) := (HB2.out.cell (p := ⟨g1, q1 + j * 2 + 1, none⟩) hg1).trans (hc1 _ _ (Asm.labs_at ls1 j x hx).2)
             have f3 := (HB2.out.cell (p := ⟨g2, q2 + j * 2, none⟩) hg2).trans (hc2 _ _ (Asm.labs_at ls2 j y hy).1)
             have f4 : wr.cell? ⟨g2, q2 + j * 2 + 1, none⟩ = some (.int .u32 (y.2 : Int)) := (HB2.out.cell (p := ⟨g2, q2 + j * 2 + 1, none⟩) hg2).trans (hc2 _ _ (Asm.labs_at ls2 j y hy).2)
             have ix1 := fun W => idx_lab g1 q1 n3 c3 j hjt W
             have ix2 := fun W => idx_lab g2 q2 n3 c4 j hjt W
             clear hc1 hc2
             by_cases hxy : x = y
             · subst hxy
               have HT3 : Hid (ls1.take (j + 1) = ls2.take (j + 1)) := Lib.hid (by rw [Asm.take_succ_of hx, Asm.take_succ_of hy, HT2.out])
               clear hx hy
               go_wp2_with fail
               go_quiet (fail)
               all_goals go_wp2_with fail
               go_roundw
               case rel => exact ⟨j + 1, by go_num, by omega, HT3, k1, k2, Lib.hid (by first | exact below_drewN' HB2.out _ | exact HB2.out)⟩
               case measure => simp [intOf]; omega
             · have hr : R = false := by
                rw [HS2.out]
                refine decide_eq_false fun h => hxy ?_
                rw [h] at hx
                rw [hx] at hy
                exact Option.some.inj hy
               subst hr
               clear hx hy
               obtain ⟨x1, x2⟩ := x
               obtain ⟨y1, y2⟩ := y
               by_cases hn : x1 = y1
               · subst hn
                 have hz : ¬ x2 = y2 := fun h => hxy (by rw [h])
                 have hb1 : ((x2 : Int) == (y2 : Int)) = false := by simp; omega
                 have hb2 : (x2 == y2) = false := by simp; omega
                 have hb3 : ((x2 : Int) != (y2 : Int)) = true := by simp; omega
                 have hb4 : decide (x2 = y2) = false := by simp; omega
                 have hb5 : decide ((x2 : Int) = (y2 : Int)) = false := by simp; omega
                 clear hxy
                 go_wp2_with fail
                 go_quiet (fail)
                 all_goals go_wp2_with fail
                 go_ret
                 exact ⟨rfl, by first | exact below_drewN' HB2.out _ | exact HB2.out⟩
               · have hb1 : (x1 == y1) = false := by simp [hn]
                 have hb2 : (x1 != y1) = true := by simp [hn]
                 have hb4 : decide (x1 = y1) = false := by simp [hn]
                 clear hxy
                 go_wp2_with fail
                 go_quiet (fail)
                 all_goals go_wp2_with fail
                 go_ret
                 exact ⟨rfl, by first | exact below_drewN' HB2.out _ | exact HB2.out⟩
           · have hll : ls1 = ls2 := by
              have h := HT2.out
              rw [List.take_of_length_le (by have := HN.out.2.2.1; omega), List.take_of_length_le (by have := HN.out.2.2.2; omega)] at h
              exact h
             have hr : R = true := by rw [HS2.out]; simp [hll]
             subst hr
             clear hll
             go_wp2_with fail
             go_ret
             exact ⟨rfl, HB2.out⟩
     · have q3 : ((n3 : Int) != (n4 : Int)) = true := by simp; omega
       have hr : R = false := by
        rw [← HR.out]; unfold Asm.same
        refine decide_eq_false fun h => hl2 ?_
        rw [← HN.out.2.2.1, ← HN.out.2.2.2, h.2.2]
       subst hr
       clear hl2
       go_enter Tryz.func14, Tryz.ntmps14
       go_wp2_with fail
       go_ret
       exact ⟨rfl, HB0.out⟩
   · have q2 : ((n1 : Int) != (n2 : Int)) = true := by simp; omega
     have hr : R = false := by
      rw [← HR.out]; unfold Asm.same
      refine decide_eq_false fun h => hl ?_
      rw [← HN.out.1, ← HN.out.2.1, h.2.1]
     subst hr
     clear hl
     go_enter Tryz.func14, Tryz.ntmps14
     go_wp2_with fail
     go_ret
     exact ⟨rfl, HB0.out⟩
 · have q1 : ((o1 : Int) != (o2 : Int)) = true := by simp; omega
   have hr : R = false := by rw [← HR.out]; unfold Asm.same; exact decide_eq_false fun h => ho h.1
   subst hr
   clear ho
   go_enter Tryz.func14, Tryz.ntmps14
   go_wp2_with fail
   go_ret
   exact ⟨rfl, HB0.out⟩
end Go.Proofs.YtabmlbnnhhpaoaaGreatDoor
namespace Go.Proofs.YtabmlbnnhhpaoaaGreatDoor
open Go.ChangeShapes Go.WideShapes Go.ChangeAt Go.RowKit
def noImage : Array Value := #[.agg #[.int .u32 0, .slice none 0 0, .slice none 0 0]]
end Go.Proofs.YtabmlbnnhhpaoaaGreatDoor
namespace Go.Proofs.YtabmlbnnhhpaoaaGreatDoor
open Go.Joins Go.ChangeShapes Go.WideShapes Go.ChangeAt Go.RowKit Go.Deep
namespace Asm
theorem cell_parts {W : World} {a : Addr} {v : Value} (h : W.cell? a = some v) : ∃ g o cur T fr, a = ⟨g, o, none⟩ ∧ W.heap[g]? = some (.cells cur T fr) ∧ cur[o]? = some v := by
 obtain ⟨g, o, sp⟩ := a
 unfold World.cell? at h
 simp only at h
 split at h
 · rename_i c T fr hh
   cases sp with
   | none => exact ⟨g, o, c, T, fr, rfl, hh, by simpa using h⟩
   | some s => simp at h
 · cases h
theorem RowView.of_cells {W : World} (a : Addr) (len cap sz : Nat) (X : List Value) (hl : len ≤ cap) (hm : cap ≤ maxLen) (hsz : 0 < sz) (hX : X.length = len * sz) (hc : ∀ (j : Nat) (u : Value), X[j]? = some u → W.cell? (a.add j) = some u) : ∃ T, RowView W T (.slice (some a) len cap) len X := by
 by_cases h0 : len = 0
 · exact ⟨0, some a, cap, rfl, hl, hm, fun h => absurd h0 h⟩
 · have hpos : 0 < X.length := by rw [hX]; exact Nat.mul_pos (by omega) hsz
   obtain ⟨g, o, cur, T, fr, ea, hg, _⟩ := cell_parts (hc 0 _ (List.getElem?_eq_getElem hpos))
   have ea' : a = ⟨g, o, none⟩ := by
    obtain ⟨g', o', s'⟩ := a
    simp only [Addr.add] at ea
    simpa using ea
   subst ea'
   refine ⟨T, some ⟨g, o, none⟩, cap, rfl, hl, hm, fun _ => ⟨g, o, cur, fr, rfl, hg, fun j u hj => ?_⟩⟩
   have h1 := hc j u hj
   rw [Addr.add_lit, cell_of_row W g (o + j) cur T fr hg] at h1
   exact h1
def strOf : Value → List UInt8
 | .string s => s.data.toList
 | _ => []
theorem flat_at {f : Nat → Lab} : ∀ (n j : Nat) (u : Value), (((List.range n).map f).flatMap labCells)[j]? = some u → j / 2 < n ∧ u = (if j % 2 = 0 then Value.string ⟨(f (j / 2)).1.toArray⟩ else .int .u32 ((f (j / 2)).2 : Int)) := by
 intro n j u h
 have hj := (List.getElem?_eq_some_iff.1 h).1
 have hlen : (((List.range n).map f).flatMap labCells).length = n * 2 := by
  have : ∀ l : List Lab, (l.flatMap labCells).length = l.length * 2 := by
   intro l
   induction l with
   | nil => rfl
   | cons x l ih => simp [labCells, ih]; omega
  rw [this]; simp
 rw [hlen] at hj
 have h2 : j / 2 < n := by omega
 have hx : ((List.range n).map f)[j / 2]? = some (f (j / 2)) := by simp [h2]
 have hh := labs_at _ _ _ hx
 refine ⟨h2, ?_⟩
 split
 · rename_i e
   rw [show j = j / 2 * 2 by omega, hh.1] at h
   exact (Option.some.inj h).symm
 · rename_i e
   rw [show j = j / 2 * 2 + 1 by omega, hh.2] at h
   exact (Option.some.inj h).symm
end Asm
end Go.Proofs.YtabmlbnnhhpaoaaGreatDoor
set_option maxRecDepth 100000
namespace Go.Proofs.YtabmlbnnhhpaoaaGreatDoor
open Go.Joins Go.ChangeShapes Go.WideShapes Go.ChangeAt Go.RowKit Go.Deep
theorem Asm.weights_mem {H : Type} {P : Program} {e : TypeId} {d : DataW H} {n : Nat} : ∀ {l : List (DataW H)}, d ∈ l → n ∈ d.weights P e → n ∈ DataW.weightsAll P e l
 | x :: l, h, hn => by
  rw [DataW.weightsAll]
  rcases List.mem_cons.1 h with rfl | h
  · exact List.mem_append_left _ hn
  · exact List.mem_append_right _ (Asm.weights_mem h hn)
theorem open_image_sized {H : Type} {enc : TypeId × Value → H} {W : World} {b0 base : Nat} {sp : Nat → Bool} {held : Bool} {v : Value} {d : DataW H} {p : List MemPlace} (hok : Value.okWide Tryz.prog W .any b0 27 v) (h : DataW.Trod enc Tryz.prog W base sp held 27 v d p) :
 ∃ (o : Nat) (ws : List Nat) (ls : List Asm.Lab) (wv lv : Value) (Tw Tl : TypeId), v = .agg #[.int .u32 (o : Int), wv, lv] ∧ o < 4294967296 ∧ (∀ x ∈ ws, x < 4294967296) ∧ Asm.RowView W Tw wv ws.length (ws.map Asm.wordCells) ∧ Asm.RowView W Tl lv ls.length (ls.flatMap Asm.labCells) ∧ (∀ x ∈ ls, x.2 < 4294967296) ∧ ((∀ n ∈ d.weights Tryz.prog 27, n ≤ reachBytes) → (∀ x ∈ ls, x.1.length ≤ reachBytes) ∧ ls.length * 24 ≤ reachBytes ∧ ws.length * 4 ≤ reachBytes) := by
 obtain ⟨v0, v1, v2, y0, y1, y2, n, rfl, rfl, rfl, t0, t1, t2⟩ := open_agg3 Tryz.underlying27 (by kernel_rfl) (by kernel_rfl) hok h
 obtain ⟨z, hz, _, wz⟩ := DataW.trod_int Tryz.underlying23 t0
 obtain rfl : v0 = .int .u32 z := by simpa using hz
 have z0 : 0 ≤ z ∧ z ≤ 4294967295 := by
  simp [Lit.wf, IntKind.min, IntKind.max, IntKind.signed, IntKind.bits] at wz
  omega
 have hw : ∃ (ws : List Nat) (Tw : TypeId), (∀ x ∈ ws, x < 4294967296) ∧ Asm.RowView W Tw v1 ws.length (ws.map Asm.wordCells) ∧ ((∀ n ∈ y1.1.weights Tryz.prog 24, n ≤ reachBytes) → ws.length * 4 ≤ reachBytes) := by
  rcases open_slice1 Tryz.underlying24 (by kernel_rfl) t1 with ⟨e, _⟩ | ⟨a, len, cap, m, n1, V, D, Pl, e, _, hl, hm, hmm, hy, hx⟩
  · obtain rfl : v1 = .slice none 0 0 := by simpa using e
    exact ⟨[], 0, by simp, ⟨none, 0, rfl, Nat.le_refl _, by decide, fun h => absurd rfl h⟩, fun _ => by simp⟩
  · obtain rfl : v1 = .slice (some a) len cap := by simpa using e
    have hlm : len ≤ m := by rw [hmm]; split <;> omega
    have key : ∀ i, i < len → ∃ q : Nat, V i = .int .u32 (q : Int) ∧ q < 4294967296 := by
     intro i hi
     obtain ⟨q, hq, _, wq⟩ := DataW.trod_int Tryz.underlying23 (hx i (by omega)).2
     have q0 : 0 ≤ q ∧ q ≤ 4294967295 := by
      simp [Lit.wf, IntKind.min, IntKind.max, IntKind.signed, IntKind.bits] at wq
      omega
     refine ⟨q.toNat, ?_, by omega⟩
     rw [show ((q.toNat : Nat) : Int) = q by omega]
     simpa using hq
    have hcells : ∀ (j : Nat) (u : Value), (((List.range len).map fun i => (intOf (V i)).toNat).map Asm.wordCells)[j]? = some u → W.cell? (a.add j) = some u := by
     intro j u hj
     have hjl : j < len := by simpa using (List.getElem?_eq_some_iff.1 hj).1
     obtain ⟨q, hq, _⟩ := key j hjl
     rw [(hx j (by omega)).1, hq]
     simp [hjl, hq, intOf, Asm.wordCells] at hj
     rw [← hj]
    obtain ⟨T, hT⟩ := Asm.RowView.of_cells a len cap 1 _ hl hm (by decide) (by simp) hcells
    refine ⟨(List.range len).map fun i => (intOf (V i)).toNat, T, ?_, by rw [List.length_map, List.length_range]; exact hT, ?_⟩
    rotate_left
    · intro hwt
      have e1 : y1.1 = _ := congrArg Prod.fst hy
      rw [e1] at hwt
      have hb4 : Tryz.prog.bytesOf 23 = 4 := by kernel_rfl
      have h1 := hwt _ (by rw [DataW.weights, Tryz.underlying24]; exact List.mem_cons_self)
      rw [hb4] at h1
      simp only [List.length_map, List.length_range] at h1 ⊢
      refine Nat.le_trans ?_ h1
      omega
    intro x hx'
    obtain ⟨i, hi, rfl⟩ := List.mem_map.1 hx'
    obtain ⟨q, hq, hq2⟩ := key i (List.mem_range.1 hi)
    rw [hq]
    simpa [intOf] using hq2
 have hlab : ∃ (ls : List Asm.Lab) (Tl : TypeId), (∀ x ∈ ls, x.2 < 4294967296) ∧ Asm.RowView W Tl v2 ls.length (ls.flatMap Asm.labCells) ∧ ((∀ n ∈ y2.1.weights Tryz.prog 25, n ≤ reachBytes) → (∀ x ∈ ls, x.1.length ≤ reachBytes) ∧ ls.length * 24 ≤ reachBytes) := by
  rcases open_slice_pairs Tryz.underlying25 Tryz.underlying42 (by kernel_rfl) rfl rfl (by kernel_rfl) (by kernel_rfl) t2 with ⟨e, _⟩ | ⟨a, len, cap, m, n1, V0, V1, D0, D1, P0, P1, e, _, hl, hm, hmm, hy, hx⟩
  · obtain rfl : v2 = .slice none 0 0 := by simpa using e
    exact ⟨[], 0, by simp, ⟨none, 0, rfl, Nat.le_refl _, by decide, fun h => absurd rfl h⟩, fun _ => by simp⟩
  · obtain rfl : v2 = .slice (some a) len cap := by simpa using e
    have hlm : len ≤ m := by rw [hmm]; split <;> omega
    have key : ∀ i, i < len → ∃ (s : ByteArray) (q : Nat), V0 i = .string s ∧ V1 i = .int .u32 (q : Int) ∧ q < 4294967296 ∧ D0 i = .lit (.string s.data.toList) := by
     intro i hi
     obtain ⟨_, _, h3, h4⟩ := hx i (by omega)
     obtain ⟨s, hs, hd, _⟩ := DataW.trod_string Tryz.underlying9 h3
     obtain ⟨q, hq, _, wq⟩ := DataW.trod_int Tryz.underlying23 h4
     have q0 : 0 ≤ q ∧ q ≤ 4294967295 := by
      simp [Lit.wf, IntKind.min, IntKind.max, IntKind.signed, IntKind.bits] at wq
      omega
     refine ⟨s, q.toNat, by simpa using hs, ?_, by omega, (congrArg Prod.fst hd)⟩
     rw [show ((q.toNat : Nat) : Int) = q by omega]
     simpa using hq
    have hcells : ∀ (j : Nat) (u : Value), (((List.range len).map fun i => ((Asm.strOf (V0 i), (intOf (V1 i)).toNat) : Asm.Lab)).flatMap Asm.labCells)[j]? = some u → W.cell? (a.add j) = some u := by
     intro j u hj
     obtain ⟨hj2, hu⟩ := Asm.flat_at len j u hj
     obtain ⟨s, q, hs, hq, _, _⟩ := key (j / 2) hj2
     obtain ⟨h1, h2, _, _⟩ := hx (j / 2) (by omega)
     rw [hu]
     split
     · rename_i e
       rw [show a.add j = a.add (j / 2 * 2) by rw [show j / 2 * 2 = j by omega], h1, hs]
       simp [Asm.strOf]
     · rename_i e
       rw [show a.add j = a.add (j / 2 * 2 + 1) by rw [show j / 2 * 2 + 1 = j by omega], h2, hq]
       simp [intOf]
    obtain ⟨T, hT⟩ := Asm.RowView.of_cells a len cap 2 _ hl hm (by decide) (by
     have : ∀ l : List Asm.Lab, (l.flatMap Asm.labCells).length = l.length * 2 := by
      intro l
      induction l with
      | nil => rfl
      | cons x l ih => simp [Asm.labCells, ih]; omega
     rw [this]; simp) hcells
    refine ⟨(List.range len).map fun i => (Asm.strOf (V0 i), (intOf (V1 i)).toNat), T, ?_, by rw [List.length_map, List.length_range]; exact hT, ?_⟩
    rotate_left
    · intro hwt
      have e1 : y2.1 = _ := congrArg Prod.fst hy
      rw [e1] at hwt
      have hb24 : Tryz.prog.bytesOf 42 = 24 := by kernel_rfl
      refine ⟨fun x hx' => ?_, ?_⟩
      · obtain ⟨i, hi, rfl⟩ := List.mem_map.1 hx'
        obtain ⟨s, q, hs, hq, hq2, hd⟩ := key i (List.mem_range.1 hi)
        have hmem : (DataW.agg [D0 i, D1 i] : DataW H) ∈ (List.range len).map fun i => .agg [D0 i, D1 i] := List.mem_map.2 ⟨i, hi, rfl⟩
        have h1 := hwt s.data.toList.length (by
         rw [DataW.weights, Tryz.underlying25]
         refine List.mem_cons_of_mem _ (List.mem_append_left _ (Asm.weights_mem hmem ?_))
         rw [DataW.weights, Tryz.underlying42, hd]
         exact List.mem_append_left _ List.mem_cons_self)
        rw [hs]
        simpa [Asm.strOf] using h1
      · have h1 := hwt _ (by rw [DataW.weights, Tryz.underlying25]; exact List.mem_cons_self)
        rw [hb24] at h1
        simp only [List.length_map, List.length_range] at h1 ⊢
        refine Nat.le_trans ?_ h1
        omega
    intro x hx'
    obtain ⟨i, hi, rfl⟩ := List.mem_map.1 hx'
    obtain ⟨s, q, hs, hq, hq2, hd⟩ := key i (List.mem_range.1 hi)
    rw [hq]
    simpa [intOf] using hq2
 obtain ⟨ws, Tw, a1, a2, a3⟩ := hw
 obtain ⟨ls, Tl, b1, b2, b3⟩ := hlab
 refine ⟨z.toNat, ws, ls, v1, v2, Tw, Tl, ?_, by omega, a1, a2, b2, b1, fun hwt => ?_⟩
 · rw [show ((z.toNat : Nat) : Int) = z by omega]
 · rw [DataW.weights, Tryz.underlying27] at hwt
   have h1 := b3 fun n hn => hwt n (List.mem_append_right _ (List.mem_append_right _ (List.mem_append_left _ hn)))
   have h2 := a3 fun n hn => hwt n (List.mem_append_right _ (List.mem_append_left _ hn))
   exact ⟨h1.1, h1.2, h2⟩
end Go.Proofs.YtabmlbnnhhpaoaaGreatDoor
