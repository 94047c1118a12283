/- What this claim needs of MAsmPrTop. -/
import Derived.Test.YtabmlbnnhhpaoaaGreatDoorTMAsmDisG
import Derived.Test.YtabmlbnnhhpaoaaGreatDoorTMAsmKnownG
import Derived.Test.YtabmlbnnhhpaoaaGreatDoorTMAsmPrRef
import Derived.Deep.DeepCutAuto
import Derived.Test.YtabmlbnnhhpaoaaGreatDoorTMAsmHexG
import Derived.Lib.SmallJoins
import Derived.Deep.SlicePairs
import Derived.ChangeSame
import Derived.Test.YtabmlbnnhhpaoaaGreatDoorCards
import Derived.Test.YtabmlbnnhhpaoaaGreatDoorTie
import Derived.SevenTiedAt
import Derived.Deep.DeepHandedRow
set_option linter.unusedSimpArgs false
set_option linter.unusedVariables false
set_option maxHeartbeats 4000000
set_option maxRecDepth 100000
namespace Go.Proofs.YtabmlbnnhhpaoaaGreatDoor
open Go.RowKit Go.Shelf
namespace Asm
def same (o1 : Nat) (ws1 : List Nat) (ls1 : List Lab) (o2 : Nat) (ws2 : List Nat) (ls2 : List Lab) : Bool := decide (o1 = o2 ∧ ws1 = ws2 ∧ ls1 = ls2)
theorem take_succ_of {α : Type} {l : List α} {i : Nat} {x : α} (h : l[i]? = some x) : l.take (i + 1) = l.take i ++ [x] := by
 obtain ⟨h1, h2⟩ := List.getElem?_eq_some_iff.1 h
 rw [List.take_succ_eq_append_getElem h1, h2]
theorem same_refl (o : Nat) (ws : List Nat) (ls : List Lab) : same o ws ls o ws ls = true := by simp [same]
end Asm
theorem same_calls {T1 T2 T3 T4 : TypeId} (o1 o2 : Nat) (ws1 ws2 : List Nat) (ls1 ls2 : List Asm.Lab) (wv1 wv2 lv1 lv2 : Value) (w : World)
 (hw1 : Asm.RowView w T1 wv1 ws1.length (ws1.map Asm.wordCells)) (hw2 : Asm.RowView w T2 wv2 ws2.length (ws2.map Asm.wordCells)) (hl1 : Asm.RowView w T3 lv1 ls1.length (ls1.flatMap Asm.labCells)) (hl2 : Asm.RowView w T4 lv2 ls2.length (ls2.flatMap Asm.labCells))
 (b1 : ws1.length ≤ 140737488355328) (b2 : ws2.length ≤ 140737488355328) (b3 : ls1.length ≤ 140737488355328) (b4 : ls2.length ≤ 140737488355328) :
 Calls Tryz.prog 14 #[.agg #[.int .u32 (o1 : Int), wv1, lv1], .agg #[.int .u32 (o2 : Int), wv2, lv2]] w fun e w' => e = .returned (.bool (Asm.same o1 ws1 ls1 o2 ws2 ls2)) ∧ Below w.heap.size w w' := by
 obtain ⟨p1, c1, rfl⟩ : ∃ p c, wv1 = .slice p ws1.length c := by obtain ⟨p, c, e, _⟩ := hw1; exact ⟨p, c, e⟩
 obtain ⟨p2, c2, rfl⟩ : ∃ p c, wv2 = .slice p ws2.length c := by obtain ⟨p, c, e, _⟩ := hw2; exact ⟨p, c, e⟩
 obtain ⟨p3, c3, rfl⟩ : ∃ p c, lv1 = .slice p ls1.length c := by obtain ⟨p, c, e, _⟩ := hl1; exact ⟨p, c, e⟩
 obtain ⟨p4, c4, rfl⟩ : ∃ p c, lv2 = .slice p ls2.length c := by obtain ⟨p, c, e, _⟩ := hl2; exact ⟨p, c, e⟩
 obtain ⟨R, hR⟩ : ∃ R, Asm.same o1 ws1 ls1 o2 ws2 ls2 = R := ⟨_, rfl⟩
 rw [hR]
 have H1 := Lib.hid hw1
 have H2 := Lib.hid hw2
 have H3 := Lib.hid hl1
 have H4 := Lib.hid hl2
 have HR := Lib.hid hR
 clear hw1 hw2 hl1 hl2 hR
 obtain ⟨n1, hn1⟩ : ∃ n, ws1.length = n := ⟨_, rfl⟩
 obtain ⟨n2, hn2⟩ : ∃ n, ws2.length = n := ⟨_, rfl⟩
 obtain ⟨n3, hn3⟩ : ∃ n, ls1.length = n := ⟨_, rfl⟩
 obtain ⟨n4, hn4⟩ : ∃ n, ls2.length = n := ⟨_, rfl⟩
 have HN := Lib.hid (And.intro hn1 (And.intro hn2 (And.intro hn3 hn4)))
 rw [hn1] at b1 ⊢
 rw [hn2] at b2 ⊢
 rw [hn3] at b3 ⊢
 rw [hn4] at b4 ⊢
 clear hn1 hn2 hn3 hn4
 have B0 := below_alloc' (below_alloc' (Below.refl w.heap.size w) (.cells #[.int .u32 (o1 : Int), .slice p1 n1 c1, .slice p3 n3 c3] 27)) (.cells #[.int .u32 (o2 : Int), .slice p2 n2 c2, .slice p4 n4 c4] 27)
 have K1 := blk_alloc (.cells #[.int .u32 (o2 : Int), .slice p2 n2 c2, .slice p4 n4 c4] 27) (heap_alloc_new w (.cells #[.int .u32 (o1 : Int), .slice p1 n1 c1, .slice p3 n3 c3] 27))
 have K2 := heap_alloc_new (w.alloc (.cells #[.int .u32 (o1 : Int), .slice p1 n1 c1, .slice p3 n3 c3] 27)) (.cells #[.int .u32 (o2 : Int), .slice p2 n2 c2, .slice p4 n4 c4] 27)
 rw [alloc_size] at K2
 have HB0 := Lib.hid B0
 have HK1 := Lib.hid K1
 have HK2 := Lib.hid K2
 clear B0 K1 K2
 by_cases ho : o1 = o2
 · subst ho
   by_cases hl : n1 = n2
   · subst hl
     by_cases hl2 : n3 = n4
     · subst hl2
       have hs : R = decide (ws1 = ws2 ∧ ls1 = ls2) := by rw [← HR.out]; simp [Asm.same]
       have HSM := Lib.hid hs
       clear hs HR
       have k1 := HK1.out
       have k2 := HK2.out
       go_enter Tryz.func14, Tryz.ntmps14
       go_wp2_with fail
       go_loopw [5] (fun v wr => ∃ i : Nat, v = .int .i64 (i : Int) ∧ i ≤ n1 ∧ Hid (ws1.take i = ws2.take i) ∧ wr.heap[w.heap.size]? = some (.cells #[.int .u32 (o1 : Int), .slice p1 n1 c1, .slice p3 n3 c3] 27 (0, 0)) ∧ wr.heap[w.heap.size + 1]? = some (.cells #[.int .u32 (o1 : Int), .slice p2 n1 c2, .slice p4 n3 c4] 27 (0, 0)) ∧ Hid (Below w.heap.size w wr)) (fun v _ => n1 - (intOf v).toNat)
       case atStart => exact ⟨0, rfl, Nat.zero_le _, Lib.hid rfl, k1, k2, HB0⟩
       case round =>
        clear k1 k2
        obtain ⟨i, rfl, hi, HT, k1, k2, HB⟩ := hrel
        have e1 := (blk_facts k1).1 1
        have e2 := (blk_facts k2).1 1
        have z1 := blk_size k1
        have z2 := blk_size k2
        by_cases hlt : i < n1
        · obtain ⟨x, hx⟩ : ∃ x, ws1[i]? = some x := ⟨ws1[i]'(by have := HN.out.1; omega), List.getElem?_eq_getElem _⟩
          obtain ⟨y, hy⟩ : ∃ y, ws2[i]? = some y := ⟨ws2[i]'(by have := HN.out.2.1; omega), List.getElem?_eq_getElem _⟩
          obtain ⟨g1, q1, r1, ep1, _, _, hg1, hc1⟩ := H1.out.cells (by have := HN.out.1; omega)
          obtain ⟨g2, q2, r2, ep2, _, _, hg2, hc2⟩ := H2.out.cells (by have := HN.out.2.1; omega)
          injection ep1 with a1 a2 a3
          injection ep2 with a4 a5 a6
          subst a1
          subst a3
          subst a4
          subst a6
          have f1 : wr.cell? ⟨g1, q1 + i, none⟩ = some (.int .u32 (x : Int)) := (HB.out.cell (p := ⟨g1, q1 + i, none⟩) hg1).trans (hc1 i _ (by rw [List.getElem?_map, hx]; rfl))
          have f2 : wr.cell? ⟨g2, q2 + i, none⟩ = some (.int .u32 (y : Int)) := (HB.out.cell (p := ⟨g2, q2 + i, none⟩) hg2).trans (hc2 i _ (by rw [List.getElem?_map, hy]; rfl))
          have ix1 := fun W => idx_word g1 q1 n1 c1 i hlt W
          have ix2 := fun W => idx_word g2 q2 n1 c2 i hlt W
          clear hc1 hc2
          by_cases hxy : x = y
          · subst hxy
            have HT2 : Hid (ws1.take (i + 1) = ws2.take (i + 1)) := Lib.hid (by rw [Asm.take_succ_of hx, Asm.take_succ_of hy, HT.out])
            clear hx hy
            go_wp2_with fail
            go_quiet (fail)
            all_goals go_wp2_with fail
            go_roundw
            case rel => exact ⟨i + 1, by go_num, by omega, HT2, k1, k2, Lib.hid (by first | exact below_drewN' HB.out _ | exact HB.out)⟩
            case measure => simp [intOf]; omega
          · have hb : ((x : Int) != (y : Int)) = true := by simp; omega
            have hbn : (x != y) = true := by simp [hxy]
            have hr : R = false := by
             rw [HSM.out]
             refine decide_eq_false fun h => hxy ?_
             rw [h.1] at hx
             rw [hx] at hy
             exact Option.some.inj hy
            subst hr
            clear hx hy hxy
            go_wp2_with fail
            go_quiet (fail)
            all_goals go_wp2_with fail
            go_ret
            exact ⟨rfl, by first | exact below_drewN' HB.out _ | exact HB.out⟩
        · have hin : i = n1 := by omega
          have hww : ws1 = ws2 := by
           have h := HT.out
           rw [List.take_of_length_le (by have := HN.out.1; omega), List.take_of_length_le (by have := HN.out.2.1; omega)] at h
           exact h
          have hs : R = decide (ls1 = ls2) := by rw [HSM.out]; simp [hww]
          have HS2 := Lib.hid hs
          clear hww hs hin
          go_wp2_with fail
          go_loopw [6] (fun v wr => ∃ i : Nat, v = .int .i64 (i : Int) ∧ i ≤ n3 ∧ Hid (ls1.take i = ls2.take i) ∧ wr.heap[w.heap.size]? = some (.cells #[.int .u32 (o1 : Int), .slice p1 n1 c1, .slice p3 n3 c3] 27 (0, 0)) ∧ wr.heap[w.heap.size + 1]? = some (.cells #[.int .u32 (o1 : Int), .slice p2 n1 c2, .slice p4 n3 c4] 27 (0, 0)) ∧ Hid (Below w.heap.size w wr)) (fun v _ => n3 - (intOf v).toNat)
          case atStart => exact ⟨0, rfl, Nat.zero_le _, Lib.hid rfl, k1, k2, HB⟩
          case round =>
           clear k1 k2 e1 e2
           obtain ⟨j, rfl, hj, HT2, k1, k2, HB2⟩ := hrel
           have e1 := (blk_facts k1).1 2
           have e2 := (blk_facts k2).1 2
           have z3 := blk_size k1
           have z4 := blk_size k2
           by_cases hjt : j < n3
           · obtain ⟨x, hx⟩ : ∃ x, ls1[j]? = some x := ⟨ls1[j]'(by have := HN.out.2.2.1; omega), List.getElem?_eq_getElem _⟩
             obtain ⟨y, hy⟩ : ∃ y, ls2[j]? = some y := ⟨ls2[j]'(by have := HN.out.2.2.2; omega), List.getElem?_eq_getElem _⟩
             obtain ⟨g1, q1, r1, ep1, _, _, hg1, hc1⟩ := H3.out.cells (by have := HN.out.2.2.1; omega)
             obtain ⟨g2, q2, r2, ep2, _, _, hg2, hc2⟩ := H4.out.cells (by have := HN.out.2.2.2; omega)
             injection ep1 with a1 a2 a3
             injection ep2 with a4 a5 a6
             subst a1
             subst a3
             subst a4
             subst a6
             have f1 := (HB2.out.cell (p := ⟨g1, q1 + j * 2, none⟩) hg1).trans (hc1 _ _ (Asm.labs_at ls1 j x hx).1)
             have f2 : wr.cell? ⟨g1, q1 + j * 2 + 1, none⟩ = some (.int .u32 (x.2 : Int)) := (HB2.out.cell (p := ⟨g1, q1 + j * 2 + 1, none⟩) hg1).trans (hc1 _ _ (Asm.labs_at ls1 j x hx).2)
             have f3 := (HB2.out.cell (p := ⟨g2, q2 + j * 2, none⟩) hg2).trans (hc2 _ _ (Asm.labs_at ls2 j y hy).1)
             have f4 : wr.cell? ⟨g2, q2 + j * 2 + 1, none⟩ = some (.int .u32 (y.2 : Int)) := (HB2.out.cell (p := ⟨g2, q2 + j * 2 + 1, none⟩) hg2).trans (hc2 _ _ (Asm.labs_at ls2 j y hy).2)
             have ix1 := fun W => idx_lab g1 q1 n3 c3 j hjt W
             have ix2 := fun W => idx_lab g2 q2 n3 c4 j hjt W
             clear hc1 hc2
             by_cases hxy : x = y
             · subst hxy
               have HT3 : Hid (ls1.take (j + 1) = ls2.take (j + 1)) := Lib.hid (by rw [Asm.take_succ_of hx, Asm.take_succ_of hy, HT2.out])
               clear hx hy
               go_wp2_with fail
               go_quiet (fail)
               all_goals go_wp2_with fail
               go_roundw
               case rel => exact ⟨j + 1, by go_num, by omega, HT3, k1, k2, Lib.hid (by first | exact below_drewN' HB2.out _ | exact HB2.out)⟩
               case measure => simp [intOf]; omega
             · have hr : R = false := by
                rw [HS2.out]
                refine decide_eq_false fun h => hxy ?_
                rw [h] at hx
                rw [hx] at hy
                exact Option.some.inj hy
               subst hr
               clear hx hy
               obtain ⟨x1, x2⟩ := x
               obtain ⟨y1, y2⟩ := y
               by_cases hn : x1 = y1
               · subst hn
                 have hz : ¬ x2 = y2 := fun h => hxy (by rw [h])
                 have hb1 : ((x2 : Int) == (y2 : Int)) = false := by simp; omega
                 have hb2 : (x2 == y2) = false := by simp; omega
                 have hb3 : ((x2 : Int) != (y2 : Int)) = true := by simp; omega
                 have hb4 : decide (x2 = y2) = false := by simp; omega
                 have hb5 : decide ((x2 : Int) = (y2 : Int)) = false := by simp; omega
                 clear hxy
                 go_wp2_with fail
                 go_quiet (fail)
                 all_goals go_wp2_with fail
                 go_ret
                 exact ⟨rfl, by first | exact below_drewN' HB2.out _ | exact HB2.out⟩
               · have hb1 : (x1 == y1) = false := by simp [hn]
                 have hb2 : (x1 != y1) = true := by simp [hn]
                 have hb4 : decide (x1 = y1) = false := by simp [hn]
                 clear hxy
                 go_wp2_with fail
                 go_quiet (fail)
                 all_goals go_wp2_with fail
                 go_ret
                 exact ⟨rfl, by first | exact below_drewN' HB2.out _ | exact HB2.out⟩
           · have hll : ls1 = ls2 := by
              have h := HT2.out
              rw [List.take_of_length_le (by have := HN.out.2.2.1; omega), List.take_of_length_le (by have := HN.out.2.2.2; omega)] at h
              exact h
             have hr : R = true := by rw [HS2.out]; simp [hll]
             subst hr
             clear hll
             go_wp2_with fail
             go_ret
             exact ⟨rfl, HB2.out⟩
     · have q3 : ((n3 : Int) != (n4 : Int)) = true := by simp; omega
       have hr : R = false := by
        rw [← HR.out]; unfold Asm.same
        refine decide_eq_false fun h => hl2 ?_
        rw [← HN.out.2.2.1, ← HN.out.2.2.2, h.2.2]
       subst hr
       clear hl2
       go_enter Tryz.func14, Tryz.ntmps14
       go_wp2_with fail
       go_ret
       exact ⟨rfl, HB0.out⟩
   · have q2 : ((n1 : Int) != (n2 : Int)) = true := by simp; omega
     have hr : R = false := by
      rw [← HR.out]; unfold Asm.same
      refine decide_eq_false fun h => hl ?_
      rw [← HN.out.1, ← HN.out.2.1, h.2.1]
     subst hr
     clear hl
     go_enter Tryz.func14, Tryz.ntmps14
     go_wp2_with fail
     go_ret
     exact ⟨rfl, HB0.out⟩
 · have q1 : ((o1 : Int) != (o2 : Int)) = true := by simp; omega
   have hr : R = false := by rw [← HR.out]; unfold Asm.same; exact decide_eq_false fun h => ho h.1
   subst hr
   clear ho
   go_enter Tryz.func14, Tryz.ntmps14
   go_wp2_with fail
   go_ret
   exact ⟨rfl, HB0.out⟩
theorem run_append_nil0 {P : Program} (t ty e : TypeId) (i : TypeInfo) (ht : P.underlying t = some (.slice e)) (hi : P.info? e = some i) (ao : Option Addr) (c : Nat) (w : World) :
 (Builtin.append_ #[t, t] ty #[.slice none 0 0, .slice ao 0 c]).run P w = .ok (.slice none 0 0) w := by
 cases ao <;> simp [Builtin.append_, run_underlying ht, sizeOf, typeInfo, hi, Builtin.lenOf, Builtin.firstCells, loadCells, loadCellsFrom]
theorem wpList_append_view {P : Program} {w : World} {ops : Array Oper} {rest : List Oper} {o : Oper} {a : Act} {Q : Exit → Act → World → Prop} (hgd : o.guard = none) (s x : Operand) (t : TypeId)
 (ho : o.op = .call { callee := .builtin .append, args := #[s, x], argTypes := #[t, t] })
 (base : Nat) (e : TypeId) (i : TypeInfo) (z : Value) (size bytes : Nat) (ht : P.underlying t = some (.slice e)) (hi : P.info? e = some i) (hz : i.zero = some z)
 (hsize : i.size = size) (hby : i.bytes = bytes) (hzs : z.cells.size = size) (hsz : 0 < size)
 (hs : a.eval s = .slice none 0 0) (p : Option Addr) (m c : Nat) (news : List Value) (hx : a.eval x = .slice p m c) {T : TypeId} (hv : Asm.RowView w T (.slice p m c) m news) (hl : news.length = m * size) (h1 : ∀ u ∈ news, u.oneCell' = true)
 (h63 : m ≤ maxLen) (hbytes : m * bytes ≤ 140737488355328) (hbase : base ≤ w.heap.size)
 (h : ∀ v' w', w'.ownsRow base e size v' m news → w.grownBy w' none → wpList P ops Q rest (a.put o.dst v') w') : wpList P ops Q (o :: rest) a w := by
 by_cases hm : m = 0
 · subst hm
   have hn : news = [] := List.eq_nil_of_length_eq_zero (by simpa using hl)
   subst hn
   refine wpList_plain hgd fun K hK => ?_
   have hrun := run_append_nil0 (P := P) t o.type e i ht hi p c w
   unfold Oper.wp
   simp [execOp, ho, resolve, invoke, builtin, hs, hx, hrun, Result.andThen]
   exact hK _ _ (h _ _ (World.ownsRow_nil _ _ _ _) (World.grownBy.refl _ _))
 · obtain ⟨g, q, cap, e1, h2, h3, h4, h5⟩ := hv.cells hm
   injection e1 with e2 _ e3
   subst e2
   subst e3
   refine wpList_append_own w hgd s x t ho base e i z size bytes ht hi hz hsize hby hzs hsz _ 0 [] hs (World.ownsRow_nil _ _ _ _) ⟨g, q, none⟩ m c news hx hl (fun j u hj => by rw [Addr.add_lit]; exact h5 j u hj) h1 (by omega) (by rw [Nat.zero_add]; exact hbytes) hbase ?_
   intro v' w' r1 r2 _
   simp only [Nat.zero_add, List.nil_append] at r1
   exact h v' w' r1 r2
namespace Asm
theorem RowView.take {w : World} {T : TypeId} {p : Option Addr} {n c : Nat} {xs : List Value} (h : RowView w T (.slice p n c) n xs) (m sz : Nat) (hm : m ≤ n) : RowView w T (.slice p m c) m (xs.take (m * sz)) := by
 obtain ⟨p', c', e, h1, h2, h3⟩ := h
 injection e with e1 _ e2
 subst e1
 subst e2
 refine ⟨p, c, rfl, by omega, h2, fun hn => ?_⟩
 obtain ⟨g, o, cur, fr, e, hg, hu⟩ := h3 (by omega)
 refine ⟨g, o, cur, fr, e, hg, fun j u hj => hu j u ?_⟩
 rw [List.getElem?_take] at hj
 split at hj
 · exact hj
 · cases hj
theorem take_words (ws : List Nat) (m : Nat) : (ws.map wordCells).take (m * 1) = (ws.take m).map wordCells := by rw [Nat.mul_one, List.map_take]
theorem take_labs : ∀ (ls : List Lab) (m : Nat), (ls.flatMap labCells).take (m * 2) = (ls.take m).flatMap labCells
 | [], m => by simp
 | x :: l, 0 => by simp
 | x :: l, m + 1 => by
  rw [List.flatMap_cons, List.take_succ_cons, List.flatMap_cons, show (m + 1) * 2 = (labCells x).length + m * 2 by simp [labCells]; omega, List.take_length_add_append, take_labs l m]
theorem labs_len (ls : List Lab) : (ls.flatMap labCells).length = ls.length * 2 := by
 induction ls with
 | nil => rfl
 | cons x l ih => simp [labCells, ih]; omega
structure PrW (w : World) (Y : Nat) (o n k : Nat) (pw pl : Option Addr) (cw cl : Nat) (v1 v2 v5 v6 : Value) (n5 n6 : Nat) (xs5 xs6 : List Value) (wr : World) : Prop where
 kx : wr.heap[w.heap.size]? = some (.cells #[.int .u32 (o : Int), .slice pw n cw, .slice pl k cl] 27 (0, 0))
 ky : wr.heap[Y]? = some (.cells #[.int .u32 (o : Int), v1, v2] 27 (0, 0))
 yx : w.heap.size < Y
 r5 : wr.ownsRow w.heap.size 23 1 v5 n5 xs5
 r6 : wr.ownsRow w.heap.size 42 2 v6 n6 xs6
 bel : Below w.heap.size w wr
variable {w : World} {Y o n k : Nat} {pw pl : Option Addr} {cw cl : Nat} {v1 v2 v5 v6 : Value} {n5 n6 : Nat} {xs5 xs6 : List Value} {wr wt : World}
theorem PrW.below (h : PrW w Y o n k pw pl cw cl v1 v2 v5 v6 n5 n6 xs5 xs6 wr) (hb : Below wr.heap.size wr wt) : PrW w Y o n k pw pl cw cl v1 v2 v5 v6 n5 n6 xs5 xs6 wt :=
 ⟨blk_keep hb h.kx, blk_keep hb h.ky, h.yx, ownsRow_below' h.r5 hb, ownsRow_below' h.r6 hb, below_next h.bel hb⟩
theorem PrW.grown5 (h : PrW w Y o n k pw pl cw cl v1 v2 v5 v6 n5 n6 xs5 xs6 wr) {v' : Value} {n' : Nat} {xs' : List Value} (hr : wt.ownsRow w.heap.size 23 1 v' n' xs') (hg : wr.grownBy wt v5.ownBlock) : PrW w Y o n k pw pl cw cl v1 v2 v' v6 n' n6 xs' xs6 wt :=
 ⟨(hg.block _ (blk_size h.kx) (rowNot h.r5 h.kx (by decide))).trans h.kx, (hg.block _ (blk_size h.ky) (rowNot h.r5 h.ky (by decide))).trans h.ky, h.yx, hr, h.r6.kept hg (rowsApart h.r6 h.r5 (by decide)),
  h.bel.trans ⟨hg.os, hg.tape, hg.output, hg.size, fun j hj => hg.block j (Nat.lt_of_lt_of_le hj h.bel.size) (fun e => by have := (row_lt h.r5 j e.symm).1; omega)⟩⟩
theorem PrW.grown6 (h : PrW w Y o n k pw pl cw cl v1 v2 v5 v6 n5 n6 xs5 xs6 wr) {v' : Value} {n' : Nat} {xs' : List Value} (hr : wt.ownsRow w.heap.size 42 2 v' n' xs') (hg : wr.grownBy wt v6.ownBlock) : PrW w Y o n k pw pl cw cl v1 v2 v5 v' n5 n' xs5 xs' wt :=
 ⟨(hg.block _ (blk_size h.kx) (rowNot h.r6 h.kx (by decide))).trans h.kx, (hg.block _ (blk_size h.ky) (rowNot h.r6 h.ky (by decide))).trans h.ky, h.yx, h.r5.kept hg (rowsApart h.r5 h.r6 (by decide)), hr,
  h.bel.trans ⟨hg.os, hg.tape, hg.output, hg.size, fun j hj => hg.block j (Nat.lt_of_lt_of_le hj h.bel.size) (fun e => by have := (row_lt h.r6 j e.symm).1; omega)⟩⟩
theorem PrW.alloc (h : PrW w Y o n k pw pl cw cl v1 v2 v5 v6 n5 n6 xs5 xs6 wr) (b : Obj) : PrW w Y o n k pw pl cw cl v1 v2 v5 v6 n5 n6 xs5 xs6 (wr.alloc b) := h.below (below_alloc' (Below.refl _ wr) b)
theorem PrW.setY1 (h : PrW w Y o n k pw pl cw cl v1 v2 v5 v6 n5 n6 xs5 xs6 wr) (x : Value) : PrW w Y o n k pw pl cw cl x v2 v5 v6 n5 n6 xs5 xs6 (wr.setCell ⟨Y, 1, none⟩ x) := by
 have hs := setCell_grown wr Y 1 x
 have hne : ∀ {b : Nat} {e : TypeId} {s : Nat} {v : Value} {m : Nat} {xs : List Value}, wr.ownsRow b e s v m xs → e ≠ 27 → v.ownBlock ≠ some Y := fun hr he e2 => rowNot hr h.ky (fun e3 => he e3.symm) e2.symm
 exact ⟨(hs.block _ (blk_size h.kx) (fun e => by have := h.yx; injection e with e; omega)).trans h.kx, setCell_row h.ky 1 x rfl, h.yx, h.r5.kept hs (.inr (hne h.r5 (by decide))), h.r6.kept hs (.inr (hne h.r6 (by decide))),
  h.bel.trans ⟨hs.os, hs.tape, hs.output, hs.size, fun j hj => hs.block j (Nat.lt_of_lt_of_le hj h.bel.size) (fun e => by have := h.yx; injection e with e; omega)⟩⟩
theorem PrW.setY2 (h : PrW w Y o n k pw pl cw cl v1 v2 v5 v6 n5 n6 xs5 xs6 wr) (x : Value) : PrW w Y o n k pw pl cw cl v1 x v5 v6 n5 n6 xs5 xs6 (wr.setCell ⟨Y, 2, none⟩ x) := by
 have hs := setCell_grown wr Y 2 x
 have hne : ∀ {b : Nat} {e : TypeId} {s : Nat} {v : Value} {m : Nat} {xs : List Value}, wr.ownsRow b e s v m xs → e ≠ 27 → v.ownBlock ≠ some Y := fun hr he e2 => rowNot hr h.ky (fun e3 => he e3.symm) e2.symm
 exact ⟨(hs.block _ (blk_size h.kx) (fun e => by have := h.yx; injection e with e; omega)).trans h.kx, setCell_row h.ky 2 x rfl, h.yx, h.r5.kept hs (.inr (hne h.r5 (by decide))), h.r6.kept hs (.inr (hne h.r6 (by decide))),
  h.bel.trans ⟨hs.os, hs.tape, hs.output, hs.size, fun j hj => hs.block j (Nat.lt_of_lt_of_le hj h.bel.size) (fun e => by have := h.yx; injection e with e; omega)⟩⟩
theorem row_head {b : Nat} {e : TypeId} {s : Nat} {v : Value} {m : Nat} {xs : List Value} (h : wr.ownsRow b e s v m xs) (hm : 0 < m) : ∃ g c, v = .slice (some ⟨g, 0, none⟩) m c ∧ m ≤ c := by
 rcases h.2 with ⟨_, hn⟩ | ⟨g, cap, cur, e1, hb, hg, h1, _⟩
 · omega
 · exact ⟨g, cap, e1, h1⟩
def mark5 : Nat → List Value
 | 0 => []
 | j + 1 => mark5 j ++ [.int .u32 2004318071]
def mark6 : Nat → List Value
 | 0 => []
 | j + 1 => mark6 j ++ [.string ⟨#[98, 101, 104, 105, 110, 100]⟩, .int .u32 0]
theorem mark5_len : ∀ j, (mark5 j).length = j
 | 0 => rfl
 | j + 1 => by simp [mark5, mark5_len j]
theorem PrW.push5 (h : PrW w Y o n k pw pl cw cl v1 v2 v5 v6 n5 n6 xs5 xs6 wr) {X : List Value} {j : Nat} {v' : Value} (hr : wt.ownsRow w.heap.size 23 1 v' (n5 + 1) (X ++ (mark5 j ++ [.int .u32 2004318071]))) (hg : wr.grownBy wt v5.ownBlock) : PrW w Y o n k pw pl cw cl v1 v2 v' v6 (n5 + 1) n6 (X ++ mark5 (j + 1)) xs6 wt := by
 exact h.grown5 hr hg
theorem PrW.push6 (h : PrW w Y o n k pw pl cw cl v1 v2 v5 v6 n5 n6 xs5 xs6 wr) {X : List Value} {j : Nat} {v' : Value} (hr : wt.ownsRow w.heap.size 42 2 v' (n6 + 1) (X ++ (mark6 j ++ [.string ⟨#[98, 101, 104, 105, 110, 100]⟩, .int .u32 0]))) (hg : wr.grownBy wt v6.ownBlock) : PrW w Y o n k pw pl cw cl v1 v2 v5 v' n5 (n6 + 1) xs5 (X ++ mark6 (j + 1)) wt := by
 exact h.grown6 hr hg
theorem row_set {b e s : Nat} {g c m : Nat} {xs : List Value} (h : wr.ownsRow b e s (.slice (some ⟨g, 0, none⟩) m c) m xs) (i : Nat) (x : Value) (hi : i < xs.length) : (wr.setCell ⟨g, i, none⟩ x).ownsRow b e s (.slice (some ⟨g, 0, none⟩) m c) m (xs.set i x) := by
 rcases h.2 with ⟨h0, _⟩ | ⟨g', cap, cur, e1, hb, hg, h1, h2, h3, h4⟩
 · cases h0
 · injection e1 with e2 _ e3
   injection e2 with e2
   injection e2 with e2
   subst e2
   subst e3
   refine ⟨by rw [List.length_set]; exact h.1, .inr ⟨g, c, cur.setIfInBounds i x, rfl, hb, setCell_row hg i x rfl, h1, h2, by simpa using h3, ?_⟩⟩
   rw [Array.toList_setIfInBounds, List.take_set, h4]
theorem PrW.set5 {g c : Nat} (h : PrW w Y o n k pw pl cw cl v1 v2 (.slice (some ⟨g, 0, none⟩) n5 c) v6 n5 n6 xs5 xs6 wr) (i : Nat) (x : Value) (hi : i < xs5.length) : PrW w Y o n k pw pl cw cl v1 v2 (.slice (some ⟨g, 0, none⟩) n5 c) v6 n5 n6 (xs5.set i x) xs6 (wr.setCell ⟨g, i, none⟩ x) :=
 h.grown5 (row_set h.r5 i x hi) (setCell_grown wr g i x)
theorem PrW.set6 {g c : Nat} (h : PrW w Y o n k pw pl cw cl v1 v2 v5 (.slice (some ⟨g, 0, none⟩) n6 c) n5 n6 xs5 xs6 wr) (i : Nat) (x : Value) (hi : i < xs6.length) : PrW w Y o n k pw pl cw cl v1 v2 v5 (.slice (some ⟨g, 0, none⟩) n6 c) n5 n6 xs5 (xs6.set i x) (wr.setCell ⟨g, i, none⟩ x) :=
 h.grown6 (row_set h.r6 i x hi) (setCell_grown wr g i x)
theorem row_cell {b e s : Nat} {g c m : Nat} {xs : List Value} (h : wr.ownsRow b e s (.slice (some ⟨g, 0, none⟩) m c) m xs) (j : Nat) (u : Value) (hj : xs[j]? = some u) : wr.cell? ⟨g, j, none⟩ = some u := by
 rcases h.2 with ⟨h0, _⟩ | ⟨g', cap, cur, e1, hb, hg, h1, h2, h3, h4⟩
 · cases h0
 · injection e1 with e2 _ e3
   injection e2 with e2
   injection e2 with e2
   subst e2
   rw [cell_of_row wr g j cur _ _ hg, ← Array.getElem?_toList]
   rw [← h4, List.getElem?_take] at hj
   split at hj
   · exact hj
   · cases hj
theorem row_free {b e s : Nat} {g c m : Nat} {xs : List Value} (h : wr.ownsRow b e s (.slice (some ⟨g, 0, none⟩) m c) m xs) (j : Nat) : wr.frozen? ⟨g, j, none⟩ = false ∧ g < wr.heap.size := by
 obtain ⟨cur, hg⟩ := row_type h (g := g) rfl
 exact ⟨(blk_facts hg).2 j, blk_size hg⟩
theorem row_view {T : TypeId} {sz g c n m : Nat} {X M : List Value} {b : Nat} (h : wr.ownsRow b T sz (.slice (some ⟨g, 0, none⟩) m c) m (X ++ M)) (hX : X.length = n * sz) (hn : n ≤ m) : RowView wr T (.slice (some ⟨g, 0, none⟩) n c) n X := by
 have h2 := RowView.take (RowView.of_row h) n sz hn
 rw [← hX, List.take_left] at h2
 exact h2
theorem fill5 (x : Value) (L : List Value) (i : Nat) (hi : i < L.length) : (List.replicate i x ++ L.drop i).set i x = List.replicate (i + 1) x ++ L.drop (i + 1) := by
 rw [List.set_append_right _ _ (by simp), List.length_replicate, Nat.sub_self, List.drop_eq_getElem_cons hi, List.set_cons_zero, List.replicate_succ', List.append_assoc]
 rfl
theorem mark5_at (X : List Value) (n j : Nat) (hX : X.length = n) (hj : j < 8) : (X ++ mark5 8)[n + j]? = some (.int .u32 2004318071) := by
 rw [List.getElem?_append_right (by omega), hX, show n + j - n = j by omega]
 rcases (show j = 0 ∨ j = 1 ∨ j = 2 ∨ j = 3 ∨ j = 4 ∨ j = 5 ∨ j = 6 ∨ j = 7 by omega) with rfl | rfl | rfl | rfl | rfl | rfl | rfl | rfl <;> rfl
theorem mark6_at (X : List Value) (k j : Nat) (hX : X.length = k * 2) (hj : j < 8) : (X ++ mark6 8)[(k + j) * 2]? = some (.string ⟨#[98, 101, 104, 105, 110, 100]⟩) ∧ (X ++ mark6 8)[(k + j) * 2 + 1]? = some (.int .u32 0) := by
 rw [List.getElem?_append_right (by omega), List.getElem?_append_right (by omega), hX, show (k + j) * 2 - k * 2 = j * 2 by omega, show (k + j) * 2 + 1 - k * 2 = j * 2 + 1 by omega]
 rcases (show j = 0 ∨ j = 1 ∨ j = 2 ∨ j = 3 ∨ j = 4 ∨ j = 5 ∨ j = 6 ∨ j = 7 by omega) with rfl | rfl | rfl | rfl | rfl | rfl | rfl | rfl <;> exact ⟨rfl, rfl⟩
def nm (i : Nat) : List UInt8 := [122, UInt8.ofNat (97 + i % 26), UInt8.ofNat (97 + i / 26 % 26), UInt8.ofNat (97 + i / 676)]
theorem nm_cat2 (i : Nat) : (⟨#[122]⟩ ++ ⟨#[97 + UInt8.ofNat (i % 26), 97 + UInt8.ofNat (i / 26 % 26), 97 + UInt8.ofNat (i / 676)]⟩ : ByteArray) = ⟨(nm (0 + i)).toArray⟩ := by
 apply ByteArray.ext
 simp [nm, UInt8.ofNat_add]
theorem nm_bytes (i : Nat) (h : i < 7000) : ((UInt8.ofNat (97 + i % 26)).toNat : Int) = 97 + (i : Int) % 26 ∧ ((UInt8.ofNat (97 + i / 26 % 26)).toNat : Int) = 97 + (i : Int) / 26 % 26 ∧ ((UInt8.ofNat (97 + i / 676)).toNat : Int) = 97 + (i : Int) / 676 := by
 simp only [UInt8.toNat_ofNat']
 omega
def ren : Nat → Nat → List Lab → List Lab
 | _, 0, l => l
 | _, _ + 1, [] => []
 | t, i + 1, x :: l => (nm t, x.2) :: ren (t + 1) i l
theorem ren_len : ∀ (i t : Nat) (l : List Lab), (ren t i l).length = l.length
 | 0, _, l => by simp [ren]
 | i + 1, _, [] => by simp [ren]
 | i + 1, t, x :: l => by simp [ren, ren_len i (t + 1) l]
theorem ren_set : ∀ (i t : Nat) (l : List Lab) (M : List Value), i < l.length → ((ren t i l).flatMap labCells ++ M).set (i * 2) (.string ⟨(nm (t + i)).toArray⟩) = (ren t (i + 1) l).flatMap labCells ++ M
 | 0, t, [], M, h => absurd h (by simp)
 | 0, t, x :: l, M, _ => by simp [ren, labCells]
 | i + 1, t, [], M, h => absurd h (by simp)
 | i + 1, t, x :: l, M, h => by
  have ih := ren_set i (t + 1) l M (by simpa using h)
  rw [show t + 1 + i = t + (i + 1) by omega] at ih
  rw [ren, ren, List.flatMap_cons, List.flatMap_cons]
  simp only [labCells, List.cons_append, List.nil_append, show (i + 1) * 2 = i * 2 + 1 + 1 by omega, List.set_cons_succ]
  rw [ih]
theorem ren_ok : ∀ (i t : Nat) (l : List Lab), (∀ x ∈ l, x.1.length ≤ 9223372036854775806 ∧ x.2 < 4294967296) → ∀ x ∈ ren t i l, x.1.length ≤ 9223372036854775806 ∧ x.2 < 4294967296
 | 0, _, l, h => by simpa [ren] using h
 | i + 1, _, [], h => by simp [ren]
 | i + 1, t, y :: l, h => by
  intro x hx
  simp only [ren, List.mem_cons] at hx
  rcases hx with rfl | hx
  · exact ⟨by simp [nm], (h y (by simp)).2⟩
  · exact ren_ok i (t + 1) l (fun z hz => h z (by simp [hz])) x hx
end Asm
theorem Asm.words_one (ws : List Nat) : ∀ u ∈ ws.map Asm.wordCells, u.oneCell' = true := by
 intro u hu
 obtain ⟨x, _, rfl⟩ := List.mem_map.1 hu
 rfl
theorem Asm.labs_one (ls : List Asm.Lab) : ∀ u ∈ ls.flatMap Asm.labCells, u.oneCell' = true := by
 intro u hu
 obtain ⟨x, _, hx⟩ := List.mem_flatMap.1 hu
 simp [Asm.labCells] at hx
 rcases hx with rfl | rfl <;> rfl
theorem Asm.below_set {B : Nat} {w wr : World} (h : Below B w wr) (hB : B ≤ w.heap.size) (g i : Nat) (v : Value) (hg : B ≤ g) : Below B w (wr.setCell ⟨g, i, none⟩ v) :=
 h.trans ⟨(Asm.setCell_grown wr g i v).os, (Asm.setCell_grown wr g i v).tape, (Asm.setCell_grown wr g i v).output, (Asm.setCell_grown wr g i v).size, fun j hj => (Asm.setCell_grown wr g i v).block j (by have := h.size; omega) (fun e => by injection e with e; omega)⟩
theorem Asm.dis_both (o n k : Nat) (ws : List Nat) (ls : List Asm.Lab) (hn : ws.length = n) (hk : ls.length = k) (ho : o < 4294967296) (hws : ∀ x ∈ ws, x < 4294967296) (hls : ∀ x ∈ ls, x.1.length ≤ 9223372036854775806 ∧ x.2 < 4294967296) (hn5 : n ≤ 5000) (hk7 : k ≤ 7000) (w : World) (hL : Isa.Laid w) (hH : Hex.Laid w) :
 ∃ (t : ByteArray) (e : Int), (∀ (W : World) (v1 v2 : Value), Asm.RowView W 23 v1 n (ws.map Asm.wordCells) → Asm.RowView W 42 v2 k (ls.flatMap Asm.labCells) → Below w.heap.size w W → Calls Tryz.prog 18 #[.agg #[.int .u32 (o : Int), v1, v2]] W fun r W' => r = .returned (.tuple #[.string t, .int .i64 e]) ∧ Below W.heap.size W W') ∧
  (∀ (T1 T2 : TypeId) (W : World) (v1 v2 : Value), Asm.RowView W T1 v1 n (ws.map Asm.wordCells) → Asm.RowView W T2 v2 k (ls.flatMap Asm.labCells) → Calls Tryz.prog 19 #[.agg #[.int .u32 (o : Int), v1, v2]] W fun r W' => r = .returned (.tuple #[.string t, .int .i64 e]) ∧ Below W.heap.size W W') := by
 subst hn
 subst hk
 exact ⟨_, _, fun W v1 v2 h1 h2 hb => dis_calls o ws ls v1 v2 W ho hws (by omega) h1 h2 hls (by omega) (hL.below hb) (hH.below hb), fun T1 T2 W v1 v2 h1 h2 => rdis_calls o ws ls v1 v2 W ho hws (by omega) h1 h2 hls (by omega)⟩
theorem Asm.same_both (o n k : Nat) (ws : List Nat) (ls : List Asm.Lab) (hn : ws.length = n) (hk : ls.length = k) (hn5 : n ≤ 5000) (hk7 : k ≤ 7000) :
 ∀ (T1 T2 T3 T4 : TypeId) (W : World) (v1 v2 v3 v4 : Value), Asm.RowView W T1 v1 n (ws.map Asm.wordCells) → Asm.RowView W T2 v2 k (ls.flatMap Asm.labCells) → Asm.RowView W T3 v3 n (ws.map Asm.wordCells) → Asm.RowView W T4 v4 k (ls.flatMap Asm.labCells) →
  Calls Tryz.prog 14 #[.agg #[.int .u32 (o : Int), v1, v2], .agg #[.int .u32 (o : Int), v3, v4]] W fun r W' => r = .returned (.bool true) ∧ Below W.heap.size W W' := by
 subst hn
 subst hk
 intro T1 T2 T3 T4 W v1 v2 v3 v4 h1 h2 h3 h4
 have h := same_calls o o ws ws ls ls v1 v3 v2 v4 W h1 h3 h2 h4 (by omega) (by omega) (by omega) (by omega)
 rw [Asm.same_refl] at h
 exact h
theorem prints_calls {Tw Tl : TypeId} (o : Nat) (ws : List Nat) (ls : List Asm.Lab) (wv lv : Value) (w : World) (ho : o < 4294967296) (hws : ∀ x ∈ ws, x < 4294967296) (hww : Asm.RowView w Tw wv ws.length (ws.map Asm.wordCells)) (hlv : Asm.RowView w Tl lv ls.length (ls.flatMap Asm.labCells))
 (hls : ∀ x ∈ ls, x.1.length ≤ 9223372036854775806 ∧ x.2 < 4294967296) (hL : Isa.Laid w) (hH : Hex.Laid w) :
 Calls Tryz.prog 4 #[.agg #[.int .u32 (o : Int), wv, lv]] w fun e w' => e = .returned (.bool true) ∧ Below w.heap.size w w' := by
 obtain ⟨pw, cw, rfl⟩ : ∃ p c, wv = .slice p ws.length c := by obtain ⟨p, c, e, _⟩ := hww; exact ⟨p, c, e⟩
 obtain ⟨pl, cl, rfl⟩ : ∃ p c, lv = .slice p ls.length c := by obtain ⟨p, c, e, _⟩ := hlv; exact ⟨p, c, e⟩
 obtain ⟨n0, hn0⟩ : ∃ n, ws.length = n := ⟨_, rfl⟩
 obtain ⟨k0, hk0⟩ : ∃ n, ls.length = n := ⟨_, rfl⟩
 have HW0 := Lib.hid hww
 have HV0 := Lib.hid hlv
 have hcw : n0 ≤ cw ∧ cw ≤ 9223372036854775807 := by
  obtain ⟨_, _, e, h, h2, _⟩ := hww
  injection e with _ _ e
  unfold maxLen at h2
  omega
 have hcl : k0 ≤ cl ∧ cl ≤ 9223372036854775807 := by
  obtain ⟨_, _, e, h, h2, _⟩ := hlv
  injection e with _ _ e
  unfold maxLen at h2
  omega
 obtain ⟨hcw, hcw2⟩ := hcw
 obtain ⟨hcl, hcl2⟩ := hcl
 rw [hn0]
 rw [hk0]
 have HN := Lib.hid (And.intro hn0 hk0)
 have HWS := Lib.hid hws
 have HLS := Lib.hid hls
 have HL := Lib.hid hL
 have HH := Lib.hid hH
 clear hww hlv hn0 hk0 hws hls hL hH
 have K0 := heap_alloc_new w (.cells #[.int .u32 (o : Int), .slice pw n0 cw, .slice pl k0 cl] 27)
 have B0 : Below w.heap.size w (w.alloc (.cells #[.int .u32 (o : Int), .slice pw n0 cw, .slice pl k0 cl] 27)) := below_alloc' (Below.refl _ _) _
 have hk := known_calls (w.alloc (.cells #[.int .u32 (o : Int), .slice pw n0 cw, .slice pl k0 cl] 27)) (HL.out.below (below_alloc' (Below.refl _ _) _)) (HH.out.below (below_alloc' (Below.refl _ _) _))
 go_enter Tryz.func4, Tryz.ntmps4
 go_wp2_with fail
 refine hk.mono ?_
 rintro e w1 ⟨rfl, hb1⟩
 have k1 := blk_keep hb1 K0
 have HB1 := Lib.hid (below_next B0 hb1)
 clear B0 K0 hk hb1
 obtain ⟨d1, f1⟩ := blk_facts k1
 have z1 := blk_size k1
 go_upto_if 25 with fail
 go_cut [] (fun wr => ∃ n, n ≤ 5000 ∧ n ≤ n0 ∧ n = min n0 5000 ∧ wr.heap[w.heap.size]? = some (.cells #[.int .u32 (o : Int), .slice pw n cw, .slice pl k0 cl] 27 (0, 0)) ∧ Hid (Below w.heap.size w wr))
 case first =>
  by_cases h5 : 5000 < n0
  · have n1 := d1 1
    have g1 := f1 1
    go_wp2_with fail
    go_meet
    case rel => exact ⟨5000, by omega, by omega, by omega, setCell_row k1 1 _ rfl, Lib.hid (Asm.below_set HB1.out (Nat.le_refl _) _ _ _ (Nat.le_refl _))⟩
  · go_wp2_with fail
    go_meet
    case rel => exact ⟨n0, by omega, by omega, by omega, k1, HB1⟩
 case rest =>
  clear HB1 k1 d1 f1 z1
  obtain ⟨n, hn5, hn0, hnm, k1, HB1⟩ := hcut
  have HNM := Lib.hid hnm
  clear hnm
  obtain ⟨d1, f1⟩ := blk_facts k1
  have z1 := blk_size k1
  go_upto_if 33 with fail
  go_cut [] (fun wr => ∃ k, k ≤ 7000 ∧ k ≤ k0 ∧ k = min k0 7000 ∧ wr.heap[w.heap.size]? = some (.cells #[.int .u32 (o : Int), .slice pw n cw, .slice pl k cl] 27 (0, 0)) ∧ Hid (Below w.heap.size w wr))
  case first =>
   by_cases h7 : 7000 < k0
   · have n2 := d1 2
     have g2 := f1 2
     go_wp2_with fail
     go_meet
     case rel => exact ⟨7000, by omega, by omega, by omega, setCell_row k1 2 _ rfl, Lib.hid (Asm.below_set HB1.out (Nat.le_refl _) _ _ _ (Nat.le_refl _))⟩
   · go_wp2_with fail
     go_meet
     case rel => exact ⟨k0, by omega, by omega, by omega, k1, HB1⟩
  case rest =>
   clear HB1 k1 d1 f1 z1
   obtain ⟨k, hk7, hk0, hkm, k1, HB1⟩ := hcut
   have HKM := Lib.hid hkm
   clear hkm
   obtain ⟨ws1, hws1⟩ : ∃ l, ws.take n = l := ⟨_, rfl⟩
   obtain ⟨ls1, hls1⟩ : ∃ l, ls.take k = l := ⟨_, rfl⟩
   have nw : ws1.length = n := by rw [← hws1, List.length_take, HN.out.1]; omega
   have nl : ls1.length = k := by rw [← hls1, List.length_take, HN.out.2]; omega
   have HRW : Hid (Asm.RowView w Tw (.slice pw n cw) n (ws1.map Asm.wordCells)) := Lib.hid (by
    have h := HW0.out
    rw [HN.out.1] at h
    have h2 := Asm.RowView.take h n 1 hn0
    rw [Asm.take_words, hws1] at h2
    exact h2)
   have HRL : Hid (Asm.RowView w Tl (.slice pl k cl) k (ls1.flatMap Asm.labCells)) := Lib.hid (by
    have h := HV0.out
    rw [HN.out.2] at h
    have h2 := Asm.RowView.take h k 2 hk0
    rw [Asm.take_labs, hls1] at h2
    exact h2)
   have HWS1 : Hid (∀ x ∈ ws1, x < 4294967296) := Lib.hid fun x hx => HWS.out x (by rw [← hws1] at hx; exact List.mem_of_mem_take hx)
   have HLS1 : Hid (∀ x ∈ ls1, x.1.length ≤ 9223372036854775806 ∧ x.2 < 4294967296) := Lib.hid fun x hx => HLS.out x (by rw [← hls1] at hx; exact List.mem_of_mem_take hx)
   have HN1 := Lib.hid (And.intro nw nl)
   clear hws1 hls1 nw nl HW0 HV0 HWS HLS HN HNM HKM hcw hcl hcw2 hcl2
   obtain ⟨d1, f1⟩ := blk_facts k1
   have z1 := blk_size k1
   obtain ⟨i5, hi5, hz50, hz51, hz52⟩ := info_parts (show (Tryz.prog.info? 23).map (fun i => (i.zero, i.size, i.bytes)) = some (some (.int .u32 0), 1, 4) by kernel_rfl)
   obtain ⟨i6, hi6, hz60, hz61, hz62⟩ := info_parts (show (Tryz.prog.info? 42).map (fun i => (i.zero, i.size, i.bytes)) = some (some (.agg #[.string ⟨#[]⟩, .int .u32 0]), 2, 24) by kernel_rfl)
   have K2 := heap_alloc_new wc (.cells #[.int .u32 (o : Int), .slice pw n cw, .slice pl k cl] 27)
   have k2 := blk_alloc (.cells #[.int .u32 (o : Int), .slice pw n cw, .slice pl k cl] 27) k1
   have HB2 := Lib.hid (below_alloc' HB1.out (.cells #[.int .u32 (o : Int), .slice pw n cw, .slice pl k cl] 27))
   have hz2 : w.heap.size ≤ (wc.alloc (.cells #[.int .u32 (o : Int), .slice pw n cw, .slice pl k cl] 27)).heap.size := HB2.out.size
   go_wp2_with (first
    | (at_builtin; refine wpList_append_view rfl (.tmp 39) (.tmp 41) 24 rfl w.heap.size 23 i5 (.int .u32 0) 1 4 Tryz.underlying24 hi5 hz50 hz51 hz52 rfl (by decide) rfl pw n cw (ws1.map Asm.wordCells) rfl (HRW.out.below HB2.out) (by simp [HN1.out.1]) (Asm.words_one ws1) (by unfold maxLen; omega) (by omega) hz2 ?_))
   intro v5 w2 r5 g5
   have HP : Hid (Asm.PrW w wc.heap.size o n k pw pl cw cl (.slice pw n cw) (.slice pl k cl) v5 (.slice none 0 0) n 0 (ws1.map Asm.wordCells) [] w2) := Lib.hid
    ⟨(g5.block _ (blk_size k2) (by simp)).trans k2, (g5.block _ (blk_size K2) (by simp)).trans K2, z1, r5, World.ownsRow_nil _ _ _ _, HB2.out.trans ⟨g5.os, g5.tape, g5.output, g5.size, fun j hj => g5.block j (Nat.lt_of_lt_of_le hj hz2) (by simp)⟩⟩
   clear k1 d1 f1 K2 k2 HB2 hz2 g5 r5 HB1
   obtain ⟨d2, f2⟩ := blk_facts HP.out.kx
   have z2 := HP.out.bel.size
   go_wp2_with (first
    | (at_builtin; refine wpList_append_view rfl (.tmp 43) (.tmp 45) 25 rfl w.heap.size 42 i6 (.agg #[.string ⟨#[]⟩, .int .u32 0]) 2 24 Tryz.underlying25 hi6 hz60 hz61 hz62 rfl (by decide) rfl pl k cl (ls1.flatMap Asm.labCells) rfl (HRL.out.below HP.out.bel) (by rw [Asm.labs_len, HN1.out.2]) (Asm.labs_one ls1) (by unfold maxLen; omega) (by omega) z2 ?_))
   intro v6 w3 r6 g6
   have HP2 := Lib.hid (HP.out.grown6 r6 g6)
   clear HP d2 f2 z2 g6 r6
   have e5 : (ws1.map Asm.wordCells).length = n := by simp [HN1.out.1]
   have e6 : (ls1.flatMap Asm.labCells).length = k * 2 := by rw [Asm.labs_len, HN1.out.2]
   generalize hX5 : ws1.map Asm.wordCells = X5 at HP2 e5
   generalize hX6 : ls1.flatMap Asm.labCells = X6 at HP2 e6
   have HX := Lib.hid (And.intro hX5 hX6)
   clear hX5 hX6
   go_wp2_with fail
   go_loopw [5, 6, 7] (fun v5 v6 i wr => ∃ j : Nat, i = .int .i64 (j : Int) ∧ j ≤ 8 ∧ Hid (Asm.PrW w wc.heap.size o n k pw pl cw cl (.slice pw n cw) (.slice pl k cl) v5 v6 (n + j) (k + j) (X5 ++ Asm.mark5 j) (X6 ++ Asm.mark6 j) wr)) (fun _ _ i _ => 8 - (intOf i).toNat)
   case atStart => exact ⟨0, rfl, by decide, Lib.hid (by simpa [Asm.mark5, Asm.mark6] using HP2.out)⟩
   case round =>
    clear HP2
    obtain ⟨j, rfl, hj, HP⟩ := hrel
    by_cases hlt : j < 8
    · have zr := HP.out.bel.size
      go_wp2_with (first
       | (at_builtin; refine wpList_append_own _ rfl (.tmp 51) (.tmp 52) 24 rfl w.heap.size 23 i5 (.int .u32 0) 1 4 Tryz.underlying24 hi5 hz50 hz51 hz52 rfl (by decide) _ _ _ rfl (HP.out.alloc _).r5 ⟨wr.heap.size, 0, none⟩ 1 1 [.int .u32 2004318071] rfl rfl ?c1 ?c2 ?c3 ?c4 ?c5 ?_))
      case c1 =>
       intro j u hj
       match j, hj with
       | 0, hj => simp at hj; subst hj; simp [Addr.add]
      case c2 => intro u hu; simp at hu; subst hu; rfl
      case c3 => unfold maxLen; omega
      case c4 => omega
      case c5 => simp; omega
      intro v5' w4 r4 g4 _
      have HP4 := Lib.hid ((HP.out.alloc _).push5 r4 g4)
      clear HP r4 g4 zr
      have zr := HP4.out.bel.size
      go_wp2_with (first
       | (at_builtin; refine wpList_append_own _ rfl (.tmp 54) (.tmp 56) 25 rfl w.heap.size 42 i6 (.agg #[.string ⟨#[]⟩, .int .u32 0]) 2 24 Tryz.underlying25 hi6 hz60 hz61 hz62 rfl (by decide) _ _ _ rfl (HP4.out.alloc _).r6 ⟨w4.heap.size, 0, none⟩ 1 1 [.string ⟨#[98, 101, 104, 105, 110, 100]⟩, .int .u32 0] rfl rfl ?d1 ?d2 ?d3 ?d4 ?d5 ?_))
      case d1 =>
       intro j u hj
       match j, hj with
       | 0, hj => simp at hj; subst hj; simp [Addr.add]
       | 1, hj => simp at hj; subst hj; simp [Addr.add]
      case d2 => intro u hu; simp at hu; rcases hu with rfl | rfl <;> rfl
      case d3 => unfold maxLen; omega
      case d4 => omega
      case d5 => simp; omega
      intro v6' w5 r5 g5 _
      have HP5 := Lib.hid ((HP4.out.alloc _).push6 r5 g5)
      clear HP4 r5 g5 zr
      go_wp2_with fail
      go_roundw
      case rel => exact ⟨j + 1, by go_num, by omega, HP5⟩
      case measure => simp [intOf]; omega
    · have hj8 : j = 8 := by omega
      subst hj8
      clear hlt hj
      obtain ⟨g5, c5, rfl, hg5⟩ := Asm.row_head HP.out.r5 (by omega)
      obtain ⟨g6, c6, rfl, hg6⟩ := Asm.row_head HP.out.r6 (by omega)
      obtain ⟨dx, fx⟩ := blk_facts HP.out.kx
      obtain ⟨dy, fy⟩ := blk_facts HP.out.ky
      have zx := blk_size HP.out.kx
      have zy := blk_size HP.out.ky
      go_wp2_with fail
      have HP6 := Lib.hid ((HP.out.setY1 (.slice (some ⟨g5, 0, none⟩) n c5)).setY2 (.slice (some ⟨g6, 0, none⟩) k c6))
      clear HP dx fx dy fy zx zy
      generalize (wr.setCell ⟨wc.heap.size, 1, none⟩ (.slice (some ⟨g5, 0, none⟩) n c5)).setCell ⟨wc.heap.size, 2, none⟩ (.slice (some ⟨g6, 0, none⟩) k c6) = w6 at HP6 ⊢
      obtain ⟨tD, eD, hD, hR⟩ := Asm.dis_both o n k ws1 ls1 HN1.out.1 HN1.out.2 ho HWS1.out HLS1.out hn5 hk7 w HL.out HH.out
      have hS := Asm.same_both o n k ws1 ls1 HN1.out.1 HN1.out.2 hn5 hk7
      rw [HX.out.1, HX.out.2] at hD hR hS
      have hD1 := hD w6 _ _ (Asm.row_view HP6.out.r5 (by rw [e5, Nat.mul_one]) (by omega)) (Asm.row_view HP6.out.r6 e6 (by omega)) HP6.out.bel
      have HR := Lib.hid hR
      have HS := Lib.hid hS
      clear hD hR hS
      refine hD1.mono ?_
      rintro e w7 ⟨rfl, hb7⟩
      have HP7 := Lib.hid (HP6.out.below hb7)
      clear hD1 HP6 hb7
      obtain ⟨dx, fx⟩ := blk_facts HP7.out.kx
      obtain ⟨dy, fy⟩ := blk_facts HP7.out.ky
      go_wp2_with fail
      have hV1 := HRW.out.below HP7.out.bel
      have hV2 := HRL.out.below HP7.out.bel
      rw [HX.out.1] at hV1
      rw [HX.out.2] at hV2
      refine (HS.out _ _ _ _ w7 _ _ _ _ (Asm.row_view HP7.out.r5 (by rw [e5, Nat.mul_one]) (by omega)) (Asm.row_view HP7.out.r6 e6 (by omega)) hV1 hV2).mono ?_
      rintro e w8 ⟨rfl, hb8⟩
      have HP8 := Lib.hid (HP7.out.below hb8)
      clear HP7 hb8 dx fx dy fy HS hV1 hV2
      obtain ⟨dx, fx⟩ := blk_facts HP8.out.kx
      obtain ⟨dy, fy⟩ := blk_facts HP8.out.ky
      go_wp2_with fail
      have hV1 := HRW.out.below HP8.out.bel
      have hV2 := HRL.out.below HP8.out.bel
      rw [HX.out.1] at hV1
      rw [HX.out.2] at hV2
      refine (HR.out _ _ w8 _ _ hV1 hV2).mono ?_
      rintro e w9 ⟨rfl, hb9⟩
      have HP9 := Lib.hid (HP8.out.below hb9)
      clear HP8 hb9 dx fx dy fy HR hV1 hV2
      have eL : (X5 ++ Asm.mark5 8).length = n + 8 := by rw [List.length_append, e5, Asm.mark5_len]
      go_wp2_with fail
      go_loopw [13] (fun i wr => ∃ j : Nat, i = .int .i64 (j : Int) ∧ j ≤ n ∧ Hid (Asm.PrW w wc.heap.size o n k pw pl cw cl (.slice (some ⟨g5, 0, none⟩) n c5) (.slice (some ⟨g6, 0, none⟩) k c6) (.slice (some ⟨g5, 0, none⟩) (n + 8) c5) (.slice (some ⟨g6, 0, none⟩) (k + 8) c6) (n + 8) (k + 8) (List.replicate j (.int .u32 3221225472) ++ (X5 ++ Asm.mark5 8).drop j) (X6 ++ Asm.mark6 8) wr)) (fun i _ => n - (intOf i).toNat)
      case atStart => exact ⟨0, rfl, Nat.zero_le _, Lib.hid (by simpa using HP9.out)⟩
      case round =>
       clear HP9
       obtain ⟨j, rfl, hj, HP⟩ := hrel
       obtain ⟨dx, fx⟩ := blk_facts HP.out.kx
       have zx := blk_size HP.out.kx
       by_cases hlt : j < n
       · have ix : ∀ W, (Instr.indexAt 24 (.slice (some ⟨g5, 0, none⟩) (n + 8) c5) (.int .i64 (j : Int))).run Tryz.prog W = .ok (.pointer (some ⟨g5, j, none⟩)) W := fun W => by simpa using idx_word g5 0 (n + 8) c5 j (by omega) W
         obtain ⟨fr, zg⟩ := Asm.row_free HP.out.r5 j
         have cj := Asm.row_cell HP.out.r5 j ((X5 ++ Asm.mark5 8)[j]'(by omega)) (by rw [List.getElem?_append_right (by simp), List.length_replicate, Nat.sub_self, List.getElem?_drop]; simp)
         go_wp2_with fail
         have HPn := HP.out.set5 j (.int .u32 3221225472) (by simp; omega)
         rw [Asm.fill5 _ _ j (by omega)] at HPn
         have HP2 := Lib.hid HPn
         clear HPn HP ix fr zg cj dx fx
         go_wp2_with fail
         go_roundw
         case rel => exact ⟨j + 1, by go_num, by omega, HP2⟩
         case measure => simp [intOf]; omega
       · have hjn : n = j := by omega
         subst hjn
         clear hlt hj
         have hd : (X5 ++ Asm.mark5 8).drop n = Asm.mark5 8 := by rw [← e5, List.drop_left]
         have HP2 := HP.out
         rw [hd] at HP2
         have HQ := Lib.hid HP2
         clear HP2 hd HP eL
         rw [← HX.out.2] at HQ
         go_wp2_with fail
         clear dx fx zx
         go_loopw [14] (fun i wr => ∃ j : Nat, i = .int .i64 (j : Int) ∧ j ≤ k ∧ Hid (Asm.PrW w wc.heap.size o n k pw pl cw cl (.slice (some ⟨g5, 0, none⟩) n c5) (.slice (some ⟨g6, 0, none⟩) k c6) (.slice (some ⟨g5, 0, none⟩) (n + 8) c5) (.slice (some ⟨g6, 0, none⟩) (k + 8) c6) (n + 8) (k + 8) (List.replicate n (.int .u32 3221225472) ++ Asm.mark5 8) ((Asm.ren 0 j ls1).flatMap Asm.labCells ++ Asm.mark6 8) wr)) (fun i _ => k - (intOf i).toNat)
         case atStart => exact ⟨0, rfl, Nat.zero_le _, HQ⟩
         case round =>
          clear HQ
          obtain ⟨j, rfl, hj, HP⟩ := hrel
          obtain ⟨dx, fx⟩ := blk_facts HP.out.kx
          have zx := blk_size HP.out.kx
          by_cases hlt : j < k
          · have ix : ∀ W, (Instr.indexAt 25 (.slice (some ⟨g6, 0, none⟩) (k + 8) c6) (.int .i64 (j : Int))).run Tryz.prog W = .ok (.pointer (some ⟨g6, j * 2, none⟩)) W := fun W => by simpa using idx_lab g6 0 (k + 8) c6 j (by omega) W
            obtain ⟨fr, zg⟩ := Asm.row_free HP.out.r6 (j * 2)
            have el : j * 2 < ((Asm.ren 0 j ls1).flatMap Asm.labCells ++ Asm.mark6 8).length := by rw [List.length_append, Asm.labs_len, Asm.ren_len, HN1.out.2]; omega
            have cj := Asm.row_cell HP.out.r6 (j * 2) _ (List.getElem?_eq_getElem el)
            obtain ⟨q1, q2, q3⟩ := Asm.nm_bytes j (by omega)
            have hcv : (convert 47 9 (.slice (some ⟨wr.heap.size, 0, none⟩) 3 3)).run Tryz.prog (wr.alloc (.cells #[.int .u8 (97 + (j : Int) % 26), .int .u8 (97 + (j : Int) / 26 % 26), .int .u8 (97 + (j : Int) / 676)] 5)) = .ok (.string ⟨#[UInt8.ofNat (97 + j % 26), UInt8.ofNat (97 + j / 26 % 26), UInt8.ofNat (97 + j / 676)]⟩) (wr.alloc (.cells #[.int .u8 (97 + (j : Int) % 26), .int .u8 (97 + (j : Int) / 26 % 26), .int .u8 (97 + (j : Int) / 676)] 5)) :=
             run_convert_bytes_back _ 47 9 5 ⟨wr.heap.size, 0, none⟩ 3 [UInt8.ofNat (97 + j % 26), UInt8.ofNat (97 + j / 26 % 26), UInt8.ofNat (97 + j / 676)] Tryz.underlying47 Tryz.underlying5 Tryz.underlying9 (fun i hi => by
              rw [Addr.add_lit, Nat.zero_add, (blk_facts (heap_alloc_new wr _)).1]
              simp only [List.length_cons, List.length_nil] at hi
              rcases (show i = 0 ∨ i = 1 ∨ i = 2 by omega) with rfl | rfl | rfl
              · simp [q1]; omega
              · simp [q2]; omega
              · simp [q3]; omega)
            clear q1 q2 q3
            go_wp2_with fail
            go_roundw
            case rel =>
             refine ⟨j + 1, by go_num, by omega, Lib.hid ?_⟩
             rw [Asm.nm_cat2, ← Asm.ren_set j 0 ls1 _ (by rw [HN1.out.2]; exact hlt)]
             exact (HP.out.set6 (j * 2) _ el).alloc _
            case measure => simp [intOf]; omega
          · have hjn : k = j := by omega
            subst hjn
            clear hlt hj
            have HP10 := HP
            clear HP
            obtain ⟨dy, fy⟩ := blk_facts HP10.out.ky
            have hl2 : (Asm.ren 0 k ls1).length = k := by rw [Asm.ren_len, HN1.out.2]
            obtain ⟨tE, eE, hD, hR⟩ := Asm.dis_both o n k (List.replicate n 3221225472) (Asm.ren 0 k ls1) (by simp) hl2 ho (fun x hx => by rw [List.eq_of_mem_replicate hx]; decide) (Asm.ren_ok k 0 ls1 HLS1.out) hn5 hk7 w HL.out HH.out
            rw [show (List.replicate n 3221225472).map Asm.wordCells = List.replicate n (.int .u32 3221225472) from by simp [Asm.wordCells]] at hD hR
            have hD1 := hD wr _ _ (Asm.row_view HP10.out.r5 (by simp) (by omega)) (Asm.row_view HP10.out.r6 (by rw [Asm.labs_len, hl2]) (by omega)) HP10.out.bel
            have HR := Lib.hid hR
            have HL2 := Lib.hid hl2
            clear hD hR hl2
            go_wp2_with fail
            refine hD1.mono ?_
            rintro e w11 ⟨rfl, hb11⟩
            have HP11 := Lib.hid (HP10.out.below hb11)
            clear hD1 HP10 hb11 dx fx dy fy zx
            obtain ⟨dx, fx⟩ := blk_facts HP11.out.kx
            obtain ⟨dy, fy⟩ := blk_facts HP11.out.ky
            have hR1 := HR.out _ _ w11 _ _ (Asm.row_view HP11.out.r5 (by simp) (by omega)) (Asm.row_view HP11.out.r6 (by rw [Asm.labs_len, HL2.out]) (by omega))
            go_wp2_with fail
            refine hR1.mono ?_
            rintro e w12 ⟨rfl, hb12⟩
            have HP12 := Lib.hid (HP11.out.below hb12)
            clear hR1 HP11 hb12 dx fx dy fy HR
            go_wp2_with fail
            go_loopw [19, 20] (fun b i wr => ∃ j : Nat, i = .int .i64 (j : Int) ∧ j ≤ 8 ∧ b = .bool true ∧ Hid (Asm.PrW w wc.heap.size o n k pw pl cw cl (.slice (some ⟨g5, 0, none⟩) n c5) (.slice (some ⟨g6, 0, none⟩) k c6) (.slice (some ⟨g5, 0, none⟩) (n + 8) c5) (.slice (some ⟨g6, 0, none⟩) (k + 8) c6) (n + 8) (k + 8) (List.replicate n (.int .u32 3221225472) ++ Asm.mark5 8) ((Asm.ren 0 k ls1).flatMap Asm.labCells ++ Asm.mark6 8) wr)) (fun _ i _ => 8 - (intOf i).toNat)
            case atStart => exact ⟨0, rfl, by decide, rfl, HP12⟩
            case round =>
             clear HP12
             obtain ⟨j, rfl, hj, rfl, HP⟩ := hrel
             obtain ⟨dx, fx⟩ := blk_facts HP.out.kx
             by_cases hlt : j < 8
             · have ix5 : ∀ W, (Instr.indexAt 24 (.slice (some ⟨g5, 0, none⟩) (n + 8) c5) (.int .i64 ((n : Int) + (j : Int)))).run Tryz.prog W = .ok (.pointer (some ⟨g5, n + j, none⟩)) W := fun W => by simpa using idx_word g5 0 (n + 8) c5 (n + j) (by omega) W
               have ix6 : ∀ W, (Instr.indexAt 25 (.slice (some ⟨g6, 0, none⟩) (k + 8) c6) (.int .i64 ((k : Int) + (j : Int)))).run Tryz.prog W = .ok (.pointer (some ⟨g6, (k + j) * 2, none⟩)) W := fun W => by simpa using idx_lab g6 0 (k + 8) c6 (k + j) (by omega) W
               have y5 := Asm.row_cell HP.out.r5 _ _ (Asm.mark5_at _ n j (by simp) hlt)
               have y6 := Asm.row_cell HP.out.r6 _ _ (Asm.mark6_at _ k j (by rw [Asm.labs_len, HL2.out]) hlt).1
               have y7 := Asm.row_cell HP.out.r6 _ _ (Asm.mark6_at _ k j (by rw [Asm.labs_len, HL2.out]) hlt).2
               go_wp2_with fail
               go_roundw
               case rel => exact ⟨j + 1, by go_num, by omega, rfl, HP⟩
               case measure => simp [intOf]; omega
             · have hj8 : j = 8 := by omega
               subst hj8
               clear hlt hj
               go_wp2_with fail
               go_ret
               exact ⟨rfl, HP.out.bel⟩
end Go.Proofs.YtabmlbnnhhpaoaaGreatDoor
namespace Go.Proofs.YtabmlbnnhhpaoaaGreatDoor
open Go.Joins Go.ChangeShapes Go.WideShapes Go.ChangeAt Go.RowKit Go.Deep
namespace Asm
theorem bulk_part {H : Type} {d : DataW H} {l : List (DataW H)} (h : d ∈ l) : Rows.uptoBulk d ≤ Rows.uptoBulkAll l := by
 induction l with
 | nil => cases h
 | cons x r ih =>
  simp only [Rows.uptoBulkAll]
  rcases List.mem_cons.1 h with rfl | e
  · omega
  · have := ih e; omega
theorem cell_parts {W : World} {a : Addr} {v : Value} (h : W.cell? a = some v) : ∃ g o cur T fr, a = ⟨g, o, none⟩ ∧ W.heap[g]? = some (.cells cur T fr) ∧ cur[o]? = some v := by
 obtain ⟨g, o, sp⟩ := a
 unfold World.cell? at h
 simp only at h
 split at h
 · rename_i c T fr hh
   cases sp with
   | none => exact ⟨g, o, c, T, fr, rfl, hh, by simpa using h⟩
   | some s => simp at h
 · cases h
theorem RowView.of_cells {W : World} (a : Addr) (len cap sz : Nat) (X : List Value) (hl : len ≤ cap) (hm : cap ≤ maxLen) (hsz : 0 < sz) (hX : X.length = len * sz) (hc : ∀ (j : Nat) (u : Value), X[j]? = some u → W.cell? (a.add j) = some u) : ∃ T, RowView W T (.slice (some a) len cap) len X := by
 by_cases h0 : len = 0
 · exact ⟨0, some a, cap, rfl, hl, hm, fun h => absurd h0 h⟩
 · have hpos : 0 < X.length := by rw [hX]; exact Nat.mul_pos (by omega) hsz
   obtain ⟨g, o, cur, T, fr, ea, hg, _⟩ := cell_parts (hc 0 _ (List.getElem?_eq_getElem hpos))
   have ea' : a = ⟨g, o, none⟩ := by
    obtain ⟨g', o', s'⟩ := a
    simp only [Addr.add] at ea
    simpa using ea
   subst ea'
   refine ⟨T, some ⟨g, o, none⟩, cap, rfl, hl, hm, fun _ => ⟨g, o, cur, fr, rfl, hg, fun j u hj => ?_⟩⟩
   have h1 := hc j u hj
   rw [Addr.add_lit, cell_of_row W g (o + j) cur T fr hg] at h1
   exact h1
def strOf : Value → List UInt8
 | .string s => s.data.toList
 | _ => []
theorem flat_at {f : Nat → Lab} : ∀ (n j : Nat) (u : Value), (((List.range n).map f).flatMap labCells)[j]? = some u → j / 2 < n ∧ u = (if j % 2 = 0 then Value.string ⟨(f (j / 2)).1.toArray⟩ else .int .u32 ((f (j / 2)).2 : Int)) := by
 intro n j u h
 have hj := (List.getElem?_eq_some_iff.1 h).1
 have hlen : (((List.range n).map f).flatMap labCells).length = n * 2 := by
  have : ∀ l : List Lab, (l.flatMap labCells).length = l.length * 2 := by
   intro l
   induction l with
   | nil => rfl
   | cons x l ih => simp [labCells, ih]; omega
  rw [this]; simp
 rw [hlen] at hj
 have h2 : j / 2 < n := by omega
 have hx : ((List.range n).map f)[j / 2]? = some (f (j / 2)) := by simp [h2]
 have hh := labs_at _ _ _ hx
 refine ⟨h2, ?_⟩
 split
 · rename_i e
   rw [show j = j / 2 * 2 by omega, hh.1] at h
   exact (Option.some.inj h).symm
 · rename_i e
   rw [show j = j / 2 * 2 + 1 by omega, hh.2] at h
   exact (Option.some.inj h).symm
end Asm
theorem open_image {H : Type} {enc : TypeId × Value → H} {W : World} {b0 base : Nat} {sp : Nat → Bool} {held : Bool} {v : Value} {d : DataW H} {p : List MemPlace} (hok : Value.okWide Tryz.prog W .any b0 27 v) (h : DataW.Trod enc Tryz.prog W base sp held 27 v d p) :
 ∃ (o : Nat) (ws : List Nat) (ls : List Asm.Lab) (wv lv : Value) (Tw Tl : TypeId), v = .agg #[.int .u32 (o : Int), wv, lv] ∧ o < 4294967296 ∧ (∀ x ∈ ws, x < 4294967296) ∧ Asm.RowView W Tw wv ws.length (ws.map Asm.wordCells) ∧ Asm.RowView W Tl lv ls.length (ls.flatMap Asm.labCells) ∧ (∀ x ∈ ls, x.1.length ≤ Rows.uptoBulk d ∧ x.2 < 4294967296) := by
 obtain ⟨v0, v1, v2, y0, y1, y2, n, rfl, rfl, rfl, t0, t1, t2⟩ := open_agg3 Tryz.underlying27 (by kernel_rfl) (by kernel_rfl) hok h
 obtain ⟨z, hz, _, wz⟩ := DataW.trod_int Tryz.underlying23 t0
 obtain rfl : v0 = .int .u32 z := by simpa using hz
 have z0 : 0 ≤ z ∧ z ≤ 4294967295 := by
  simp [Lit.wf, IntKind.min, IntKind.max, IntKind.signed, IntKind.bits] at wz
  omega
 have hw : ∃ (ws : List Nat) (Tw : TypeId), (∀ x ∈ ws, x < 4294967296) ∧ Asm.RowView W Tw v1 ws.length (ws.map Asm.wordCells) := by
  rcases open_slice1 Tryz.underlying24 (by kernel_rfl) t1 with ⟨e, _⟩ | ⟨a, len, cap, m, n1, V, D, Pl, e, _, hl, hm, hmm, _, hx⟩
  · obtain rfl : v1 = .slice none 0 0 := by simpa using e
    exact ⟨[], 0, by simp, none, 0, rfl, Nat.le_refl _, by decide, fun h => absurd rfl h⟩
  · obtain rfl : v1 = .slice (some a) len cap := by simpa using e
    have hlm : len ≤ m := by rw [hmm]; split <;> omega
    have key : ∀ i, i < len → ∃ q : Nat, V i = .int .u32 (q : Int) ∧ q < 4294967296 := by
     intro i hi
     obtain ⟨q, hq, _, wq⟩ := DataW.trod_int Tryz.underlying23 (hx i (by omega)).2
     have q0 : 0 ≤ q ∧ q ≤ 4294967295 := by
      simp [Lit.wf, IntKind.min, IntKind.max, IntKind.signed, IntKind.bits] at wq
      omega
     refine ⟨q.toNat, ?_, by omega⟩
     rw [show ((q.toNat : Nat) : Int) = q by omega]
     simpa using hq
    have hcells : ∀ (j : Nat) (u : Value), (((List.range len).map fun i => (intOf (V i)).toNat).map Asm.wordCells)[j]? = some u → W.cell? (a.add j) = some u := by
     intro j u hj
     have hjl : j < len := by simpa using (List.getElem?_eq_some_iff.1 hj).1
     obtain ⟨q, hq, _⟩ := key j hjl
     rw [(hx j (by omega)).1, hq]
     simp [hjl, hq, intOf, Asm.wordCells] at hj
     rw [← hj]
    obtain ⟨T, hT⟩ := Asm.RowView.of_cells a len cap 1 _ hl hm (by decide) (by simp) hcells
    refine ⟨(List.range len).map fun i => (intOf (V i)).toNat, T, ?_, by rw [List.length_map, List.length_range]; exact hT⟩
    intro x hx'
    obtain ⟨i, hi, rfl⟩ := List.mem_map.1 hx'
    obtain ⟨q, hq, hq2⟩ := key i (List.mem_range.1 hi)
    rw [hq]
    simpa [intOf] using hq2
 have hlab : ∃ (ls : List Asm.Lab) (Tl : TypeId), (∀ x ∈ ls, x.1.length ≤ Rows.uptoBulk y2.1 ∧ x.2 < 4294967296) ∧ Asm.RowView W Tl v2 ls.length (ls.flatMap Asm.labCells) := by
  rcases open_slice_pairs Tryz.underlying25 Tryz.underlying42 (by kernel_rfl) rfl rfl (by kernel_rfl) (by kernel_rfl) t2 with ⟨e, _⟩ | ⟨a, len, cap, m, n1, V0, V1, D0, D1, P0, P1, e, _, hl, hm, hmm, hy, hx⟩
  · obtain rfl : v2 = .slice none 0 0 := by simpa using e
    exact ⟨[], 0, by simp, none, 0, rfl, Nat.le_refl _, by decide, fun h => absurd rfl h⟩
  · obtain rfl : v2 = .slice (some a) len cap := by simpa using e
    have hlm : len ≤ m := by rw [hmm]; split <;> omega
    have key : ∀ i, i < len → ∃ (s : ByteArray) (q : Nat), V0 i = .string s ∧ V1 i = .int .u32 (q : Int) ∧ q < 4294967296 ∧ D0 i = .lit (.string s.data.toList) := by
     intro i hi
     obtain ⟨_, _, h3, h4⟩ := hx i (by omega)
     obtain ⟨s, hs, hd, _⟩ := DataW.trod_string Tryz.underlying9 h3
     obtain ⟨q, hq, _, wq⟩ := DataW.trod_int Tryz.underlying23 h4
     have q0 : 0 ≤ q ∧ q ≤ 4294967295 := by
      simp [Lit.wf, IntKind.min, IntKind.max, IntKind.signed, IntKind.bits] at wq
      omega
     refine ⟨s, q.toNat, by simpa using hs, ?_, by omega, (congrArg Prod.fst hd)⟩
     rw [show ((q.toNat : Nat) : Int) = q by omega]
     simpa using hq
    have hcells : ∀ (j : Nat) (u : Value), (((List.range len).map fun i => ((Asm.strOf (V0 i), (intOf (V1 i)).toNat) : Asm.Lab)).flatMap Asm.labCells)[j]? = some u → W.cell? (a.add j) = some u := by
     intro j u hj
     obtain ⟨hj2, hu⟩ := Asm.flat_at len j u hj
     obtain ⟨s, q, hs, hq, _, _⟩ := key (j / 2) hj2
     obtain ⟨h1, h2, _, _⟩ := hx (j / 2) (by omega)
     rw [hu]
     split
     · rename_i e
       rw [show a.add j = a.add (j / 2 * 2) by rw [show j / 2 * 2 = j by omega], h1, hs]
       simp [Asm.strOf]
     · rename_i e
       rw [show a.add j = a.add (j / 2 * 2 + 1) by rw [show j / 2 * 2 + 1 = j by omega], h2, hq]
       simp [intOf]
    obtain ⟨T, hT⟩ := Asm.RowView.of_cells a len cap 2 _ hl hm (by decide) (by
     have : ∀ l : List Asm.Lab, (l.flatMap Asm.labCells).length = l.length * 2 := by
      intro l
      induction l with
      | nil => rfl
      | cons x l ih => simp [Asm.labCells, ih]; omega
     rw [this]; simp) hcells
    refine ⟨(List.range len).map fun i => (Asm.strOf (V0 i), (intOf (V1 i)).toNat), T, ?_, by rw [List.length_map, List.length_range]; exact hT⟩
    intro x hx'
    obtain ⟨i, hi, rfl⟩ := List.mem_map.1 hx'
    obtain ⟨s, q, hs, hq, hq2, hd⟩ := key i (List.mem_range.1 hi)
    refine ⟨?_, by rw [hq]; simpa [intOf] using hq2⟩
    rw [hs]
    have e1 : y2.1 = _ := congrArg Prod.fst hy
    rw [e1]
    simp only [Rows.uptoBulk]
    have hmem : (DataW.agg [D0 i, D1 i] : DataW H) ∈ (List.range len).map fun i => .agg [D0 i, D1 i] := List.mem_map.2 ⟨i, hi, rfl⟩
    have h1 := Asm.bulk_part hmem
    simp only [Rows.uptoBulk, Rows.uptoBulkAll, hd] at h1
    simp only [Asm.strOf]
    omega
 obtain ⟨ws, Tw, a1, a2⟩ := hw
 obtain ⟨ls, Tl, b1, b2⟩ := hlab
 refine ⟨z.toNat, ws, ls, v1, v2, Tw, Tl, ?_, by omega, a1, a2, b2, fun x hx => ⟨?_, (b1 x hx).2⟩⟩
 · rw [show ((z.toNat : Nat) : Int) = z by omega]
 · have := (b1 x hx).1
   simp only [Rows.uptoBulk, Rows.uptoBulkAll]
   omega
end Go.Proofs.YtabmlbnnhhpaoaaGreatDoor
namespace Go.Proofs.YtabmlbnnhhpaoaaGreatDoor
open Go.ChangeShapes Go.WideShapes Go.ChangeAt Go.RowKit
theorem witness_row_shaped {H : Type} {enc : TypeId × Value → H} {C : Checked} {os : Os} {f : FuncId} {fn : Func} {s : OpenSpec} {conds : List PathCond} {apart : Bool} {laid : List (String × DataW Unit)} (modest : Bool) (w0 : World) (args : Array Value) (hos : w0.os = os)
 (hsh : (w0.forCall (fun _ _ => 0) ⟨#[], args, []⟩).Shaped C.prog) (hok : Input.okWideB C.prog (w0.forCall (fun _ _ => 0) ⟨#[], args, []⟩) f ⟨#[], args, []⟩ = true)
 (hrow : s.preRow enc C.prog fn conds apart laid (w0.forCall (fun _ _ => 0) ⟨#[], args, []⟩).memory args) :
 ∃ (w : World) (tape : Tape) (i : Input), w.os = os ∧ (w.forCall tape i).Shaped C.prog ∧ i.vars = [] ∧ Input.okWide C.prog (w.forCall tape i) .any w.heap.size f i ∧
  s.preRow enc C.prog fn conds apart laid (w.forCall tape i).memory i.args ∧ ({ modest := modest } : Assume).holds C.prog (lone (Frame.enter C.prog f i.args .normal) [] (w.forCall tape i)) :=
 ⟨w0, fun _ _ => 0, ⟨#[], args, []⟩, hos, hsh, (Input.okWide_of_okWideB (base := 0) hok).1, (Input.okWide_of_okWideB hok).2, hrow, by
  simp only [Assume.holds]
  exact ⟨by simp, by simp, fun _ => Modest.zero, by simp, by simp⟩⟩
def noImage : Array Value := #[.agg #[.int .u32 0, .slice none 0 0, .slice none 0 0]]
theorem asmPrints_reads (os : Os) {H : Type} (enc : TypeId × Value → H) : ∃ places, DataW.whole enc Tryz.prog ((World.laidAll Tryz.prog os laid6).forCall (fun _ _ => 0) ⟨#[], noImage, []⟩).memory Tryz.f4.params.toList Rows.asmPrintsSpec.vars false noImage.toList 8 = some ([.agg [.lit (.int .u32 0), .nil, .nil]], [], places) :=
 ⟨[], by kernel_rfl⟩
theorem asmPrints_lifted (os : Os) (started : os.Started) (H : Type) (enc : TypeId × Value → H) (F : Stop.Interp) :
 ReturnsInHanded {} Tryz.checked os 4 .any ((Rows.OpenSpec.upto Rows.asmPrintsSpec).preRow enc Tryz.prog Tryz.f4 Rows.asmPrintsUptoRow.domain false Rows.asmPrintsUptoRow.laid) (((Rows.OpenSpec.upto Rows.asmPrintsSpec).at F).post enc Tryz.prog Tryz.f4 false true false false) := by
 obtain ⟨places, hx⟩ := asmPrints_reads os enc
 refine returnsInHanded_of_row (C := Tryz.checked) (s := Rows.OpenSpec.upto Rows.asmPrintsSpec) own started (by kernel_rfl) Tryz.func4
  (witness_row_shaped (enc := enc) (C := Tryz.checked) false (World.laidAll Tryz.prog os laid6) noImage (World.laidAll_os _ _ _) (World.shaped_of_ZipB (by kernel_rfl) (by kernel_rfl)) (by kernel_rfl)
   (OpenSpec.preRow_of_cond 8 hx (by kernel_rfl) (fun k hk => by cases hk; kernel_rfl) (by kernel_rfl) (lay_met os _))) ?_
 intro W base args ds gs before hval hW _ hcond _ hL _ _
 have hW' := hW
 obtain ⟨p, q, hA0, hV, rfl, hfz, hnd⟩ := hW
 have hA : DataW.TrodAll enc Tryz.prog W 0 (fun _ => true) true Tryz.f4.params.toList args.toList ds p := hA0
 rw [Tryz.params4] at hA hval
 obtain ⟨v0, vs0, d0, ds0, p0, q0, hargs, rfl, rfl, h0, r0⟩ := trodAll_cons hA
 obtain ⟨rfl, rfl, rfl⟩ := trodAll_nil r0
 obtain rfl : args = #[v0] := by cases args; simp_all
 obtain ⟨rfl, rfl⟩ := trodVars_none hV
 have b0 := h0
 obtain ⟨o, ws, ls, wv, lv, Tw, Tl, rfl, ho, hws, hww, hlv, hls⟩ := open_image (hval 0 27 v0 rfl rfl) h0
 have hbulk : Rows.uptoBulk d0 ≤ 1048576 := by
  have h := of_decide_eq_true (hcond _ rfl)
  simp only [List.append_nil, Rows.uptoBulkAll, Nat.add_zero] at h
  exact h
 have hLd : Isa.Laid W := of_laid hL
 have hHd : Hex.Laid W := hex_of_laid hL
 clear hA0
 simp only [List.append_nil] at hW'
 refine (prints_calls o ws ls wv lv W ho hws hww hlv (fun x hx => ⟨by have := (hls x hx).1; omega, (hls x hx).2⟩) hLd hHd).mono fun e W' ⟨he, bel⟩ => ?_
 subst he
 exact ⟨_, rfl, _, _, _, [], _, [], hW', trodAll_mk1 (shut_bool Tryz.underlying4 _), trodAll_cons_mk (trod_back (by kernel_rfl) (by kernel_rfl) b0 bel) trodAll_mk0, rfl, bel.frame _, fun h => by cases h⟩
theorem asmPrints_holds : Rows.AsmPrintsUptoSaid :=
 OpenClaim.holds_of_cond 4 Tryz.f4 rfl rfl rfl rfl rfl rfl rfl ⟨rfl, rfl, rfl, rfl, rfl⟩ rfl rfl rfl rfl rfl (by kernel_rfl) Tryz.func4 (by kernel_rfl)
  (of_decide_eq_true (by kernel_rfl)) (by unfold Func.isWrapper; first | (rw [if_pos (by decide +kernel)]; kernel_rfl) | (rw [if_neg (by decide +kernel)]; exact ⟨rfl, rfl⟩))
  (fun os started H enc _ F => by rw [OpenClaim.pre_eq_preRow]; exact asmPrints_lifted os started H enc F)
theorem asmPrints_card_holds : Rows.AsmPrintsUptoCardSaid :=
 Claim7.holds_tied_plain_at .later [] [.data, .data, .data, .data, .data, .pinned] true _ true
  asmPrints_holds (fun _ h => by cases h) (by kernel_rfl) (fun _ h => by cases h) asmPrintsUpto_row_tie rfl ⟨rfl, rfl⟩ (by kernel_rfl) rfl
  (fun f fn hf hfn => by
   obtain rfl : f = 4 := Option.some.inj ((show Tryz.prog.funcNamed _ = some 4 by kernel_rfl).symm.trans hf) |>.symm
   obtain rfl : fn = Tryz.f4 := (Option.some.inj (Tryz.func4.symm.trans hfn)).symm
   exact ⟨by kernel_rfl, fun j t ht => by
    rw [Tryz.params4] at ht
    have hm : t ∈ [27] := by simpa using Array.mem_of_getElem? ht
    have hall : ([27].all fun u => !Tryz.prog.wantsStandIn u) = true := by kernel_rfl
    exact (show Tryz.prog.wantsStandIn t = false by simpa using List.all_eq_true.1 hall t hm)⟩)
  (by kernel_rfl)
#print axioms asmPrints_card_holds
end Go.Proofs.YtabmlbnnhhpaoaaGreatDoor
