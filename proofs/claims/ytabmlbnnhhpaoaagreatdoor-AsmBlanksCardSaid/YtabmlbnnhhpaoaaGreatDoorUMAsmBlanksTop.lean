/- What this claim needs of AsmBlanksWalk, AsmOpenInts, AsmBlanksRow. -/
import Derived.Test.YtabmlbnnhhpaoaaGreatDoorUMAsmKnownG
import Derived.Test.YtabmlbnnhhpaoaaGreatDoorUMBlankG
import Derived.Test.YtabmlbnnhhpaoaaGreatDoorUMImgG
import Derived.Test.YtabmlbnnhhpaoaaGreatDoorCards
import Derived.Test.YtabmlbnnhhpaoaaGreatDoorTie
import Derived.SevenTiedAt
set_option linter.unusedSimpArgs false
set_option linter.unusedVariables false
set_option maxHeartbeats 4000000
set_option maxRecDepth 100000
namespace Go.Proofs.YtabmlbnnhhpaoaaGreatDoor
open Go.RowKit
def Asm.rawK (zs : List Int) (n : Nat) : Nat := ((fun k : Int => if k < 0 then -(k + 1) else k) (if zs = [] then 0 else zs.getD (n % zs.length) 0)).toNat
theorem Asm.endOf_len (k : Nat) : (Asm.endOf k).length ≤ 12 := by
 have h : k % 5 = 0 ∨ k % 5 = 1 ∨ k % 5 = 2 ∨ k % 5 = 3 ∨ k % 5 = 4 := by omega
 rcases h with h | h | h | h | h <;> simp [Asm.endOf, Asm.sfx, Asm.ext, h]
theorem Asm.rawK_nil {zs : List Int} (h : zs = []) (n : Nat) : Asm.rawK zs n = 0 := by unfold Asm.rawK; rw [if_pos h]; rfl
theorem Asm.rawK_at {zs : List Int} (h : 0 < zs.length) (n : Nat) {z : Int} (hz : zs[n % zs.length]? = some z) : (0 ≤ z → z = (Asm.rawK zs n : Int)) ∧ (z < 0 → -(z + 1) = (Asm.rawK zs n : Int)) := by
 have hne : zs ≠ [] := by rintro rfl; simp at h
 unfold Asm.rawK
 rw [if_neg hne, List.getD_eq_getElem?_getD, hz]
 simp only [Option.getD_some]
 refine ⟨fun h => ?_, fun h => ?_⟩
 · rw [if_neg (by omega)]; omega
 · rw [if_pos h]; omega
theorem asmBlanks_walk {Tw Tl Tr : TypeId} (o : Nat) (ws : List Nat) (ls : List Asm.Lab) (wv lv : Value) (zs : List Int) (rv : Value) (w : World) (ho : o < 4294967296) (hws : ∀ x ∈ ws, x < 4294967296) (hww : Asm.RowView w Tw wv ws.length (ws.map Asm.wordCells)) (hlv : Asm.RowView w Tl lv ls.length (ls.flatMap Asm.labCells))
 (hls : ∀ x ∈ ls, x.1.length ≤ 9223372036854775806 ∧ x.2 < 4294967296) (hll : ls.length * 24 ≤ 140737488351232) (hwl : ws.length ≤ 140737488355328) (hrv : Asm.RowView w Tr rv zs.length (zs.map fun z => Value.int .i64 z)) (hzl : zs.length ≤ 140737488355328) (hzs : ∀ z ∈ zs, -9223372036854775808 ≤ z ∧ z ≤ 9223372036854775807) (hL : Isa.Laid w) (hH : Hex.Laid w) :
 Calls Tryz.prog 9 #[.agg #[.int .u32 (o : Int), wv, lv], rv] w fun e w' => e = .returned (.bool true) ∧ Below w.heap.size w w' := by
 obtain ⟨pw, cw, rfl⟩ : ∃ p c, wv = .slice p ws.length c := by obtain ⟨p, c, e, _⟩ := hww; exact ⟨p, c, e⟩
 obtain ⟨pl, cl, rfl⟩ : ∃ p c, lv = .slice p ls.length c := by obtain ⟨p, c, e, _⟩ := hlv; exact ⟨p, c, e⟩
 obtain ⟨pr, cr, rfl⟩ : ∃ p c, rv = .slice p zs.length c := by obtain ⟨p, c, e, _⟩ := hrv; exact ⟨p, c, e⟩
 have hD := fun W (hb : Below w.heap.size w W) => dis_calls o ws ls _ _ W ho hws (by omega) (hww.below hb) (hlv.below hb) hls (by omega) (hL.below hb) (hH.below hb)
 have b0 : Below w.heap.size w (w.alloc (.cells #[.int .u32 (o : Int), .slice pw ws.length cw, .slice pl ls.length cl] 27)) := below_alloc' (Below.refl _ _) _
 have k0 := heap_alloc_new w (.cells #[.int .u32 (o : Int), .slice pw ws.length cw, .slice pl ls.length cl] 27)
 have HD := Lib.hid hD
 have HW := Lib.hid hww
 have HLV := Lib.hid hlv
 have HRV := Lib.hid hrv
 have HZS := Lib.hid hzs
 have HWS := Lib.hid hws
 have HLS := Lib.hid hls
 clear hD hww hlv hrv hzs hws hls
 go_enter Tryz.func9, Tryz.ntmps9
 go_wp2_with fail
 refine (known_calls _ (hL.below b0) (hH.below b0)).mono ?_
 rintro e w1 ⟨rfl, hb1⟩
 have b1 := below_next b0 hb1
 have k1 := blk_keep hb1 k0
 have c0 : w1.cell? ⟨w.heap.size, 0, none⟩ = some (.int .u32 (o : Int)) := (blk_facts k1).1 0
 have c1 : w1.cell? ⟨w.heap.size, 1, none⟩ = some (.slice pw ws.length cw) := (blk_facts k1).1 1
 have c2 : w1.cell? ⟨w.heap.size, 2, none⟩ = some (.slice pl ls.length cl) := (blk_facts k1).1 2
 have z1 := blk_size k1
 go_wp2_with fail
 refine (HD.out w1 b1).mono ?_
 rintro e w2 ⟨rfl, hb2⟩
 have b2 := below_next b1 hb2
 have k2 := blk_keep hb2 k1
 clear hb1 hb2 k1 b1 z1 c0 c1 c2
 unfold Asm.dis
 cases hs : Asm.sound o ws.length ls with
 | false =>
  rw [if_neg (by simp)]
  go_wp2_with fail
  go_ret
  exact ⟨rfl, b2⟩
 | true =>
  rw [if_pos rfl]
  by_cases hlen : 20000 < (Asm.disText o ws ls).length
  · rw [if_pos hlen]
    go_wp2_with fail
    go_ret
    exact ⟨rfl, b2⟩
  · rw [if_neg hlen]
    have hA := fun hl W hW => blank_assemble (Asm.rawK zs) o ws ls ho HWS.out (fun x hx => (HLS.out x hx).2) hs hl W hW
    obtain ⟨tx, htx⟩ : ∃ tx, Asm.disText o ws ls = tx := ⟨_, rfl⟩
    rw [htx] at hA hlen ⊢
    have HA := Lib.hid hA
    clear hA htx
    have hsz : (⟨tx.toArray⟩ : ByteArray).size = tx.length := by simp [ByteArray.size]
    by_cases h4 : 4000 < tx.length
    · go_wp2_with fail
      go_ret
      exact ⟨rfl, b2⟩
    · obtain ⟨W, hW⟩ : ∃ W, (w2.alloc (.cells #[.string ⟨#[32]⟩, .string ⟨#[9, 32]⟩, .string ⟨#[32, 32, 32]⟩] 9)).alloc (.cells #[.string ⟨#[10]⟩, .string ⟨#[32, 35, 32, 104, 97, 108, 116, 10]⟩, .string ⟨#[10, 10]⟩, .string ⟨#[9, 10, 35, 32, 0, 255, 58, 32, 110, 111, 112, 10]⟩, .string ⟨#[10, 35, 10]⟩] 9) = W := ⟨_, rfl⟩
      have bW : Below w2.heap.size w2 W := hW ▸ below_alloc' (below_alloc' (Below.refl _ _) _) _
      have kF : W.heap[w2.heap.size]? = some (.cells #[.string ⟨#[32]⟩, .string ⟨#[9, 32]⟩, .string ⟨#[32, 32, 32]⟩] 9 (0, 0)) := hW ▸ blk_alloc _ (heap_alloc_new _ _)
      have kE : W.heap[w2.heap.size + 1]? = some (.cells #[.string ⟨#[10]⟩, .string ⟨#[32, 35, 32, 104, 97, 108, 116, 10]⟩, .string ⟨#[10, 10]⟩, .string ⟨#[9, 10, 35, 32, 0, 255, 58, 32, 110, 111, 112, 10]⟩, .string ⟨#[10, 35, 10]⟩] 9 (0, 0)) := by
       have h := heap_alloc_new (w2.alloc (.cells #[.string ⟨#[32]⟩, .string ⟨#[9, 32]⟩, .string ⟨#[32, 32, 32]⟩] 9)) (.cells #[.string ⟨#[10]⟩, .string ⟨#[32, 35, 32, 104, 97, 108, 116, 10]⟩, .string ⟨#[10, 10]⟩, .string ⟨#[9, 10, 35, 32, 0, 255, 58, 32, 110, 111, 112, 10]⟩, .string ⟨#[10, 35, 10]⟩] 9)
       rw [alloc_size] at h
       exact hW ▸ h
      have bw := below_next b2 bW
      have kM := blk_keep bW k2
      obtain ⟨K, hK⟩ : ∃ K, Asm.rawK zs = K := ⟨_, rfl⟩
      rw [hK] at HA
      go_wp2_with fail
      try rw [hW]
      clear hW
      have f0 : W.cell? ⟨w2.heap.size, 0, none⟩ = some (.string ⟨#[32]⟩) := (blk_facts kF).1 0
      have f1 : W.cell? ⟨w2.heap.size, 1, none⟩ = some (.string ⟨#[9, 32]⟩) := (blk_facts kF).1 1
      have f2 : W.cell? ⟨w2.heap.size, 2, none⟩ = some (.string ⟨#[32, 32, 32]⟩) := (blk_facts kF).1 2
      have e0 : W.cell? ⟨w2.heap.size + 1, 0, none⟩ = some (.string ⟨#[10]⟩) := (blk_facts kE).1 0
      have e1 : W.cell? ⟨w2.heap.size + 1, 1, none⟩ = some (.string ⟨#[32, 35, 32, 104, 97, 108, 116, 10]⟩) := (blk_facts kE).1 1
      have e2 : W.cell? ⟨w2.heap.size + 1, 2, none⟩ = some (.string ⟨#[10, 10]⟩) := (blk_facts kE).1 2
      have e3 : W.cell? ⟨w2.heap.size + 1, 3, none⟩ = some (.string ⟨#[9, 10, 35, 32, 0, 255, 58, 32, 110, 111, 112, 10]⟩) := (blk_facts kE).1 3
      have e4 : W.cell? ⟨w2.heap.size + 1, 4, none⟩ = some (.string ⟨#[10, 35, 10]⟩) := (blk_facts kE).1 4
      have zF := blk_size kF
      have zE := blk_size kE
      go_loopw [10, 11, 12, 13] (fun v10 v11 v12 v13 wr => ∃ (j n : Nat) (t : List UInt8) (cm : Bool), v10 = .string ⟨t.toArray⟩ ∧ v11 = .int .i64 (n : Int) ∧ v12 = .bool cm ∧ v13 = .int .i64 (j : Int) ∧ j ≤ tx.length ∧ n ≤ j ∧ t.length ≤ 12 * j ∧ Hid (Asm.blankT K tx 0 false = t ++ Asm.blankT K (tx.drop j) n cm) ∧ wr = W) (fun _ _ _ v _ => tx.length - (intOf v).toNat)
      case atStart => exact ⟨0, 0, [], false, rfl, rfl, rfl, rfl, Nat.zero_le _, Nat.le_refl _, Nat.zero_le _, Lib.hid (by simp), rfl⟩
      case round =>
       obtain ⟨j, n, t, cm, rfl, rfl, rfl, rfl, hj, hn, ht, HT, rfl⟩ := hrel
       by_cases hlt : j < tx.length
       · obtain ⟨c, hc⟩ : ∃ c, tx[j] = c := ⟨_, rfl⟩
         have hidx : (⟨tx.toArray⟩ : ByteArray)[j]'(by rw [hsz]; exact hlt) = c := by simp [ByteArray.getElem_eq_getElem_data, hc]
         have hd : tx.drop j = c :: tx.drop (j + 1) := by rw [List.drop_eq_getElem_cons hlt, hc]
         have hstep := HT.out
         rw [hd, Asm.blankT_cons] at hstep
         have HS := Lib.hid hstep
         clear hstep HT hd
         have hraw : (¬ 0 < zs.length ∧ K n = 0) ∨ (∃ z g og q, 0 < zs.length ∧ pr = some ⟨g, og, none⟩ ∧ g < wr.heap.size ∧ zs.length ≤ cr ∧ q < zs.length ∧ (n : Int).tmod (zs.length : Int) = (q : Int) ∧ wr.cell? ⟨g, og + q, none⟩ = some (.int .i64 z) ∧ 0 ≤ z ∧ z = (K n : Int)) ∨ (∃ z g og q, 0 < zs.length ∧ pr = some ⟨g, og, none⟩ ∧ g < wr.heap.size ∧ zs.length ≤ cr ∧ q < zs.length ∧ (n : Int).tmod (zs.length : Int) = (q : Int) ∧ wr.cell? ⟨g, og + q, none⟩ = some (.int .i64 z) ∧ z < 0 ∧ -9223372036854775808 ≤ z ∧ -(z + 1) = (K n : Int)) := by
          by_cases hz0 : zs.length = 0
          · exact .inl ⟨by omega, by rw [← hK]; exact Asm.rawK_nil (List.length_eq_zero_iff.1 hz0) n⟩
          · right
            obtain ⟨g, og, cap, ep, hc1, hc2, hg, hcell⟩ := HRV.out.cells hz0
            injection ep with ep1 ep2 ep3
            have hq : n % zs.length < zs.length := Nat.mod_lt _ (by omega)
            obtain ⟨z, hz⟩ : ∃ z, zs[n % zs.length]? = some z := ⟨_, List.getElem?_eq_getElem hq⟩
            have hzr := HZS.out z (List.mem_of_getElem? hz)
            have hcl : wr.cell? ⟨g, og + n % zs.length, none⟩ = some (.int .i64 z) := (bw.cell (p := ⟨g, og + n % zs.length, none⟩) hg).trans (hcell _ _ (by rw [List.getElem?_map, hz]; rfl))
            have htm : (n : Int).tmod (zs.length : Int) = ((n % zs.length : Nat) : Int) := by rw [Int.tmod_eq_emod_of_nonneg (by omega)]; rfl
            obtain ⟨h1, h2⟩ := Asm.rawK_at (by omega) n hz
            rw [hK] at h1 h2
            have hgs := bw.size
            by_cases hzn : z < 0
            · exact .inr ⟨z, g, og, _, by omega, ep1, by omega, by omega, hq, htm, hcl, hzn, hzr.1, h2 hzn⟩
            · exact .inl ⟨z, g, og, _, by omega, ep1, by omega, by omega, hq, htm, hcl, by omega, h1 (by omega)⟩
         obtain ⟨kk, hkk⟩ : ∃ kk, K n = kk := ⟨_, rfl⟩
         rw [hkk] at hraw
         have hext : (⟨tx.toArray⟩ : ByteArray).extract j (j + 1) = ⟨#[c]⟩ := by
          rw [Lib.extract_mk, List.drop_eq_getElem_cons hlt, hc]
          simp
         have hsl := run_slice_string (P := Tryz.prog) wr 9 (⟨tx.toArray⟩ : ByteArray) .i64 .i64 (j : Int) ((j : Int) + 1) Tryz.underlying9 (by omega) (by omega) (by rw [hsz]; omega)
         rw [show ((j : Int) + 1).toNat = j + 1 by omega, show ((j : Int)).toNat = j by omega, hext] at hsl
         have hbs : (⟨t.toArray⟩ : ByteArray).size = t.length := by simp [ByteArray.size]
         have s1 : ¬ (9223372036854775807 < t.length + 1) := by omega
         have s2 : ¬ (9223372036854775807 < t.length + 2) := by omega
         have s3 : ¬ (9223372036854775807 < t.length + 3) := by omega
         have s8 : ¬ (9223372036854775807 < t.length + 8) := by omega
         have s12 : ¬ (9223372036854775807 < t.length + 12) := by omega
         have h3 : (kk % 3 = 0 ∧ (kk : Int).tmod 3 = 0) ∨ (kk % 3 = 1 ∧ (kk : Int).tmod 3 = 1) ∨ (kk % 3 = 2 ∧ (kk : Int).tmod 3 = 2) := by
          rw [Int.tmod_eq_emod_of_nonneg (by omega)]; omega
         have h5 : (kk % 5 = 0 ∧ (kk : Int).tmod 5 = 0) ∨ (kk % 5 = 1 ∧ (kk : Int).tmod 5 = 1) ∨ (kk % 5 = 2 ∧ (kk : Int).tmod 5 = 2) ∨ (kk % 5 = 3 ∧ (kk : Int).tmod 5 = 3) ∨ (kk % 5 = 4 ∧ (kk : Int).tmod 5 = 4) := by
          rw [Int.tmod_eq_emod_of_nonneg (by omega)]; omega
         have n35 : c ≠ 35 → ¬ ((c.toNat : Int) = 35) := fun h e => h (by apply UInt8.toNat_inj.1; have : (35 : UInt8).toNat = 35 := rfl; omega)
         have n32 : c ≠ 32 → ¬ ((c.toNat : Int) = 32) := fun h e => h (by apply UInt8.toNat_inj.1; have : (32 : UInt8).toNat = 32 := rfl; omega)
         have n10 : c ≠ 10 → ¬ ((c.toNat : Int) = 10) := fun h e => h (by apply UInt8.toNat_inj.1; have : (10 : UInt8).toNat = 10 := rfl; omega)
         have hl1 : (Asm.endOf kk).length ≤ 12 := Asm.endOf_len kk
         have hl2 : (Asm.fillOf kk).length ≤ 3 := (Asm.fill_blank kk).2.2
         have happ : ∀ (x : List UInt8) (b : ByteArray), b = ⟨x.toArray⟩ → (⟨t.toArray⟩ : ByteArray) ++ b = ⟨(t ++ x).toArray⟩ := by
          rintro x b rfl
          apply ByteArray.ext
          simp
         have cl_other : c ≠ 10 → ¬ (c = 32 ∧ Asm.cmNext cm c = false) → Asm.blankT K tx 0 false = (t ++ [c]) ++ Asm.blankT K (tx.drop (j + 1)) n (Asm.cmNext cm c) := fun h1 h2 => by
          rw [HS.out, if_neg h2, if_neg h1]; simp
         have cl_space : c = 32 → Asm.cmNext cm c = false → Asm.blankT K tx 0 false = (t ++ Asm.fillOf kk) ++ Asm.blankT K (tx.drop (j + 1)) (n + 1) (Asm.cmNext cm c) := fun h1 h2 => by
          rw [HS.out, if_pos ⟨h1, h2⟩, hkk, List.append_assoc]
         have cl_nl : c = 10 → Asm.blankT K tx 0 false = (t ++ Asm.endOf kk) ++ Asm.blankT K (tx.drop (j + 1)) (n + 1) (Asm.cmNext cm c) := fun h1 => by
          rw [HS.out, if_neg (fun h => by rw [h1] at h; exact absurd h.1 (by decide)), if_pos h1, hkk, List.append_assoc]
         have CL := Lib.hid (And.intro cl_other (And.intro cl_space cl_nl))
         clear cl_other cl_space cl_nl HS
         rcases hraw with ⟨hz0, hk⟩ | ⟨z, g, og, q, hz0, rfl, hg, hcr, hq, htm, hcl, hz1, rfl⟩ | ⟨z, g, og, q, hz0, rfl, hg, hcr, hq, htm, hcl, hz1, hz2, hk⟩
         all_goals (
          by_cases c10 : c = 10
          · subst c10
            clear n35 n32 n10 h3
            have hcn : Asm.cmNext cm 10 = false := by simp [Asm.cmNext]
            have hend := CL.out.2.2 rfl
            rw [hcn] at hend
            have HE := Lib.hid hend
            clear hend CL hcn
            rcases h5 with ⟨h, h'⟩ | ⟨h, h'⟩ | ⟨h, h'⟩ | ⟨h, h'⟩ | ⟨h, h'⟩
            all_goals cases cm
            all_goals go_wp2_with fail
            all_goals go_roundw
            all_goals first | (exact ⟨j + 1, n + 1, t ++ Asm.endOf kk, false, (by first | (simp [Asm.endOf, Asm.sfx, Asm.ext, h]; done) | exact congrArg Value.string (happ _ _ (by simp [Asm.endOf, Asm.sfx, Asm.ext, h]))), (congrArg (Value.int .i64) (by omega)), rfl, (congrArg (Value.int .i64) (by omega)), (by omega), (by omega), (by rw [List.length_append]; (try simp only [List.length_cons, List.length_nil]); omega), Lib.hid HE.out, trivial⟩) | (simp [intOf]; omega)
          · by_cases c35 : c = 35
            · subst c35
              clear n35 n32 n10 h3 h5
              have hcn : Asm.cmNext cm 35 = true := by simp [Asm.cmNext]
              have hend := CL.out.1 (by decide) (fun h => absurd h.1 (by decide))
              rw [hcn] at hend
              have HE := Lib.hid hend
              clear hend CL hcn
              cases cm
              all_goals go_wp2_with fail
              all_goals go_roundw
              all_goals first | (exact ⟨j + 1, n, t ++ [35], true, (by first | rfl | (simp; done) | exact congrArg Value.string (happ _ _ rfl)), (congrArg (Value.int .i64) (by omega)), rfl, (congrArg (Value.int .i64) (by omega)), (by omega), (by omega), (by rw [List.length_append]; (try simp only [List.length_cons, List.length_nil]); omega), Lib.hid HE.out, trivial⟩) | (simp [intOf]; omega)
            · have hcn : Asm.cmNext cm c = cm := by simp [Asm.cmNext, c10, c35]
              by_cases c32 : c = 32
              · subst c32
                clear n35 n32 n10 h5
                cases cm
                · have hend := CL.out.2.1 rfl hcn
                  rw [hcn] at hend
                  have HE := Lib.hid hend
                  clear hend CL hcn
                  rcases h3 with ⟨h, h'⟩ | ⟨h, h'⟩ | ⟨h, h'⟩
                  all_goals go_wp2_with fail
                  all_goals go_roundw
                  all_goals first | (exact ⟨j + 1, n + 1, t ++ Asm.fillOf kk, false, (by first | (simp [Asm.fillOf, h]; done) | exact congrArg Value.string (happ _ _ (by simp [Asm.fillOf, h]))), (congrArg (Value.int .i64) (by omega)), rfl, (congrArg (Value.int .i64) (by omega)), (by omega), (by omega), (by rw [List.length_append]; (try simp only [List.length_cons, List.length_nil]); omega), Lib.hid HE.out, trivial⟩) | (simp [intOf]; omega)
                · have hend := CL.out.1 (by decide) (fun h => by rw [hcn] at h; cases h.2)
                  rw [hcn] at hend
                  have HE := Lib.hid hend
                  clear hend CL hcn h3
                  go_wp2_with fail
                  go_roundw
                  all_goals first | (exact ⟨j + 1, n, t ++ [32], true, (by first | rfl | (simp; done) | exact congrArg Value.string (happ _ _ rfl)), (congrArg (Value.int .i64) (by omega)), rfl, (congrArg (Value.int .i64) (by omega)), (by omega), (by omega), (by rw [List.length_append]; (try simp only [List.length_cons, List.length_nil]); omega), Lib.hid HE.out, trivial⟩) | (simp [intOf]; omega)
              · have m35 := n35 c35
                have m32 := n32 c32
                have m10 := n10 c10
                have q35 : ((c.toNat : Int) == 35) = false := by simpa using m35
                have q10 : ((c.toNat : Int) == 10) = false := by simpa using m10
                have q32 : ((c.toNat : Int) == 32) = false := by simpa using m32
                have hend := CL.out.1 c10 (fun h => c32 h.1)
                rw [hcn] at hend
                have HE := Lib.hid hend
                clear hend CL hcn n35 n32 n10 h3 h5
                cases cm
                all_goals go_wp2_with fail
                all_goals go_roundw
                all_goals first | (exact ⟨j + 1, n, t ++ [c], false, (by first | rfl | (simp; done) | exact congrArg Value.string (happ _ _ rfl)), (congrArg (Value.int .i64) (by omega)), rfl, (congrArg (Value.int .i64) (by omega)), (by omega), (by omega), (by rw [List.length_append]; (try simp only [List.length_cons, List.length_nil]); omega), Lib.hid HE.out, trivial⟩) | (exact ⟨j + 1, n, t ++ [c], true, (by first | rfl | (simp; done) | exact congrArg Value.string (happ _ _ rfl)), (congrArg (Value.int .i64) (by omega)), rfl, (congrArg (Value.int .i64) (by omega)), (by omega), (by omega), (by rw [List.length_append]; (try simp only [List.length_cons, List.length_nil]); omega), Lib.hid HE.out, trivial⟩) | (simp [intOf]; omega))
       · have hd : tx.drop j = [] := List.drop_eq_nil_of_le (by omega)
         have hfin : Asm.blankT K tx 0 false = t := by rw [HT.out, hd]; simp [Asm.blankT]
         have htz : (⟨t.toArray⟩ : ByteArray).size = t.length := by simp [ByteArray.size]
         have HF := Lib.hid hfin
         clear hd hfin HT
         by_cases h20 : 20000 < t.length
         · go_wp2_with fail
           go_ret
           exact ⟨rfl, bw⟩
         · have hA := HA.out (by rw [HF.out]; omega) wr (hL.below bw)
           rw [HF.out] at hA
           have HA2 := Lib.hid hA
           clear hA
           go_wp2_with fail
           refine HA2.out.mono ?_
           rintro e w3 ⟨⟨vW, vL, rfl, h1, h2⟩, hb3⟩
           have b3 := below_next bw hb3
           have k3 := blk_keep hb3 kM
           have c0 : w3.cell? ⟨w.heap.size, 0, none⟩ = some (.int .u32 (o : Int)) := (blk_facts k3).1 0
           have c1 : w3.cell? ⟨w.heap.size, 1, none⟩ = some (.slice pw ws.length cw) := (blk_facts k3).1 1
           have c2 : w3.cell? ⟨w.heap.size, 2, none⟩ = some (.slice pl ls.length cl) := (blk_facts k3).1 2
           have z3 := blk_size k3
           have hvW := Asm.RowView.of_row h1
           have hvL := Asm.RowView.of_row h2
           obtain ⟨p1, q1, rfl⟩ := Asm.row_slice h1
           obtain ⟨p2, q2, rfl⟩ := Asm.row_slice h2
           clear h1 h2 hb3
           go_wp2_with fail
           have b4 : Below w3.heap.size w3 (w3.alloc (.cells #[.int .u32 (o : Int), .slice p1 ws.length q1, .slice p2 ls.length q2] 27)) := below_alloc' (Below.refl _ _) _
           have b34 := below_next b3 b4
           refine (same_calls o o ws ws ls ls _ _ _ _ _ (hvW.below b4) (HW.out.below b34) (hvL.below b4) (HLV.out.below b34) (by omega) (by omega) (by omega) (by omega)).mono ?_
           rintro e w5 ⟨rfl, hb5⟩
           rw [Asm.same_refl]
           go_wp2_with fail
           go_ret
           exact ⟨rfl, below_next b34 hb5⟩
end Go.Proofs.YtabmlbnnhhpaoaaGreatDoor
set_option maxRecDepth 100000
namespace Go.Proofs.YtabmlbnnhhpaoaaGreatDoor
open Go.Joins Go.ChangeShapes Go.WideShapes Go.ChangeAt Go.RowKit Go.Deep
theorem slice_of_ok {W : World} {b0 : Nat} {v : Value} (hok : Value.okWide Tryz.prog W .any b0 51 v) : ∃ p l c, v = .slice p l c := by
 unfold Value.okWide at hok
 rw [Tryz.underlying51] at hok
 simp only [] at hok
 unfold Cell.okWide at hok
 rw [Tryz.underlying51] at hok
 cases v <;> simp [Cell.ok, Tryz.underlying51] at hok ⊢
theorem open_ints_sized {H : Type} {enc : TypeId × Value → H} {W : World} {base : Nat} {sp : Nat → Bool} {held : Bool} {v : Value} {d : DataW H} {p : List MemPlace} {b0 : Nat} (hok : Value.okWide Tryz.prog W .any b0 51 v) (h : DataW.Trod enc Tryz.prog W base sp held 51 v d p) :
 ∃ (zs : List Int) (Tr : TypeId), (∀ z ∈ zs, -9223372036854775808 ≤ z ∧ z ≤ 9223372036854775807) ∧ Asm.RowView W Tr v zs.length (zs.map fun z => Value.int .i64 z) ∧ ((∀ n ∈ d.weights Tryz.prog 51, n ≤ reachBytes) → zs.length * 8 ≤ reachBytes) := by
 obtain ⟨fuel, h⟩ := h
 obtain ⟨sp0, sl, sc, rfl⟩ := slice_of_ok hok
 rcases open_slice1 Tryz.underlying51 (by kernel_rfl) h with ⟨e, _⟩ | ⟨a, len, cap, m, n1, V, D, Pl, e, _, hl, hm, hmm, hy, hx⟩
 · obtain ⟨rfl, rfl, rfl⟩ : sp0 = none ∧ sl = 0 ∧ sc = 0 := by simpa [Value.cells] using e
   exact ⟨[], 0, by simp, ⟨none, 0, rfl, Nat.le_refl _, by decide, fun h => absurd rfl h⟩, fun _ => by simp⟩
 · obtain ⟨rfl, rfl, rfl⟩ : some a = sp0 ∧ len = sl ∧ cap = sc := by
    simp [Value.cells] at e
    exact ⟨e.1.symm, e.2.1.symm, e.2.2.symm⟩
   have hlm : len ≤ m := by rw [hmm]; split <;> omega
   have key : ∀ i, i < len → ∃ q : Int, V i = .int .i64 q ∧ -9223372036854775808 ≤ q ∧ q ≤ 9223372036854775807 := by
    intro i hi
    obtain ⟨q, hq, _, wq⟩ := DataW.trod_int Tryz.underlying3 (hx i (by omega)).2
    have q0 : -9223372036854775808 ≤ q ∧ q ≤ 9223372036854775807 := by
     simp [Lit.wf, IntKind.min, IntKind.max, IntKind.signed, IntKind.bits] at wq
     omega
    exact ⟨q, by simpa using hq, q0⟩
   have hcells : ∀ (j : Nat) (u : Value), (((List.range len).map fun i => intOf (V i)).map fun z => Value.int .i64 z)[j]? = some u → W.cell? (a.add j) = some u := by
    intro j u hj
    have hjl : j < len := by simpa using (List.getElem?_eq_some_iff.1 hj).1
    obtain ⟨q, hq, _⟩ := key j hjl
    rw [(hx j (by omega)).1, hq]
    simp [hjl, hq, intOf] at hj
    rw [← hj]
   obtain ⟨T, hT⟩ := Asm.RowView.of_cells a len cap 1 _ hl hm (by decide) (by simp) hcells
   refine ⟨(List.range len).map fun i => intOf (V i), T, ?_, by rw [List.length_map, List.length_range]; exact hT, ?_⟩
   · intro z hz
     obtain ⟨i, hi, rfl⟩ := List.mem_map.1 hz
     obtain ⟨q, hq, hq2⟩ := key i (List.mem_range.1 hi)
     rw [hq]
     simpa [intOf] using hq2
   · intro hwt
     have e1 : d = _ := congrArg Prod.fst hy
     rw [e1] at hwt
     have hb8 : Tryz.prog.bytesOf 3 = 8 := by kernel_rfl
     have h1 := hwt _ (by rw [DataW.weights, Tryz.underlying51]; exact List.mem_cons_self)
     rw [hb8] at h1
     simp only [List.length_map, List.length_range] at h1 ⊢
     refine Nat.le_trans ?_ h1
     omega
end Go.Proofs.YtabmlbnnhhpaoaaGreatDoor
set_option maxRecDepth 100000
namespace Go.Proofs.YtabmlbnnhhpaoaaGreatDoor
open Go.ChangeShapes Go.WideShapes Go.ChangeAt Go.RowKit
def noImageInts : Array Value := #[.agg #[.int .u32 0, .slice none 0 0, .slice none 0 0], .slice none 0 0]
theorem asmBlanks_lifted (os : Os) (started : os.Started) (H : Type) (enc : TypeId × Value → H) :
 ReturnsInHanded {} Tryz.checked os 9 .any (fun w args => (Rows.asmBlanksSpec.pre enc Tryz.prog Tryz.f9 [] false w args ∧ laidMetH Tryz.prog laid6 w) ∧ sizedMet enc Tryz.prog Tryz.f9 (OpenSpec.ofChange Rows.asmBlanksSpec) false w args)
  (Rows.asmBlanksSpec.post enc Tryz.prog Tryz.f9 false true false false) := by
 refine returnsInHanded_of_change_and (C := Tryz.checked) (X := fun w _ => laidMetH Tryz.prog laid6 w) (fun _ _ _ hh h => h.of_heap hh) own started (by kernel_rfl) Tryz.func9
  (ChangeSpec.witness_shaped (enc := enc) (C := Tryz.checked) (os := os) (X := fun w _ => laidMetH Tryz.prog laid6 w) false (World.laidAll Tryz.prog os laid6) noImageInts 8 (World.laidAll_os _ _ _) (World.shaped_of_ZipB (by kernel_rfl) (by kernel_rfl)) (by kernel_rfl) (by kernel_rfl) (by kernel_rfl) (lay_met os _)) ?_
 intro W base args ds gs before hval0 hW _ hsz hL _
 have hval : ∀ (j : Nat) t v, Tryz.f9.params[j]? = some t → args[j]? = some v → Value.okWide Tryz.prog W .any base t v := hval0
 have hW' := hW
 obtain ⟨p, q, hA0, hV, rfl, hfz, hnd⟩ := hW
 have hA : DataW.TrodAll enc Tryz.prog W 0 (fun _ => true) true Tryz.f9.params.toList args.toList ds p := hA0
 rw [Tryz.params9] at hA hval hsz
 obtain ⟨v0, v1, d0, d1, p0, p1, rfl, rfl, rfl, h0, h1⟩ := trodAll_two hA
 obtain ⟨rfl, rfl⟩ := trodVars_none hV
 have b0 := h0
 have b1 := h1
 obtain ⟨zs, Tr, hzs, hrv, hzl⟩ := open_ints_sized (hval 1 51 v1 rfl rfl) h1
 obtain ⟨o, ws, ls, wv, lv, Tw, Tl, rfl, ho, hws, hww, hlv, hls, hsized⟩ := open_image_sized (hval 0 27 v0 rfl rfl) h0
 obtain ⟨z1, z2, z3⟩ := hsized fun n hn => of_decide_eq_true ((List.all_eq_true.1 hsz) n (List.mem_append_left _ hn))
 have z4 := hzl fun n hn => of_decide_eq_true ((List.all_eq_true.1 hsz) n (List.mem_append_right _ (List.mem_append_left _ hn)))
 have er : reachBytes = 140737488351232 := rfl
 have hLd := of_laid hL
 have hHd := hex_of_laid hL
 clear hA0 hval0
 refine (asmBlanks_walk o ws ls wv lv zs v1 W ho hws hww hlv (fun x hx => ⟨by have := z1 x hx; omega, hls x hx⟩) (by omega) (by omega) hrv (by omega) hzs hLd hHd).mono fun e W' ⟨he, bel⟩ => ?_
 subst he
 exact ⟨_, rfl, _, _, _, [], _, [], hW', trodAll_mk1 (shut_bool Tryz.underlying4 _), trodAll_cons_mk (trod_back (by kernel_rfl) (by kernel_rfl) b0 bel) (trodAll_cons_mk (trod_back (by kernel_rfl) (by kernel_rfl) b1 bel) trodAll_mk0), rfl, bel.frame _, fun h => by cases h⟩
theorem asmBlanks_holds : Rows.AsmBlanksSaid :=
 OpenClaim.holds_of_wide 9 Tryz.f9 rfl rfl rfl rfl rfl rfl rfl ⟨rfl, rfl, rfl, rfl, rfl⟩ rfl rfl rfl rfl rfl (by kernel_rfl) Tryz.func9 (by kernel_rfl)
  (of_decide_eq_true (by kernel_rfl)) (by unfold Func.isWrapper; first | (rw [if_pos (by decide +kernel)]; kernel_rfl) | (rw [if_neg (by decide +kernel)]; exact ⟨rfl, rfl⟩))
  (fun os started H enc _ => asmBlanks_lifted os started H enc)
theorem asmBlanks_card_holds : Rows.AsmBlanksCardSaid :=
 Claim7.holds_tied_plain_at .later [] [.data, .data, .data, .data, .data, .pinned] true _ true
  asmBlanks_holds (fun _ h => by cases h) (by kernel_rfl) (fun _ h => by cases h) asmBlanks_row_tie rfl ⟨rfl, rfl⟩ (by kernel_rfl) rfl
  (fun f fn hf hfn => by
   obtain rfl : f = 9 := Option.some.inj ((show Tryz.prog.funcNamed _ = some 9 by kernel_rfl).symm.trans hf) |>.symm
   obtain rfl : fn = Tryz.f9 := (Option.some.inj (Tryz.func9.symm.trans hfn)).symm
   exact ⟨by kernel_rfl, fun j t ht => by
    rw [Tryz.params9] at ht
    have hm : t ∈ [27, 51] := by simpa using Array.mem_of_getElem? ht
    have hall : ([27, 51].all fun u => !Tryz.prog.wantsStandIn u) = true := by kernel_rfl
    exact (show Tryz.prog.wantsStandIn t = false by simpa using List.all_eq_true.1 hall t hm)⟩)
  (by kernel_rfl)
#print axioms asmBlanks_card_holds
end Go.Proofs.YtabmlbnnhhpaoaaGreatDoor
