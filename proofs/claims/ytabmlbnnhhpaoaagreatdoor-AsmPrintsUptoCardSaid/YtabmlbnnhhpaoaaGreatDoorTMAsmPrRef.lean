/- What this claim needs of MAsmPrRef. -/
import Derived.Test.YtabmlbnnhhpaoaaGreatDoorTMAsmBase
import Derived.Test.YtabmlbnnhhpaoaaGreatDoorTMIsaReg
import Derived.Test.YtabmlbnnhhpaoaaGreatDoorTQAsmPrintsx114
import Derived.Test.YtabmlbnnhhpaoaaGreatDoorTMAsmDisG
import Derived.Test.YtabmlbnnhhpaoaaGreatDoorTMAsmRefG
set_option linter.unusedSimpArgs false
set_option linter.unusedVariables false
set_option maxHeartbeats 3000000
set_option maxRecDepth 100000
namespace Go.Proofs.YtabmlbnnhhpaoaaGreatDoor
open Go.RowKit Go.Proofs.YtabmlbnnhhpaoaaGreatDoorW.PrintWords PAsmPrints
namespace RefN
theorem letter_eq (c : UInt8) : r_letter.f (c.toNat : Int) = some (Asm.letter c) := by
 have hc : c.toNat < 256 := c.toNat_lt
 unfold r_letter.f Asm.letter
 repeat' split
 all_goals (refine congrArg some ?_; rw [Bool.eq_iff_iff]; simp; omega)
theorem digit_eq (c : UInt8) : r_digit.f (c.toNat : Int) = some (Asm.digit c) := by
 unfold r_digit.f Asm.digit
 split
 all_goals (refine congrArg some ?_; rw [Bool.eq_iff_iff]; simp; try omega)
def names : List ByteArray := [(⟨#[114, 48]⟩ : ByteArray), (⟨#[114, 49]⟩ : ByteArray), (⟨#[114, 50]⟩ : ByteArray), (⟨#[114, 51]⟩ : ByteArray), (⟨#[114, 52]⟩ : ByteArray), (⟨#[114, 53]⟩ : ByteArray), (⟨#[114, 54]⟩ : ByteArray), (⟨#[114, 55]⟩ : ByteArray), (⟨#[114, 56]⟩ : ByteArray), (⟨#[114, 57]⟩ : ByteArray), (⟨#[114, 49, 48]⟩ : ByteArray), (⟨#[114, 49, 49]⟩ : ByteArray), (⟨#[114, 49, 50]⟩ : ByteArray), (⟨#[114, 49, 51]⟩ : ByteArray), (⟨#[114, 49, 52]⟩ : ByteArray), (⟨#[114, 49, 53]⟩ : ByteArray)]
theorem names_at : ∀ j : Fin 16, rdOf ByteArray.empty names (j.1 : Int) = ⟨(Asm.regName j.1).toArray⟩ := by decide +kernel
theorem reg_loop (s : List UInt8) : ∀ (d j k : Nat), 16 - j = d → j ≤ 16 → d < k → r_Register.l0 k ⟨s.toArray⟩ names (j : Int) = some (match Asm.regFrom d j s with | some n => (n : Int) | none => -1)
 | 0, j, k, hd, hj, hk => by
  obtain ⟨k, rfl⟩ : ∃ m, k = m + 1 := ⟨k - 1, by omega⟩
  rw [r_Register.l0, if_neg (by omega)]
  rfl
 | d + 1, j, k, hd, hj, hk => by
  obtain ⟨k, rfl⟩ : ∃ m, k = m + 1 := ⟨k - 1, by omega⟩
  have hn := names_at ⟨j, by omega⟩
  simp only at hn
  have ew : wrap64 ((j : Int) + 1) = ((j + 1 : Nat) : Int) := by unfold wrap64; omega
  rw [r_Register.l0, if_pos (by omega), if_pos (by omega), if_pos (show (j : Int) < ((names.length : Nat) : Int) by show (j : Int) < ((16 : Nat) : Int); omega), hn, ew]
  unfold Asm.regFrom
  by_cases hm : s = Asm.regName j
  · rw [if_pos (by rw [hm]), if_pos hm]
  · rw [if_neg (fun hh => hm ?_), if_neg hm]
    · exact reg_loop s d (j + 1) k (by omega) (by omega) (by omega)
    · have := congrArg ByteArray.data (bytes_eq hh)
      exact (List.toArray_inj this).symm
theorem reg_eq (s : List UInt8) (k : Nat) (hk : 17 ≤ k) : r_Register.f k ⟨s.toArray⟩ = some (match Asm.regOf s with | some n => (n : Int) | none => -1) :=
 reg_loop s 16 0 k rfl (by decide) (by omega)
theorem bt_eq (s : List UInt8) (i : Nat) (h : i < s.length) : bt ⟨s.toArray⟩ (i : Int) = (s[i].toNat : Int) := by
 unfold bt
 have hs : (⟨s.toArray⟩ : ByteArray).size = s.length := by simp [ByteArray.size]
 rw [dif_pos (by rw [hs]; omega)]
 simp [ByteArray.getElem_eq_getElem_data]
theorem span_all (p : UInt8 → Bool) : ∀ l : List UInt8, Asm.span p l = l.length ↔ l.all p = true
 | [] => by simp [Asm.span]
 | c :: l => by
  have h1 := span_all p l
  unfold Asm.span
  cases hp : p c with
  | true => simp [hp, ← h1]
  | false => simp [hp]
theorem name_loop (s : List UInt8) (hs : s.length ≤ 16) : ∀ (d i k : Nat), s.length - i = d → 1 ≤ i → i ≤ s.length → d < k → r_IsName.l0 k ⟨s.toArray⟩ (i : Int) = some ((s.drop i).all Asm.nameByte)
 | 0, i, k, hd, h1, hi, hk => by
  obtain ⟨k, rfl⟩ : ∃ m, k = m + 1 := ⟨k - 1, by omega⟩
  have hz : (⟨s.toArray⟩ : ByteArray).size = s.length := by simp [ByteArray.size]
  rw [r_IsName.l0, if_neg (by rw [hz]; omega), List.drop_eq_nil_of_le (by omega)]
  rfl
 | d + 1, i, k, hd, h1, hi, hk => by
  obtain ⟨k, rfl⟩ : ∃ m, k = m + 1 := ⟨k - 1, by omega⟩
  have hz : (⟨s.toArray⟩ : ByteArray).size = s.length := by simp [ByteArray.size]
  have hlt : i < s.length := by omega
  have ew : wrap64 ((i : Int) + 1) = ((i + 1 : Nat) : Int) := by unfold wrap64; omega
  rw [r_IsName.l0, if_pos (by rw [hz]; omega), if_pos (by omega), bt_eq s i hlt, letter_eq, digit_eq, Option.bind_some, Option.bind_some, ew, name_loop s hs d (i + 1) k (by omega) (by omega) (by omega) (by omega), List.drop_eq_getElem_cons hlt, List.all_cons]
  obtain ⟨c, hc⟩ : ∃ c, s[i] = c := ⟨_, rfl⟩
  rw [hc]
  unfold Asm.nameByte
  by_cases h46 : (c.toNat : Int) = 46
  · rw [if_pos h46]; simp; intro h; omega
  · rw [if_neg h46]
    have hz : ¬ (i : Int) = 0 := by omega
    have h46' : decide (c.toNat = 46) = false := by simp; omega
    rw [h46', if_neg hz, if_neg hz]
    cases Asm.letter c <;> cases Asm.digit c <;> simp
theorem digit_letter (c : UInt8) (h : Asm.letter c = true) : Asm.digit c = false := by
 unfold Asm.letter at h; unfold Asm.digit
 simp at h ⊢
 omega
theorem name_eq (s : List UInt8) (hl : s.length ≤ 9223372036854775806) (k : Nat) (hk : 40 ≤ k) : r_IsName.f k ⟨s.toArray⟩ = some (Asm.nameOk s) := by
 have hz : (⟨s.toArray⟩ : ByteArray).size = s.length := by simp [ByteArray.size]
 obtain ⟨m, rfl⟩ : ∃ m, k = m + 1 := ⟨k - 1, by omega⟩
 unfold r_IsName.f
 cases s with
 | nil => rw [if_pos (by rw [hz]; decide), r_IsName.j0, if_pos rfl]; rfl
 | cons c l =>
  rw [if_neg (by rw [hz]; simp; omega)]
  by_cases h16 : l.length ≤ 15
  · rw [if_neg (by rw [hz]; simp; omega), reg_eq _ _ (by omega), Option.bind_some]
    cases hr : Asm.regOf (c :: l) with
    | some n =>
     simp only
     rw [r_IsName.j0, if_pos (by simp)]
     simp [Asm.nameOk, hr]
    | none =>
     simp only
     rw [r_IsName.j0, if_neg (by simp)]
     obtain ⟨m, rfl⟩ : ∃ q, m = q + 1 := ⟨m - 1, by omega⟩
     have hb := bt_eq (c :: l) 0 (by simp)
     rw [show ((0 : Nat) : Int) = 0 from rfl] at hb
     rw [r_IsName.l0, if_pos (by rw [hz]; simp), if_pos (by omega), hb]
     simp only [List.getElem_cons_zero]
     rw [letter_eq, digit_eq, Option.bind_some, Option.bind_some, show wrap64 ((0 : Int) + 1) = ((1 : Nat) : Int) by unfold wrap64; decide]
     rw [name_loop (c :: l) (by simp; omega) l.length 1 m (by simp) (by decide) (by simp) (by omega)]
     have hsp : decide (Asm.span Asm.nameByte (c :: l) = l.length + 1) = (c :: l).all Asm.nameByte := by
      have := span_all Asm.nameByte (c :: l)
      rw [Bool.eq_iff_iff, ← this]; simp
     have hnm : Asm.nameOk (c :: l) = (Asm.letter c && (Asm.nameByte c && l.all Asm.nameByte)) := by
      have e : Asm.nameOk (c :: l) = ((Asm.regOf (c :: l)).isNone && decide (l.length ≤ 15) && Asm.letter c && decide (Asm.span Asm.nameByte (c :: l) = l.length + 1)) := rfl
      rw [e, hr, hsp]
      simp [h16]
     rw [hnm, List.drop_one, List.tail_cons]
     unfold Asm.nameByte
     by_cases h46 : (c.toNat : Int) = 46
     · rw [if_pos h46]
       have h46' : decide (c.toNat = 46) = true := by simp; omega
       rw [h46']; simp
     · have h46' : decide (c.toNat = 46) = false := by simp; omega
       rw [if_neg h46, h46']
       simp only [if_true]
       cases hlt : Asm.letter c with
       | true => rw [digit_letter c hlt]; simp
       | false => cases Asm.digit c <;> simp
  · rw [if_pos (by rw [hz]; simp; omega), r_IsName.j0, if_pos rfl]
    simp [Asm.nameOk, h16]
end RefN
theorem rname_calls (s : List UInt8) (hl : s.length ≤ 9223372036854775806) (w : World) : Calls Tryz.prog 34 #[.string ⟨s.toArray⟩] w fun e w' => e = .returned (.bool (Asm.nameOk s)) ∧ Below w.heap.size w w' :=
 r_IsName.calls 40 _ _ w (RefN.name_eq s hl 40 (by decide))
end Go.Proofs.YtabmlbnnhhpaoaaGreatDoor
namespace Go.Proofs.YtabmlbnnhhpaoaaGreatDoor
open Go.RowKit Go.Shelf
namespace Asm
def chk (o to_ : Nat) : Nat → List (List UInt8) → List Lab → Bool
 | _, _, [] => true
 | p, seen, x :: l => nameOk x.1 && (decide (x.2 % 4 = 0) && (decide (o ≤ x.2) && (decide (x.2 ≤ to_) && (decide (p ≤ x.2) && (!seen.contains x.1 && chk o to_ x.2 (x.1 :: seen) l)))))
theorem chk_eq (o t : Nat) : ∀ (ls : List Lab) (p : Nat) (seen : List (List UInt8)), chk o t p seen ls = (labelsOk o t seen ls && ((match ls with | [] => true | y :: _ => decide (p ≤ y.2)) && rises ls))
 | [], _, _ => rfl
 | x :: l, p, seen => by
  have hr : rises (x :: l) = ((match l with | [] => true | y :: _ => decide (x.2 ≤ y.2)) && rises l) := rfl
  rw [chk, labelsOk, chk_eq o t l x.2 (x.1 :: seen), hr]
  have hm : (match x :: l with | [] => true | y :: _ => decide (p ≤ y.2)) = decide (p ≤ x.2) := rfl
  rw [hm]
  generalize (match l with | [] => true | y :: _ => decide (x.2 ≤ y.2)) = q
  cases nameOk x.1 <;> cases seen.contains x.1 <;> cases decide (x.2 % 4 = 0) <;> cases decide (o ≤ x.2) <;> cases decide (x.2 ≤ t) <;> cases decide (p ≤ x.2) <;> cases labelsOk o t (x.1 :: seen) l <;> simp
def prevOf (ls : List Lab) : Nat → Nat
 | 0 => 0
 | i + 1 => match ls[i]? with | some x => x.2 | none => 0
def seenOf (ls : List Lab) (i : Nat) : List (List UInt8) := ((ls.take i).map (·.1)).reverse
theorem seenOf_succ {ls : List Lab} {i : Nat} {x : Lab} (h : ls[i]? = some x) : seenOf ls (i + 1) = x.1 :: seenOf ls i := by
 obtain ⟨h1, h2⟩ := List.getElem?_eq_some_iff.1 h
 unfold seenOf
 rw [List.take_succ_eq_append_getElem h1, h2]
 simp
theorem sound_chk (o n : Nat) (ls : List Lab) (h1 : o % 4 = 0) (h2 : n ≤ 4096) (h3 : o + 4 * n ≤ 4294967296) : sound o n ls = chk o (o + 4 * n) (prevOf ls 0) (seenOf ls 0) ls := by
 rw [chk_eq]
 unfold sound
 rw [decide_eq_true h1, decide_eq_true h2, decide_eq_true h3]
 have : (match ls with | [] => true | y :: _ => decide (prevOf ls 0 ≤ y.2)) = true := by cases ls <;> simp [prevOf]
 rw [this]
 simp [seenOf]
def fresh (ls : List Lab) (nm : List UInt8) (k : Nat) : Bool := (ls.take k).all fun y => decide (y.1 ≠ nm)
theorem fresh_succ {ls : List Lab} {nm : List UInt8} {k : Nat} {y : Lab} (h : ls[k]? = some y) : fresh ls nm (k + 1) = (fresh ls nm k && decide (y.1 ≠ nm)) := by
 obtain ⟨h1, h2⟩ := List.getElem?_eq_some_iff.1 h
 unfold fresh
 rw [List.take_succ_eq_append_getElem h1, h2]
 simp
theorem fresh_seen (ls : List Lab) (nm : List UInt8) (i : Nat) : fresh ls nm i = !(seenOf ls i).contains nm := by
 unfold fresh seenOf
 rw [Bool.eq_iff_iff, Bool.not_eq_true', ← Bool.not_eq_true]
 constructor
 · intro h hc
   have hm := List.contains_iff_mem.1 hc
   rw [List.mem_reverse, List.mem_map] at hm
   obtain ⟨y, hy, e⟩ := hm
   have := List.all_eq_true.1 h y hy
   simp at this
   exact this e
 · intro h
   refine List.all_eq_true.2 fun y hy => ?_
   simp
   intro e
   exact h (List.contains_iff_mem.2 (List.mem_reverse.2 (List.mem_map.2 ⟨y, hy, e⟩)))
theorem fresh_stop {ls : List Lab} {nm : List UInt8} {k i : Nat} {y : Lab} (h : ls[k]? = some y) (hk : k < i) (he : y.1 = nm) : fresh ls nm i = false := by
 unfold fresh
 refine List.all_eq_false.2 ⟨y, ?_, by simp [he]⟩
 obtain ⟨h1, h2⟩ := List.getElem?_eq_some_iff.1 h
 refine List.mem_take_iff_getElem.2 ⟨k, by omega, h2⟩
theorem disBody_take (a : Nat) (ws : List Nat) (ls : List Lab) : disBody a ws ls = (takeAt a ls).1 ++ (match ws with | [] => [] | x :: r => oneLine x a ++ disBody (a + 4) r (takeAt a ls).2) := by
 cases ws <;> simp [disBody]
theorem takeAt_cons {a : Nat} {x : Lab} {l : List Lab} (h : x.2 = a) : takeAt a (x :: l) = (x.1 ++ [58, 10] ++ (takeAt a l).1, (takeAt a l).2) := by rw [takeAt, if_pos h]
theorem takeAt_stop {a : Nat} {x : Lab} {l : List Lab} (h : ¬ x.2 = a) : takeAt a (x :: l) = ([], x :: l) := by rw [takeAt, if_neg h]
def restB (o n : Nat) (ws : List Nat) (ls : List Lab) (k j : Nat) : List UInt8 := if k ≤ n then disBody (o + 4 * k) (ws.drop k) (ls.drop j) else []
end Asm
theorem rdis_calls {T1 T2 : TypeId} (o : Nat) (ws : List Nat) (ls : List Asm.Lab) (wv lv : Value) (w : World) (ho : o < 4294967296) (hws : ∀ x ∈ ws, x < 4294967296) (hwl : ws.length ≤ 140737488355328) (hww : Asm.RowView w T1 wv ws.length (ws.map Asm.wordCells)) (hlv : Asm.RowView w T2 lv ls.length (ls.flatMap Asm.labCells))
 (hls : ∀ x ∈ ls, x.1.length ≤ 9223372036854775806 ∧ x.2 < 4294967296) (hll : ls.length * 24 ≤ 140737488351232) :
 Calls Tryz.prog 19 #[.agg #[.int .u32 (o : Int), wv, lv]] w fun e w' => e = .returned (.tuple #[.string ⟨(Asm.dis o ws ls).1.toArray⟩, .int .i64 (Asm.dis o ws ls).2]) ∧ Below w.heap.size w w' := by
 obtain ⟨pw, cw, rfl⟩ : ∃ p c, wv = .slice p ws.length c := by obtain ⟨p, c, e, _⟩ := hww; exact ⟨p, c, e⟩
 obtain ⟨pl, cl, rfl⟩ : ∃ p c, lv = .slice p ls.length c := by obtain ⟨p, c, e, _⟩ := hlv; exact ⟨p, c, e⟩
 have K0 := heap_alloc_new w (.cells #[.int .u32 (o : Int), .slice pw ws.length cw, .slice pl ls.length cl] 27)
 have B0 : Below w.heap.size w (w.alloc (.cells #[.int .u32 (o : Int), .slice pw ws.length cw, .slice pl ls.length cl] 27)) := below_alloc' (Below.refl _ _) _
 obtain ⟨R, hR⟩ : ∃ R, Asm.dis o ws ls = R := ⟨_, rfl⟩
 rw [hR]
 obtain ⟨n, hn⟩ : ∃ n, ws.length = n := ⟨_, rfl⟩
 obtain ⟨len, hlen⟩ : ∃ len, ls.length = len := ⟨_, rfl⟩
 rw [hn, hlen] at K0 B0
 rw [hn] at hwl
 rw [hlen] at hll
 rw [hn, hlen]
 have HR := Lib.hid hR
 have HN := Lib.hid hn
 have HLEN := Lib.hid hlen
 have HW := Lib.hid hww
 have HLV := Lib.hid hlv
 have HLS := Lib.hid hls
 have HWS := Lib.hid hws
 have HK0 := Lib.hid K0
 have HB0 := Lib.hid B0
 clear hR hn hlen hww hlv hls hws K0 B0
 by_cases h4 : o % 4 = 0
 · have q1 : ((o : Int) % 4 != 0) = false := by simp; omega
   by_cases hn4 : n ≤ 4096
   · have q2 : decide ((4096 : Int) < (n : Int)) = false := by simp; omega
     by_cases hto : o + 4 * n ≤ 4294967296
     · have q3 : decide ((4294967296 : Int) < (o : Int) + 4 * (n : Int)) = false := by simp; omega
       have hsd : R = if Asm.chk o (o + 4 * n) (Asm.prevOf ls 0) (Asm.seenOf ls 0) ls = true then (if 20000 < (Asm.disText o ws ls).length then ([], 110) else (Asm.disText o ws ls, 0)) else ([], 116) := by
        rw [← HR.out]; unfold Asm.dis; rw [HN.out, Asm.sound_chk o n ls h4 hn4 hto]
       have HSD := Lib.hid hsd
       have hk0 := HK0.out
       clear hsd HR
       go_enter Tryz.func19, Tryz.ntmps19
       go_wp2_with fail
       go_loopw [5] (fun v wr => ∃ k : Nat, v = .int .i64 (k : Int) ∧ k ≤ len ∧ Hid (Asm.chk o (o + 4 * n) (Asm.prevOf ls 0) (Asm.seenOf ls 0) ls = Asm.chk o (o + 4 * n) (Asm.prevOf ls k) (Asm.seenOf ls k) (ls.drop k)) ∧ wr.heap[w.heap.size]? = some (.cells #[.int .u32 (o : Int), .slice pw n cw, .slice pl len cl] 27 (0, 0)) ∧ Hid (Below w.heap.size w wr)) (fun v _ => len - (intOf v).toNat)
       case atStart => exact ⟨0, rfl, Nat.zero_le _, Lib.hid rfl, hk0, HB0⟩
       case round =>
        clear hk0
        obtain ⟨k, rfl, hk, HC, KB, HB⟩ := hrel
        by_cases hlt : k < len
        · obtain ⟨x, hx⟩ : ∃ x, ls[k]? = some x := ⟨ls[k]'(by have := HLEN.out; omega), List.getElem?_eq_getElem _⟩
          obtain ⟨g, og, cap, ep, hc1, hc2, hg, hcell⟩ := HLV.out.cells (by have := HLEN.out; omega)
          injection ep with ep1 ep2 ep3
          subst ep1
          subst ep3
          have HCELL := Lib.hid hcell
          have a1 := Asm.labs_at ls k x hx
          have c0 : wr.cell? ⟨g, og + k * 2, none⟩ = some (.string ⟨x.1.toArray⟩) := (HB.out.cell (p := ⟨g, og + k * 2, none⟩) hg).trans (hcell _ _ a1.1)
          have c1 : wr.cell? ⟨g, og + k * 2 + 1, none⟩ = some (.int .u32 (x.2 : Int)) := (HB.out.cell (p := ⟨g, og + k * 2 + 1, none⟩) hg).trans (hcell _ _ a1.2)
          have k2 : wr.cell? ⟨w.heap.size, 2, none⟩ = some (.slice (some ⟨g, og, none⟩) len cl) := (blk_facts KB).1 2
          have zb := blk_size KB
          obtain ⟨hx1, hx2⟩ := HLS.out x (List.mem_of_getElem? hx)
          have hdrop : ls.drop k = x :: ls.drop (k + 1) := by
           obtain ⟨h1, h2⟩ := List.getElem?_eq_some_iff.1 hx
           rw [List.drop_eq_getElem_cons h1, h2]
          have hstep : Asm.chk o (o + 4 * n) (Asm.prevOf ls k) (Asm.seenOf ls k) (ls.drop k) = (Asm.nameOk x.1 && (decide (x.2 % 4 = 0) && (decide (o ≤ x.2) && (decide (x.2 ≤ o + 4 * n) && (decide (Asm.prevOf ls k ≤ x.2) && (!(Asm.seenOf ls k).contains x.1 && Asm.chk o (o + 4 * n) x.2 (x.1 :: Asm.seenOf ls k) (ls.drop (k + 1)))))))) := by rw [hdrop]; rfl
          have HS := Lib.hid hstep
          have hpx : Asm.prevOf ls (k + 1) = x.2 := by show (match ls[k]? with | some x => x.2 | none => 0) = x.2; rw [hx]
          have HPX := Lib.hid (And.intro hpx (Asm.seenOf_succ hx))
          have ix := fun W => idx_lab g og len cl k hlt W
          have KX := heap_alloc_new wr (.cells #[.string ⟨x.1.toArray⟩, .int .u32 (x.2 : Int)] 42)
          have KBX := blk_alloc (.cells #[.string ⟨x.1.toArray⟩, .int .u32 (x.2 : Int)] 42) KB
          have BX := below_alloc' HB.out (.cells #[.string ⟨x.1.toArray⟩, .int .u32 (x.2 : Int)] 42)
          have HKX := Lib.hid KX
          have HKBX := Lib.hid KBX
          have HBX := Lib.hid BX
          clear hcell a1 hdrop hstep hc1 hc2 hpx KX KBX BX
          go_wp2_with fail
          refine (rname_calls x.1 hx1 _).mono ?_
          rintro e w1 ⟨rfl, hb1⟩
          obtain ⟨lb, hlb⟩ : ∃ lb, wr.heap.size = lb := ⟨_, rfl⟩
          have KX1 : w1.heap[lb]? = some (.cells #[.string ⟨x.1.toArray⟩, .int .u32 (x.2 : Int)] 42 (0, 0)) := hlb ▸ blk_keep hb1 HKX.out
          have KB1 := blk_keep hb1 HKBX.out
          have HB1 := Lib.hid (below_next HBX.out hb1)
          rw [hlb]
          clear HKX HKBX HBX hb1 hlb c0 c1 k2 zb
          have d0 : w1.cell? ⟨lb, 0, none⟩ = some (.string ⟨x.1.toArray⟩) := (blk_facts KX1).1 0
          have d1 : w1.cell? ⟨lb, 1, none⟩ = some (.int .u32 (x.2 : Int)) := (blk_facts KX1).1 1
          have b0 : w1.cell? ⟨w.heap.size, 0, none⟩ = some (.int .u32 (o : Int)) := (blk_facts KB1).1 0
          have b2 : w1.cell? ⟨w.heap.size, 2, none⟩ = some (.slice (some ⟨g, og, none⟩) len cl) := (blk_facts KB1).1 2
          have z0 := blk_size KX1
          have z1 := blk_size KB1
          cases hnm : Asm.nameOk x.1 with
          | false =>
           have hr : R = ([], 116) := by rw [HSD.out, HC.out, HS.out]; simp [hnm]
           subst hr
           go_wp2_with fail
           go_quiet (fail)
           all_goals go_wp2_with fail
           go_ret2
           exact ⟨rfl, by first | exact below_drewN' HB1.out _ | exact HB1.out⟩
          | true =>
           by_cases m4 : x.2 % 4 = 0
           · have m4' : ((x.2 : Int) % 4 != 0) = false := by simp; omega
             by_cases mo : o ≤ x.2
             · have mo' : decide (x.2 < o) = false := by simp; omega
               by_cases mt : x.2 ≤ o + 4 * n
               · have mt' : decide ((o : Int) + 4 * (n : Int) < (x.2 : Int)) = false := by simp; omega
                 by_cases hk0 : k = 0
                 · have k0' : decide (0 < k) = false := by simp; omega
                   have hpv : Asm.prevOf ls k ≤ x.2 := by rw [hk0]; exact Nat.zero_le _
                   have HK0' := Lib.hid hk0
                   clear hk0
                   go_wp2_with fail
                   go_quiet (fail)
                   all_goals go_wp2_with fail
                   have KX2 : (w1.drewN nq).heap[lb]? = some (.cells #[.string ⟨x.1.toArray⟩, .int .u32 (x.2 : Int)] 42 (0, 0)) := KX1
                   have KB2 : (w1.drewN nq).heap[w.heap.size]? = some (.cells #[.int .u32 (o : Int), .slice pw n cw, .slice (some ⟨g, og, none⟩) len cl] 27 (0, 0)) := KB1
                   have HB2 := Lib.hid (below_drewN' HB1.out nq)
                   generalize w1.drewN nq = wq at KX2 KB2 HB2 ⊢
                   clear KX1 KB1 HB1 d0 d1 b0 b2 z0 z1 KB HB
                   go_loopw [8] (fun v wi => ∃ m : Nat, v = .int .i64 (m : Int) ∧ m ≤ k ∧ Hid (Asm.fresh ls x.1 m = true) ∧ wi.heap[lb]? = some (.cells #[.string ⟨x.1.toArray⟩, .int .u32 (x.2 : Int)] 42 (0, 0)) ∧ wi.heap[w.heap.size]? = some (.cells #[.int .u32 (o : Int), .slice pw n cw, .slice (some ⟨g, og, none⟩) len cl] 27 (0, 0)) ∧ Hid (Below w.heap.size w wi)) (fun v _ => k - (intOf v).toNat)
                   case atStart => exact ⟨0, rfl, Nat.zero_le _, Lib.hid rfl, KX2, KB2, HB2⟩
                   case round =>
                    clear KX2 KB2 HB2
                    obtain ⟨m, rfl, hm, HF, KX3, KB3, HB3⟩ := hrel
                    have b2 := (blk_facts KB3).1 2
                    have d0 := (blk_facts KX3).1 0
                    have z0 := blk_size KX3
                    have z1 := blk_size KB3
                    by_cases hmk : m < k
                    · obtain ⟨y, hy⟩ : ∃ y, ls[m]? = some y := ⟨ls[m]'(by have := HLEN.out; omega), List.getElem?_eq_getElem _⟩
                      have e0 := (HB3.out.cell (p := ⟨g, og + m * 2, none⟩) hg).trans (HCELL.out _ _ (Asm.labs_at ls m y hy).1)
                      have ixm := fun W => idx_lab g og len cl m (by omega) W
                      have hm63 : (m : Int) < (len : Int) := by omega
                      by_cases hyx : y.1 = x.1
                      · have hb1 : (y.1 == x.1) = true := by simp [hyx]
                        have hr : R = ([], 116) := by rw [HSD.out, HC.out, HS.out, ← Asm.fresh_seen, Asm.fresh_stop hy hmk hyx]; simp
                        subst hr
                        go_wp2_with fail
                        go_quiet (fail)
                        all_goals go_wp2_with fail
                        go_ret2
                        exact ⟨rfl, by first | exact below_drewN' HB3.out _ | exact HB3.out⟩
                      · have hb1 : (y.1 == x.1) = false := by simp [hyx]
                        go_wp2_with fail
                        go_quiet (fail)
                        all_goals go_wp2_with fail
                        go_roundw
                        case rel => exact ⟨m + 1, by go_num, by omega, Lib.hid (by rw [Asm.fresh_succ hy, HF.out]; simp [hyx]), KX3, KB3, Lib.hid (below_drewN' HB3.out _)⟩
                        case measure => simp [intOf]; omega
                    · obtain rfl : m = k := by omega
                      have hns : (!(Asm.seenOf ls m).contains x.1) = true := by rw [← Asm.fresh_seen]; exact HF.out
                      have HNS := Lib.hid hns
                      clear hns
                      go_wp2_with fail
                      go_roundw
                      case rel => exact ⟨m + 1, by go_num, by omega, Lib.hid (by rw [HC.out, HS.out, hnm, HNS.out, HPX.out.1, HPX.out.2]; simp [m4, mo, mt, hpv]), KB3, HB3⟩
                      case measure => simp [intOf]; omega
                 · obtain ⟨j, hj⟩ : ∃ j, k - 1 = j := ⟨_, rfl⟩
                   have hkj : k = j + 1 := by omega
                   have k0' : decide (0 < k) = true := by simp; omega
                   obtain ⟨y, hy⟩ : ∃ y, ls[j]? = some y := ⟨ls[j]'(by have := HLEN.out; omega), List.getElem?_eq_getElem _⟩
                   have hpy : Asm.prevOf ls k = y.2 := by rw [hkj]; show (match ls[j]? with | some x => x.2 | none => 0) = y.2; rw [hy]
                   have f1 : w1.cell? ⟨g, og + j * 2 + 1, none⟩ = some (.int .u32 (y.2 : Int)) := (HB1.out.cell (p := ⟨g, og + j * 2 + 1, none⟩) hg).trans (HCELL.out _ _ (Asm.labs_at ls j y hy).2)
                   have ixj := fun W => idx_lab g og len cl j (by omega) W
                   have kw : IntKind.i64.wrap ((k : Int) - 1) = (j : Int) := by rw [show (k : Int) - 1 = (j : Int) by omega]; exact IntWalk.i64_in _ (by omega)
                   have kw2 : (k : Int) - 1 = (j : Int) := by omega
                   have hHK := Lib.hid (And.intro hkj hpy)
                   clear hk0 hj hkj hpy hy
                   by_cases hpv : Asm.prevOf ls k ≤ x.2
                   · have hq : decide (x.2 < y.2) = false := by have := hHK.out.2; simp; omega
                     go_wp2_with fail
                     go_quiet (fail)
                     all_goals go_wp2_with fail
                     have KX2 : (w1.drewN nq).heap[lb]? = some (.cells #[.string ⟨x.1.toArray⟩, .int .u32 (x.2 : Int)] 42 (0, 0)) := KX1
                     have KB2 : (w1.drewN nq).heap[w.heap.size]? = some (.cells #[.int .u32 (o : Int), .slice pw n cw, .slice (some ⟨g, og, none⟩) len cl] 27 (0, 0)) := KB1
                     have HB2 := Lib.hid (below_drewN' HB1.out nq)
                     generalize w1.drewN nq = wq at KX2 KB2 HB2 ⊢
                     clear KX1 KB1 HB1 d0 d1 b0 b2 z0 z1 KB HB
                     go_loopw [8] (fun v wi => ∃ m : Nat, v = .int .i64 (m : Int) ∧ m ≤ k ∧ Hid (Asm.fresh ls x.1 m = true) ∧ wi.heap[lb]? = some (.cells #[.string ⟨x.1.toArray⟩, .int .u32 (x.2 : Int)] 42 (0, 0)) ∧ wi.heap[w.heap.size]? = some (.cells #[.int .u32 (o : Int), .slice pw n cw, .slice (some ⟨g, og, none⟩) len cl] 27 (0, 0)) ∧ Hid (Below w.heap.size w wi)) (fun v _ => k - (intOf v).toNat)
                     case atStart => exact ⟨0, rfl, Nat.zero_le _, Lib.hid rfl, KX2, KB2, HB2⟩
                     case round =>
                      clear KX2 KB2 HB2
                      obtain ⟨m, rfl, hm, HF, KX3, KB3, HB3⟩ := hrel
                      have b2 := (blk_facts KB3).1 2
                      have d0 := (blk_facts KX3).1 0
                      have z0 := blk_size KX3
                      have z1 := blk_size KB3
                      by_cases hmk : m < k
                      · obtain ⟨y, hy⟩ : ∃ y, ls[m]? = some y := ⟨ls[m]'(by have := HLEN.out; omega), List.getElem?_eq_getElem _⟩
                        have e0 := (HB3.out.cell (p := ⟨g, og + m * 2, none⟩) hg).trans (HCELL.out _ _ (Asm.labs_at ls m y hy).1)
                        have ixm := fun W => idx_lab g og len cl m (by omega) W
                        have hm63 : (m : Int) < (len : Int) := by omega
                        by_cases hyx : y.1 = x.1
                        · have hb1 : (y.1 == x.1) = true := by simp [hyx]
                          have hr : R = ([], 116) := by rw [HSD.out, HC.out, HS.out, ← Asm.fresh_seen, Asm.fresh_stop hy hmk hyx]; simp
                          subst hr
                          go_wp2_with fail
                          go_quiet (fail)
                          all_goals go_wp2_with fail
                          go_ret2
                          exact ⟨rfl, by first | exact below_drewN' HB3.out _ | exact HB3.out⟩
                        · have hb1 : (y.1 == x.1) = false := by simp [hyx]
                          go_wp2_with fail
                          go_quiet (fail)
                          all_goals go_wp2_with fail
                          go_roundw
                          case rel => exact ⟨m + 1, by go_num, by omega, Lib.hid (by rw [Asm.fresh_succ hy, HF.out]; simp [hyx]), KX3, KB3, Lib.hid (below_drewN' HB3.out _)⟩
                          case measure => simp [intOf]; omega
                      · obtain rfl : m = k := by omega
                        have hns : (!(Asm.seenOf ls m).contains x.1) = true := by rw [← Asm.fresh_seen]; exact HF.out
                        have HNS := Lib.hid hns
                        clear hns
                        go_wp2_with fail
                        go_roundw
                        case rel => exact ⟨m + 1, by go_num, by omega, Lib.hid (by rw [HC.out, HS.out, hnm, HNS.out, HPX.out.1, HPX.out.2]; simp [m4, mo, mt, hpv]), KB3, HB3⟩
                        case measure => simp [intOf]; omega
                   · have hq : decide (x.2 < y.2) = true := by have := hHK.out.2; simp; omega
                     have hr : R = ([], 116) := by rw [HSD.out, HC.out, HS.out]; simp [hpv]
                     subst hr
                     go_wp2_with fail
                     go_quiet (fail)
                     all_goals go_wp2_with fail
                     go_ret2
                     exact ⟨rfl, by first | exact below_drewN' HB1.out _ | exact HB1.out⟩
               · have mt' : decide ((o : Int) + 4 * (n : Int) < (x.2 : Int)) = true := by simp; omega
                 have hr : R = ([], 116) := by rw [HSD.out, HC.out, HS.out]; simp [mt]
                 subst hr
                 go_wp2_with fail
                 go_quiet (fail)
                 all_goals go_wp2_with fail
                 go_ret2
                 exact ⟨rfl, by first | exact below_drewN' HB1.out _ | exact HB1.out⟩
             · have mo' : decide (x.2 < o) = true := by simp; omega
               have hr : R = ([], 116) := by rw [HSD.out, HC.out, HS.out]; simp [mo]
               subst hr
               go_wp2_with fail
               go_quiet (fail)
               all_goals go_wp2_with fail
               go_ret2
               exact ⟨rfl, by first | exact below_drewN' HB1.out _ | exact HB1.out⟩
           · have m4' : ((x.2 : Int) % 4 != 0) = true := by simp; omega
             have hr : R = ([], 116) := by rw [HSD.out, HC.out, HS.out]; simp [m4]
             subst hr
             go_wp2_with fail
             go_quiet (fail)
             all_goals go_wp2_with fail
             go_ret2
             exact ⟨rfl, by first | exact below_drewN' HB1.out _ | exact HB1.out⟩
        · obtain rfl : k = len := by omega
          have hd : ls.drop k = [] := List.drop_eq_nil_of_le (by rw [HLEN.out]; exact Nat.le_refl _)
          have hct : Asm.chk o (o + 4 * n) (Asm.prevOf ls 0) (Asm.seenOf ls 0) ls = true := by rw [HC.out, hd]; rfl
          have hR2 : R = if 20000 < (Asm.disText o ws ls).length then ([], 110) else (Asm.disText o ws ls, 0) := by rw [HSD.out, hct, if_pos rfl]
          have hlo : (Asm.labText ls).length ≤ 18 * k := by
           have h := hct
           rw [Asm.chk_eq] at h
           simp only [Bool.and_eq_true] at h
           rw [← HLEN.out]
           exact Asm.labelsOk_len _ _ ls _ h.1
          have HR2 := Lib.hid hR2
          clear hd hct hR2 HC HSD
          obtain ⟨et, het⟩ : ∃ et : ByteArray, (⟨(Hex.eight o).toArray⟩ : ByteArray) = et := ⟨_, rfl⟩
          have hes : et.size ≤ 10 := by rw [← het]; simp [ByteArray.size, Hex.eight_len o ho]
          have hei := fun Y => reight_calls o ho Y
          rw [het] at hei
          have hcat : ((⟨#[46, 111, 114, 103, 32]⟩ : ByteArray) ++ et) ++ ⟨#[10]⟩ = ⟨(Asm.disHead o).toArray⟩ := by rw [← het]; apply ByteArray.ext; simp [Asm.disHead]
          have hhl : (Asm.disHead o).length = 16 := by simp [Asm.disHead, Hex.eight_len o ho]
          have p1 : ¬ (9223372036854775807 < 5 + et.size) := by omega
          have p2 : ¬ (9223372036854775807 < 5 + et.size + 1) := by omega
          have HEI := Lib.hid hei
          have HCAT := Lib.hid hcat
          have HHL := Lib.hid hhl
          clear hei hcat het hhl
          have k2 : wr.cell? ⟨w.heap.size, 2, none⟩ = some (.slice pl k cl) := (blk_facts KB).1 2
          have k0 : wr.cell? ⟨w.heap.size, 0, none⟩ = some (.int .u32 (o : Int)) := (blk_facts KB).1 0
          have zb := blk_size KB
          go_wp2_with fail
          refine (HEI.out _).mono ?_
          rintro e w2 ⟨rfl, nq, rfl⟩
          have KB2 : (wr.drewN nq).heap[w.heap.size]? = some (.cells #[.int .u32 (o : Int), .slice pw n cw, .slice pl k cl] 27 (0, 0)) := KB
          have HB2 := Lib.hid (below_drewN' HB.out nq)
          generalize wr.drewN nq = w2 at KB2 HB2 ⊢
          clear KB HB k2 k0 zb
          go_wp2_with fail
          rw [HCAT.out]
          have hrel0 : Hid (Asm.disText o ws ls = Asm.disHead o ++ Asm.restB o n ws ls 0 0) := Lib.hid (by unfold Asm.restB Asm.disText; rw [if_pos (Nat.zero_le _)]; rfl)
          go_loopw [9, 10, 11] (fun v9 v10 v11 wr => ∃ (i j : Nat) (t1 : List UInt8), v9 = .string ⟨t1.toArray⟩ ∧ v10 = .int .i64 (j : Int) ∧ v11 = .int .i64 (i : Int) ∧ i ≤ n + 1 ∧ j ≤ k ∧ Hid (Asm.disText o ws ls = t1 ++ Asm.restB o n ws ls i j) ∧ Hid (t1.length + (Asm.labText (ls.drop j)).length + 300 * (n - i) ≤ 16 + 18 * k + 300 * n) ∧ wr.heap[w.heap.size]? = some (.cells #[.int .u32 (o : Int), .slice pw n cw, .slice pl k cl] 27 (0, 0)) ∧ Hid (Below w.heap.size w wr)) (fun _ _ v _ => n + 1 - (intOf v).toNat)
          case atStart => exact ⟨0, 0, Asm.disHead o, rfl, rfl, rfl, Nat.zero_le _, Nat.zero_le _, hrel0, Lib.hid (by rw [HHL.out, List.drop_zero]; omega), KB2, HB2⟩
          case round =>
           clear KB2 HB2 hrel0
           obtain ⟨wo, hwo⟩ : ∃ wo : World, wo = wr := ⟨_, rfl⟩
           rw [← hwo] at hrel ⊢
           clear hwo
           obtain ⟨i, j, t1, rfl, rfl, rfl, hi, hj, HT, HL, KB, HB⟩ := hrel
           have b0 : wo.cell? ⟨w.heap.size, 0, none⟩ = some (.int .u32 (o : Int)) := (blk_facts KB).1 0
           have b1 : wo.cell? ⟨w.heap.size, 1, none⟩ = some (.slice pw n cw) := (blk_facts KB).1 1
           have zb := blk_size KB
           by_cases hin0 : i ≤ n
           · obtain ⟨a, ha⟩ : ∃ a, o + 4 * i = a := ⟨_, rfl⟩
             have haI : (o : Int) + 4 * (i : Int) = (a : Int) := by omega
             have ha2 : a + 4 * (n - i) ≤ 4294967296 := by omega
             have HA := Lib.hid ha
             have hT2 : Asm.disText o ws ls = (t1 ++ (Asm.takeAt a (ls.drop j)).1) ++ (match ws.drop i with | [] => [] | x :: r => Asm.oneLine x a ++ Asm.disBody (a + 4) r (Asm.takeAt a (ls.drop j)).2) := by
              rw [HT.out]
              unfold Asm.restB
              rw [if_pos hin0, ha, Asm.disBody_take]
              simp
             have HT1 := Lib.hid hT2
             clear hT2 ha
             go_wp2_with fail
             go_loopw [9, 10] (fun v9 v10 wi => ∃ (j2 : Nat) (t2 : List UInt8), v9 = .string ⟨t2.toArray⟩ ∧ v10 = .int .i64 (j2 : Int) ∧ j2 ≤ k ∧ Hid (t1 ++ (Asm.takeAt a (ls.drop j)).1 = t2 ++ (Asm.takeAt a (ls.drop j2)).1 ∧ (Asm.takeAt a (ls.drop j)).2 = (Asm.takeAt a (ls.drop j2)).2) ∧ Hid (t2.length + (Asm.labText (ls.drop j2)).length + 300 * (n - i) ≤ 16 + 18 * k + 300 * n) ∧ wi.heap[w.heap.size]? = some (.cells #[.int .u32 (o : Int), .slice pw n cw, .slice pl k cl] 27 (0, 0)) ∧ Hid (Below w.heap.size w wi)) (fun _ v _ => k - (intOf v).toNat)
             case atStart => exact ⟨j, t1, rfl, rfl, hj, Lib.hid ⟨rfl, rfl⟩, HL, KB, HB⟩
             case round =>
              clear KB HB b0 b1 zb
              obtain ⟨wi, hwi⟩ : ∃ wi : World, wi = wr := ⟨_, rfl⟩
              rw [← hwi] at hrel ⊢
              clear hwi
              obtain ⟨j2, t2, rfl, rfl, hj2, HTK, HL2, KB3, HB3⟩ := hrel
              have b2 : wi.cell? ⟨w.heap.size, 2, none⟩ = some (.slice pl k cl) := (blk_facts KB3).1 2
              have zb := blk_size KB3
              have hl0 : t2.length + (Asm.labText (ls.drop j2)).length + 300 * (n - i) ≤ 16 + 18 * k + 300 * n := HL2.out
              have hlt2 : t2.length ≤ 16 + 18 * k + 300 * n := by omega
              by_cases hjk : j2 < k
              · obtain ⟨y, hy⟩ : ∃ y, ls[j2]? = some y := ⟨ls[j2]'(by have := HLEN.out; omega), List.getElem?_eq_getElem _⟩
                obtain ⟨g, og, cap, ep, hc1, hc2, hg, hcell⟩ := HLV.out.cells (by have := HLEN.out; omega)
                rw [HLEN.out] at ep
                injection ep with ep1 ep2 ep3
                subst ep1
                subst ep3
                have a1 := Asm.labs_at ls j2 y hy
                have e0 := (HB3.out.cell (p := ⟨g, og + j2 * 2, none⟩) hg).trans (hcell _ _ a1.1)
                have e1 : wi.cell? ⟨g, og + j2 * 2 + 1, none⟩ = some (.int .u32 (y.2 : Int)) := (HB3.out.cell (p := ⟨g, og + j2 * 2 + 1, none⟩) hg).trans (hcell _ _ a1.2)
                obtain ⟨hy1, hy2⟩ := HLS.out y (List.mem_of_getElem? hy)
                have hy2' : (y.2 : Int) < 4294967296 := by omega
                have ixj := fun W => idx_lab g og k cl j2 hjk W
                have hdl : ls.drop j2 = y :: ls.drop (j2 + 1) := by
                 obtain ⟨h1, h2⟩ := List.getElem?_eq_some_iff.1 hy
                 rw [List.drop_eq_getElem_cons h1, h2]
                have HDL := Lib.hid hdl
                clear hcell a1 hdl hc1 hc2 hy
                by_cases hya : y.2 = a
                · have hyb : (y.2 == a) = true := by simp [hya]
                  have hq : t2.length + (y.1.length + 2) + (Asm.labText (ls.drop (j2 + 1))).length + 300 * (n - i) ≤ 16 + 18 * k + 300 * n := by have := HL2.out; rw [HDL.out] at this; simp [Asm.labText] at this ⊢; omega
                  have s1 : ¬ (9223372036854775807 < t2.length + y.1.length) := by omega
                  have s2 : ¬ (9223372036854775807 < t2.length + y.1.length + 2) := by omega
                  have HQ := Lib.hid hq
                  have hTK : t1 ++ (Asm.takeAt a (ls.drop j)).1 = (t2 ++ (y.1 ++ [58, 10])) ++ (Asm.takeAt a (ls.drop (j2 + 1))).1 ∧ (Asm.takeAt a (ls.drop j)).2 = (Asm.takeAt a (ls.drop (j2 + 1))).2 := by
                   rw [HTK.out.1, HTK.out.2, HDL.out, Asm.takeAt_cons hya]
                   simp
                  have HTK2 := Lib.hid hTK
                  clear hq hTK hl0
                  go_wp2_with fail
                  go_roundw
                  case rel =>
                   refine ⟨j2 + 1, t2 ++ (y.1 ++ [58, 10]), ?_, by go_num, by omega, HTK2, Lib.hid (by have := HQ.out; simp only [List.length_append, List.length_cons, List.length_nil]; omega), KB3, HB3⟩
                   refine congrArg Value.string ?_
                   apply ByteArray.ext
                   simp
                  case measure => simp [intOf]; omega
                · have hyb : (y.2 == a) = false := by simp [hya]
                  have HT2 : Hid (Asm.disText o ws ls = t2 ++ (match ws.drop i with | [] => [] | x :: r => Asm.oneLine x a ++ Asm.disBody (a + 4) r (ls.drop j2))) := by
                   refine Lib.hid ?_
                   rw [HT1.out, HTK.out.1, HTK.out.2, HDL.out, Asm.takeAt_stop hya]
                   simp
                  have hyi : ((y.2 : Int) == (a : Int)) = false := by simp; omega
                  clear hl0 hya
                  by_cases hin : i < n
                  · obtain ⟨x, hx⟩ : ∃ x, ws[i]? = some x := ⟨ws[i]'(by have := HN.out; omega), List.getElem?_eq_getElem _⟩
                    obtain ⟨gw, ow, capw, epw, hw1, hw2, hgw, hwcell⟩ := HW.out.cells (by have := HN.out; omega)
                    rw [HN.out] at epw
                    injection epw with ep1 ep2 ep3
                    subst ep1
                    subst ep3
                    have w0 := (HB3.out.cell (p := ⟨gw, ow + i, none⟩) hgw).trans (hwcell i _ (by rw [List.getElem?_map, hx]; rfl))
                    have hx1 : x < 4294967296 := HWS.out x (List.mem_of_getElem? hx)
                    have ixw := fun W => idx_word gw ow n cw i hin W
                    have hline := fun W => rline_calls x a hx1 (by omega) W
                    have htl := Asm.lineText_size x a hx1 (by omega)
                    have h3 := Asm.oneLine_len x a hx1 (by omega)
                    have HONE : Hid (Asm.oneLine x a = [9] ++ (Asm.lineText x a).data.toList ++ [10]) := Lib.hid rfl
                    obtain ⟨tl, htle⟩ : ∃ tl, Asm.lineText x a = tl := ⟨_, rfl⟩
                    rw [htle] at hline htl HONE
                    have HLINE := Lib.hid hline
                    have hdw : ws.drop i = x :: ws.drop (i + 1) := by
                     obtain ⟨h1, h2⟩ := List.getElem?_eq_some_iff.1 hx
                     rw [List.drop_eq_getElem_cons h1, h2]
                    have hT3 : Asm.disText o ws ls = (t2 ++ Asm.oneLine x a) ++ Asm.restB o n ws ls (i + 1) j2 := by
                     rw [HT2.out, hdw]
                     unfold Asm.restB
                     rw [if_pos (by omega), show o + 4 * (i + 1) = a + 4 by have := HA.out; omega]
                     simp
                    have HT3 := Lib.hid hT3
                    have hwl : wi.cell? ⟨w.heap.size, 1, none⟩ = some (.slice (some ⟨gw, ow, none⟩) n cw) := (blk_facts KB3).1 1
                    have hl0 := HL2.out
                    have s1 : ¬ (9223372036854775807 < t2.length + 1) := by omega
                    have s2 : ¬ (9223372036854775807 < t2.length + 1 + tl.size) := by omega
                    have s3 : ¬ (9223372036854775807 < t2.length + 1 + tl.size + 1) := by omega
                    clear hwcell hdw hT3 hline htle hx hw1 hw2 hl0
                    go_wp2_with fail
                    refine (HLINE.out _).mono ?_
                    rintro e w5 ⟨rfl, hb5⟩
                    have KB5 := blk_keep hb5 KB3
                    have HB5 := Lib.hid (below_next HB3.out hb5)
                    clear hb5
                    go_wp2_with fail
                    go_roundw
                    case rel =>
                     refine ⟨i + 1, j2, t2 ++ Asm.oneLine x a, ?_, rfl, by go_num, by omega, hj2, HT3, Lib.hid ?_, KB5, HB5⟩
                     · refine congrArg Value.string ?_
                       rw [HONE.out]
                       apply ByteArray.ext
                       simp
                     · have := HL2.out
                       simp only [List.length_append]
                       omega
                    case measure => simp [intOf]; omega
                  · obtain rfl : i = n := by omega
                    have hdw : ws.drop i = [] := List.drop_eq_nil_of_le (by rw [HN.out]; exact Nat.le_refl _)
                    have hT3 : Asm.disText o ws ls = t2 ++ Asm.restB o i ws ls (i + 1) j2 := by
                     rw [HT2.out, hdw]
                     unfold Asm.restB
                     rw [if_neg (by omega)]
                    have HT3 := Lib.hid hT3
                    clear hdw hT3
                    have hwl : wi.cell? ⟨w.heap.size, 1, none⟩ = some (.slice pw i cw) := (blk_facts KB3).1 1
                    go_wp2_with fail
                    go_roundw
                    case rel => exact ⟨i + 1, j2, t2, rfl, rfl, (by first | exact rfl | go_num), by omega, hj2, HT3, Lib.hid (by have := HL2.out; omega), KB3, HB3⟩
                    case measure => (simp [intOf]; try omega)
              · obtain rfl : j2 = k := by omega
                have hdl : ls.drop j2 = [] := List.drop_eq_nil_of_le (by rw [HLEN.out]; exact Nat.le_refl _)
                have HT2 : Hid (Asm.disText o ws ls = t2 ++ (match ws.drop i with | [] => [] | x :: r => Asm.oneLine x a ++ Asm.disBody (a + 4) r (ls.drop j2))) := by
                 refine Lib.hid ?_
                 rw [HT1.out, HTK.out.1, HTK.out.2, hdl]
                 simp [Asm.takeAt]
                clear hdl hl0
                by_cases hin : i < n
                · obtain ⟨x, hx⟩ : ∃ x, ws[i]? = some x := ⟨ws[i]'(by have := HN.out; omega), List.getElem?_eq_getElem _⟩
                  obtain ⟨gw, ow, capw, epw, hw1, hw2, hgw, hwcell⟩ := HW.out.cells (by have := HN.out; omega)
                  rw [HN.out] at epw
                  injection epw with ep1 ep2 ep3
                  subst ep1
                  subst ep3
                  have w0 := (HB3.out.cell (p := ⟨gw, ow + i, none⟩) hgw).trans (hwcell i _ (by rw [List.getElem?_map, hx]; rfl))
                  have hx1 : x < 4294967296 := HWS.out x (List.mem_of_getElem? hx)
                  have ixw := fun W => idx_word gw ow n cw i hin W
                  have hline := fun W => rline_calls x a hx1 (by omega) W
                  have htl := Asm.lineText_size x a hx1 (by omega)
                  have h3 := Asm.oneLine_len x a hx1 (by omega)
                  have HONE : Hid (Asm.oneLine x a = [9] ++ (Asm.lineText x a).data.toList ++ [10]) := Lib.hid rfl
                  obtain ⟨tl, htle⟩ : ∃ tl, Asm.lineText x a = tl := ⟨_, rfl⟩
                  rw [htle] at hline htl HONE
                  have HLINE := Lib.hid hline
                  have hdw : ws.drop i = x :: ws.drop (i + 1) := by
                   obtain ⟨h1, h2⟩ := List.getElem?_eq_some_iff.1 hx
                   rw [List.drop_eq_getElem_cons h1, h2]
                  have hT3 : Asm.disText o ws ls = (t2 ++ Asm.oneLine x a) ++ Asm.restB o n ws ls (i + 1) j2 := by
                   rw [HT2.out, hdw]
                   unfold Asm.restB
                   rw [if_pos (by omega), show o + 4 * (i + 1) = a + 4 by have := HA.out; omega]
                   simp
                  have HT3 := Lib.hid hT3
                  have hwl : wi.cell? ⟨w.heap.size, 1, none⟩ = some (.slice (some ⟨gw, ow, none⟩) n cw) := (blk_facts KB3).1 1
                  have hl0 := HL2.out
                  have s1 : ¬ (9223372036854775807 < t2.length + 1) := by omega
                  have s2 : ¬ (9223372036854775807 < t2.length + 1 + tl.size) := by omega
                  have s3 : ¬ (9223372036854775807 < t2.length + 1 + tl.size + 1) := by omega
                  clear hwcell hdw hT3 hline htle hx hw1 hw2 hl0
                  go_wp2_with fail
                  refine (HLINE.out _).mono ?_
                  rintro e w5 ⟨rfl, hb5⟩
                  have KB5 := blk_keep hb5 KB3
                  have HB5 := Lib.hid (below_next HB3.out hb5)
                  clear hb5
                  go_wp2_with fail
                  go_roundw
                  case rel =>
                   refine ⟨i + 1, j2, t2 ++ Asm.oneLine x a, ?_, rfl, by go_num, by omega, hj2, HT3, Lib.hid ?_, KB5, HB5⟩
                   · refine congrArg Value.string ?_
                     rw [HONE.out]
                     apply ByteArray.ext
                     simp
                   · have := HL2.out
                     simp only [List.length_append]
                     omega
                  case measure => simp [intOf]; omega
                · obtain rfl : i = n := by omega
                  have hdw : ws.drop i = [] := List.drop_eq_nil_of_le (by rw [HN.out]; exact Nat.le_refl _)
                  have hT3 : Asm.disText o ws ls = t2 ++ Asm.restB o i ws ls (i + 1) j2 := by
                   rw [HT2.out, hdw]
                   unfold Asm.restB
                   rw [if_neg (by omega)]
                  have HT3 := Lib.hid hT3
                  clear hdw hT3
                  have hwl : wi.cell? ⟨w.heap.size, 1, none⟩ = some (.slice pw i cw) := (blk_facts KB3).1 1
                  go_wp2_with fail
                  go_roundw
                  case rel => exact ⟨i + 1, j2, t2, rfl, rfl, (by first | exact rfl | go_num), by omega, hj2, HT3, Lib.hid (by have := HL2.out; omega), KB3, HB3⟩
                  case measure => (simp [intOf]; try omega)
           · obtain rfl : i = n + 1 := by omega
             have hfin : Asm.disText o ws ls = t1 := by rw [HT.out]; unfold Asm.restB; rw [if_neg (by omega)]; simp
             rw [hfin] at HR2
             clear hfin HT
             by_cases h2 : 20000 < t1.length
             · have hr : R = ([], 110) := by rw [HR2.out, if_pos h2]
               subst hr
               go_wp2_with fail
               go_ret2
               exact ⟨rfl, HB.out⟩
             · have hr : R = (t1, 0) := by rw [HR2.out, if_neg h2]
               subst hr
               go_wp2_with fail
               go_ret2
               exact ⟨rfl, HB.out⟩
     · have q3 : decide ((4294967296 : Int) < (o : Int) + 4 * (n : Int)) = true := by simp; omega
       have hr : R = ([], 116) := by rw [← HR.out]; unfold Asm.dis Asm.sound; rw [HN.out, decide_eq_false hto]; simp
       subst hr
       go_enter Tryz.func19, Tryz.ntmps19
       go_wp2_with fail
       go_ret2
       exact ⟨rfl, HB0.out⟩
   · have q2 : decide ((4096 : Int) < (n : Int)) = true := by simp; omega
     have hr : R = ([], 116) := by rw [← HR.out]; unfold Asm.dis Asm.sound; rw [HN.out, decide_eq_false hn4]; simp
     subst hr
     go_enter Tryz.func19, Tryz.ntmps19
     go_wp2_with fail
     go_ret2
     exact ⟨rfl, HB0.out⟩
 · have q1 : ((o : Int) % 4 != 0) = true := by simp; omega
   have hr : R = ([], 116) := by rw [← HR.out]; unfold Asm.dis Asm.sound; rw [decide_eq_false h4]; simp
   subst hr
   go_enter Tryz.func19, Tryz.ntmps19
   go_wp2_with fail
   go_ret2
   exact ⟨rfl, HB0.out⟩
end Go.Proofs.YtabmlbnnhhpaoaaGreatDoor
