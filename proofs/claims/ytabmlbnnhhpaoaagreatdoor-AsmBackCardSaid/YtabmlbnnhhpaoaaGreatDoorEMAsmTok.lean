/- What this claim needs of Asm3, Asm4, Asm5, Asm6. -/
import Derived.Test.YtabmlbnnhhpaoaaGreatDoorEMAsmBase
import Derived.Shelf.Strings.SlTrimAscii
import Derived.Maps.AppendAt
import Derived.BigQuiet
import Derived.Lib.Hide
import Derived.Deep.QuietTactic
import Derived.Maps.OwnOps
set_option linter.unusedSimpArgs false
set_option linter.unusedVariables false
set_option maxHeartbeats 4000000
set_option maxRecDepth 100000
namespace Go.Proofs.YtabmlbnnhhpaoaaGreatDoor
open Go.RowKit Go.Shelf
theorem ownsRow_below' {B : Nat} {e : TypeId} {k : Nat} {v : Value} {n : Nat} {xs : List Value} {w w' : World} (h : w.ownsRow B e k v n xs) (hb : Below w.heap.size w w') : w'.ownsRow B e k v n xs :=
 h.kept (row := none) ⟨hb.os, hb.tape, hb.output, hb.size, fun j hj _ => hb.block j hj⟩ (by cases hv : v.ownBlock <;> simp)
namespace Asm
def beforeHash (l : List UInt8) : List UInt8 := if Lib.indexByte l 35 < 0 then l else l.take (Lib.indexByte l 35).toNat
def blanks : List UInt8 := [32, 9]
structure Tok where
 sort : Nat
 bytes : List UInt8
 n : Int
deriving DecidableEq
def wordByte (c : UInt8) : Bool := letter c || digit c
def tok (c : UInt8) (s : List UInt8) : Option Tok :=
 if letter c then some ⟨0, s.take (span wordByte s), 0⟩
 else if digit c || decide (c.toNat = 45) then (if noNum s then none else some ⟨1, s.take (numLen s), numVal s⟩)
 else if Lib.indexByte [44, 58, 40, 41] c < 0 then none else some ⟨2, s.take 1, 0⟩
def trim (s : List UInt8) : List UInt8 := Lib.trimLeftS s blanks
def toks : Nat → List UInt8 → Option (List Tok)
 | 0, _ => none
 | f + 1, s =>
  match trim s with
  | [] => some []
  | c :: r =>
   match tok c (c :: r) with
   | none => none
   | some t => (toks f ((c :: r).drop t.bytes.length)).map (t :: ·)
def tokens (s : List UInt8) : Option (List Tok) := toks ((beforeHash s).length + 1) (beforeHash s)
def tokCells (t : Tok) : List Value := [.int .i64 (t.sort : Int), .string ⟨t.bytes.toArray⟩, .int .i64 t.n]
theorem trim_le (s : List UInt8) : (trim s).length ≤ s.length := by
 unfold trim Lib.trimLeftS; exact (List.dropWhile_suffix _).length_le
theorem span_pos (p : UInt8 → Bool) (c : UInt8) (l : List UInt8) (h : p c = true) : 1 ≤ span p (c :: l) := by
 unfold span; rw [if_pos h]; omega
theorem numLen_pos (s : List UInt8) (h : noNum s = false) : 1 ≤ numLen s ∧ numLen s ≤ s.length := by
 have h0 : size s ≠ 0 := by intro e; simp [noNum, e] at h
 have h1 : size s ≤ (digits s).length := span_le _ _
 have h2 : (digits s).length ≤ s.length := by
  unfold digits body Lib.trimPrefix
  split <;> split <;> simp <;> omega
 unfold numLen
 omega
theorem tok_len (c : UInt8) (r : List UInt8) (t : Tok) (h : tok c (c :: r) = some t) : 1 ≤ t.bytes.length ∧ t.bytes.length ≤ r.length + 1 ∧ t.bytes = (c :: r).take t.bytes.length := by
 have hgen : ∀ n, 1 ≤ n → n ≤ (c :: r).length → 1 ≤ ((c :: r).take n).length ∧ ((c :: r).take n).length ≤ r.length + 1 ∧ (c :: r).take n = (c :: r).take ((c :: r).take n).length := by
  intro n h1 h2
  have : ((c :: r).take n).length = n := by rw [List.length_take]; omega
  rw [this]
  exact ⟨h1, by simpa using h2, rfl⟩
 unfold tok at h
 split at h
 · rename_i hc
   cases h
   exact hgen _ (span_pos _ _ _ (by simp [wordByte, hc])) (span_le _ _)
 · split at h
   · split at h
     · cases h
     · rename_i hn
       cases h
       have := numLen_pos (c :: r) (by simpa using hn)
       exact hgen _ this.1 this.2
   · split at h
     · cases h
     · cases h
       exact hgen 1 (Nat.le_refl _) (by simp)
theorem toks_fuel : ∀ (f g : Nat) (s : List UInt8), s.length < f → s.length < g → toks f s = toks g s
 | 0, _, s, h, _ => by omega
 | _ + 1, 0, s, _, h => by omega
 | f + 1, g + 1, s, hf, hg => by
  unfold toks
  have hl := trim_le s
  cases ht : trim s with
  | nil => rfl
  | cons c r =>
   rw [ht] at hl
   simp only
   cases hk : tok c (c :: r) with
   | none => rfl
   | some t =>
    have := tok_len c r t hk
    have hd : ((c :: r).drop t.bytes.length).length = r.length + 1 - t.bytes.length := by simp
    simp only [List.length_cons] at hl
    simp only
    rw [toks_fuel f g _ (by rw [hd]; omega) (by rw [hd]; omega)]
theorem toks_step {r r1 : List UInt8} {c : UInt8} {t : Tok} (ht : trim r = c :: r1) (hk : tok c (c :: r1) = some t) :
 toks (r.length + 1) r = (toks (((c :: r1).drop t.bytes.length).length + 1) ((c :: r1).drop t.bytes.length)).map (t :: ·) := by
 have hl := trim_le r
 rw [ht] at hl
 have hn := tok_len c r1 t hk
 conv => lhs; unfold toks
 rw [ht]
 simp only [hk]
 have hd : ((c :: r1).drop t.bytes.length).length = r1.length + 1 - t.bytes.length := by simp
 simp only [List.length_cons] at hl
 rw [toks_fuel r.length (((c :: r1).drop t.bytes.length).length + 1) _ (by rw [hd]; omega) (by omega)]
theorem toks_bad {r r1 : List UInt8} {c : UInt8} (ht : trim r = c :: r1) (hk : tok c (c :: r1) = none) : toks (r.length + 1) r = none := by
 unfold toks
 rw [ht]
 simp only [hk]
end Asm
theorem litecut_calls (l : List UInt8) (hl : l.length ≤ 1000000) (w : World) : Calls Tryz.prog 124 #[.string ⟨l.toArray⟩, .string ⟨#[35]⟩] w fun e w' => (∃ r f, e = .returned (.tuple #[.string ⟨(Asm.beforeHash l).toArray⟩, .string r, .bool f])) ∧ Below w.heap.size w w' := by
 have hsz : (⟨l.toArray⟩ : ByteArray).size = l.length := by simp [ByteArray.size]
 go_enter Tryz.func124, Tryz.ntmps124
 go_wp2_with fail
 refine (Tryz.stringslite_Index_one ⟨l.toArray⟩ 35 _).mono ?_
 rintro e w1 ⟨rfl, rfl⟩
 have hb := Asm.indexByte_lt l 35
 have hx : Lib.indexByte (⟨l.toArray⟩ : ByteArray).data.toList 35 = Lib.indexByte l 35 := rfl
 rw [hx]
 obtain ⟨i, hi⟩ : ∃ i, Lib.indexByte l 35 = i := ⟨_, rfl⟩
 rw [hi] at hb ⊢
 by_cases h0 : i < 0
 · have hbh : Asm.beforeHash l = l := by unfold Asm.beforeHash; rw [hi, if_pos h0]
   go_wp2_with fail
   refine bodyPost_ret (v := .tuple #[.string ⟨l.toArray⟩, .string ⟨#[]⟩, .bool false]) (by simp [results, Tryz.results124, go_sem]) rfl ⟨⟨_, _, by rw [hbh]⟩, Below.refl _ _⟩
 · obtain ⟨n, rfl⟩ : ∃ n : Nat, i = n := ⟨i.toNat, by omega⟩
   have hbh : Asm.beforeHash l = l.take n := by unfold Asm.beforeHash; rw [hi, if_neg h0]; simp
   go_wp2_with fail
   go_quiet (fail)
   all_goals go_wp2_with fail
   refine bodyPost_ret (v := .tuple #[.string ((⟨l.toArray⟩ : ByteArray).extract 0 n), .string ((⟨l.toArray⟩ : ByteArray).extract (n + 1) l.length), .bool true]) (by simp [results, Tryz.results124, go_sem]) rfl ⟨⟨((⟨l.toArray⟩ : ByteArray).extract (n + 1) l.length), true, by rw [hbh, Lib.extract_mk]; simp⟩, by first | exact Below.refl _ _ | exact below_drewN' (Below.refl _ _) _⟩
theorem cut_calls (l : List UInt8) (hl : l.length ≤ 1000000) (w : World) : Calls Tryz.prog 87 #[.string ⟨l.toArray⟩, .string ⟨#[35]⟩] w fun e w' => (∃ r f, e = .returned (.tuple #[.string ⟨(Asm.beforeHash l).toArray⟩, .string r, .bool f])) ∧ Below w.heap.size w w' := by
 go_enter Tryz.func87, Tryz.ntmps87
 go_wp2_with fail
 refine (litecut_calls l hl _).mono ?_
 rintro e w1 ⟨⟨r, f, rfl⟩, hb1⟩
 go_wp2_with fail
 refine bodyPost_ret (v := .tuple #[.string ⟨(Asm.beforeHash l).toArray⟩, .string r, .bool f]) (by simp [results, Tryz.results87, go_sem]) rfl ⟨⟨_, _, rfl⟩, hb1⟩
theorem trim_calls (l : List UInt8) (w : World) : Calls Tryz.prog 88 #[.string ⟨l.toArray⟩, .string ⟨#[32, 9]⟩] w fun e w' => e = .returned (.string ⟨(Asm.trim l).toArray⟩) ∧ Below w.heap.size w w' :=
 Any.strings_TrimLeft_laid Tryz.lays161 (by kernel_rfl) ⟨l.toArray⟩ ⟨#[32, 9]⟩ w (by decide) (fun j b hj => by
  match j, hj with
  | 0, h => simp at h; subst h; decide
  | 1, h => simp at h; subst h; decide
  | j + 2, h => simp at h)
theorem asm_info117 : (Tryz.prog.info? 129).map (fun i => (i.zero, i.size, i.bytes)) = some (some (.agg #[.int .i64 0, .string ⟨#[]⟩, .int .i64 0]), 3, 32) := by kernel_rfl
theorem setCell_row {w : World} {g : Nat} {t : TypeId} {fr : Nat × Nat} {cs cs' : Array Value} (h : w.heap[g]? = some (.cells cs t fr)) (i : Nat) (v : Value) (e : cs.setIfInBounds i v = cs') : (w.setCell ⟨g, i, none⟩ v).heap[g]? = some (.cells cs' t fr) := by
 subst e
 have hz := blk_size h
 obtain ⟨_, h2⟩ := Array.getElem?_eq_some_iff.1 h
 simp [World.setCell, Array.getElem?_modify, h, h2]
theorem set3_row {w : World} {g : Nat} {t : TypeId} {x y z : Value} (h : w.heap[g]? = some (.cells #[x, y, z] t (0, 0))) (a b c : Value) :
 (((w.setCell ⟨g, 0, none⟩ a).setCell ⟨g, 1, none⟩ b).setCell ⟨g, 2, none⟩ c).heap[g]? = some (.cells #[a, b, c] t (0, 0)) :=
 setCell_row (setCell_row (setCell_row h 0 a rfl) 1 b rfl) 2 c rfl
theorem cells_new3 (w : World) (a b c : Value) (t : TypeId) (g : Nat) (hg : w.heap.size = g) : ∀ (j : Nat) (u : Value), [a, b, c][j]? = some u → (w.alloc (.cells #[a, b, c] t)).cell? ((⟨g, 0, none⟩ : Addr).add j) = some u := by
 subst hg
 have h := (blk_facts (heap_alloc_new w (.cells #[a, b, c] t))).1
 intro j u hj
 match j, hj with
 | 0, hj => exact (h 0).trans (by simpa using hj)
 | 1, hj => exact (h 1).trans (by simpa using hj)
 | 2, hj => exact (h 2).trans (by simpa using hj)
 | j + 3, hj => simp at hj
theorem row_lt {w : World} {base : Nat} {e : TypeId} {size : Nat} {v : Value} {n : Nat} {xs : List Value} (h : w.ownsRow base e size v n xs) : ∀ k, v.ownBlock = some k → base ≤ k ∧ k < w.heap.size := by
 intro k hk
 rcases h.2 with ⟨rfl, _⟩ | ⟨g, cap, cur, rfl, hb, hg, _⟩
 · simp [Value.ownBlock] at hk
 · simp [Value.ownBlock] at hk
   subst hk
   exact ⟨hb, blk_size hg⟩
namespace Asm
def TokPost (r : Option (List Tok)) (w : World) (e : Ending) (w' : World) : Prop :=
 match r with
 | none => e = .returned (.tuple #[.slice none 0 0, .bool false]) ∧ Below w.heap.size w w'
 | some l => ∃ v, e = .returned (.tuple #[v, .bool true]) ∧ w'.ownsRow w.heap.size 129 3 v l.length (l.flatMap tokCells) ∧ Below w.heap.size w w'
end Asm
theorem tokens_calls (s : List UInt8) (hl : s.length ≤ 1000000) (w : World) : Calls Tryz.prog 50 #[.string ⟨s.toArray⟩] w (Asm.TokPost (Asm.tokens s) w) := by
 go_enter Tryz.func50, Tryz.ntmps50
 go_wp2_with fail
 refine (cut_calls s hl _).mono ?_
 rintro e w1 ⟨⟨r0, f0, rfl⟩, hb1⟩
 go_wp2_with fail
 obtain ⟨s0, hs0⟩ : ∃ s0, Asm.beforeHash s = s0 := ⟨_, rfl⟩
 have hl0 : s0.length ≤ s.length := by
  rw [← hs0]; unfold Asm.beforeHash; split
  · exact Nat.le_refl _
  · simp; omega
 rw [hs0]
 go_loopw [0, 4] (fun vs vl wr => ∃ (r : List UInt8) (pre : List Asm.Tok), vs = .string ⟨r.toArray⟩ ∧ pre.length + r.length ≤ s0.length ∧ Asm.tokens s = (Asm.toks (r.length + 1) r).map (pre ++ ·) ∧ wr.ownsRow w.heap.size 129 3 vl pre.length (pre.flatMap Asm.tokCells) ∧ Below w.heap.size w wr) (fun vs _ _ => Lib.strSize vs)
 case atStart => exact ⟨s0, [], rfl, by simp, by unfold Asm.tokens; rw [hs0]; simp, World.ownsRow_nil _ _ _ _, hb1⟩
 case round =>
  obtain ⟨r, pre, rfl, hpl, hts, hrow, HB⟩ := hrel
  have hlr : r.length ≤ 1000000 := by omega
  go_wp2_with fail
  refine (trim_calls r _).mono ?_
  rintro e w2 ⟨rfl, hb2⟩
  have htl := Asm.trim_le r
  have hrow2 := ownsRow_below' hrow hb2
  have HB2 : Below w.heap.size w w2 := below_next HB hb2
  clear hb2 hrow HB
  cases ht : Asm.trim r with
  | nil =>
   have hres : Asm.tokens s = some pre := by rw [hts]; unfold Asm.toks; rw [ht]; simp
   go_wp2_with fail
   refine bodyPost_ret (v := .tuple #[u4, .bool true]) (by simp [results, Tryz.results50, go_sem]) rfl ?_
   rw [hres]
   exact ⟨u4, rfl, hrow2, HB2⟩
  | cons c r1 =>
   rw [ht] at htl
   simp only [List.length_cons] at htl
   have hi0 : ∀ h, (⟨(c :: r1).toArray⟩ : ByteArray)[0]'h = c := fun h => by simp [ByteArray.getElem_eq_getElem_data]
   have hsz : (⟨(c :: r1).toArray⟩ : ByteArray).size = r1.length + 1 := by simp [ByteArray.size]
   have K2 := heap_alloc_new w2 (.cells #[.int .i64 2, .string ((⟨(c :: r1).toArray⟩ : ByteArray).extract 0 1), .int .i64 0] 129)
   go_wp2_with fail
   refine (isLetter_calls c _).mono ?_
   rintro e w3 ⟨rfl, rfl⟩
   cases hc : Asm.letter c with
   | true =>
    go_wp2_with fail
    refine (span_calls (fun _ => True) _ #[] _ (tok1_tells _) (c :: r1) (by simp; omega) _ trivial).mono ?_
    rintro e w3 ⟨rfl, rfl⟩
    obtain ⟨k, hk⟩ : ∃ k, Asm.span (fun c => Asm.letter c || Asm.digit c) (c :: r1) = k := ⟨_, rfl⟩
    have hkl : k ≤ r1.length + 1 := by rw [← hk]; exact Asm.span_le _ _
    rw [hk]
    obtain ⟨b, hb⟩ : ∃ b, (⟨(c :: r1).toArray⟩ : ByteArray).extract 0 k = b := ⟨_, rfl⟩
    obtain ⟨t, ht'⟩ : ∃ t : Asm.Tok, t = ⟨0, (c :: r1).take k, 0⟩ := ⟨_, rfl⟩
    have htok : Asm.tok c (c :: r1) = some t := by
     unfold Asm.tok; rw [if_pos hc, ht']
     have : Asm.span Asm.wordByte (c :: r1) = k := hk
     rw [this]
    have htf : t.sort = 0 ∧ t.n = 0 := by rw [ht']; exact ⟨rfl, rfl⟩
    have hbt : b = ⟨t.bytes.toArray⟩ := by rw [← hb, Lib.extract_mk, ht']; simp
    clear ht'
    have hbs : b.size = t.bytes.length := by rw [hbt]; simp [ByteArray.size]
    have htl1 := (Asm.tok_len c r1 t htok).1
    have htl2 := (Asm.tok_len c r1 t htok).2.1
    have hbs1 : b.size ≤ r1.length + 1 := by omega
    have hne := fun k => fun e => (row_lt hrow2 k e).2
    obtain ⟨i0, hinf, hz0, hz1, hz2⟩ := info_parts asm_info117
    have hrowW := hrow2.alloc (.cells #[.int .i64 0, .string b, .int .i64 0] 129)
    have HBW := below_alloc' HB2 (.cells #[.int .i64 0, .string b, .int .i64 0] 129)
    have hWs : (w2.alloc (.cells #[.int .i64 0, .string b, .int .i64 0] 129)).heap.size = w2.heap.size + 1 := alloc_size _ _
    have KW := heap_alloc_new w2 (.cells #[.int .i64 0, .string b, .int .i64 0] 129)
    have hrow4 := hrowW.alloc (.cells #[.int .i64 0, .string b, .int .i64 0] 129)
    have HB4 := below_alloc' HBW (.cells #[.int .i64 0, .string b, .int .i64 0] 129)
    have K4 := blk_alloc (.cells #[.int .i64 0, .string b, .int .i64 0] 129) KW
    have HX := Lib.hid (And.intro hbt (And.intro htf htok))
    clear hbt htf htok
    have hcn := cells_new3 (w2.alloc (.cells #[.int .i64 0, .string b, .int .i64 0] 129)) (.int .i64 0) (.string b) (.int .i64 0) 129 (w2.heap.size + 1) hWs
    clear hWs
    go_wp2_with (at_builtin; refine wpList_append_own_at _ rfl _ _ 72 rfl w.heap.size 129 i0 _ 3 32 Tryz.underlying72 hinf hz0 hz1 hz2 rfl (by decide) _ _ _ rfl hrow4 ⟨w2.heap.size + 1, 0, none⟩ 1 1 _ rfl rfl hcn (by simp [Value.oneCell']) (by simp [maxLen]; omega) (by omega) (by have := HB4.size; omega) ?_; intro v' w4 hrow5 hgrow hnil hblk; have HB5 := HB4.grown hgrow HB4.size (fun k e => (row_lt hrow2 k e).1); have K5 := (hgrow.block _ (blk_size K4) (fun e => by have := hne _ e.symm; omega)).trans K4; obtain ⟨d5, f5⟩ := blk_facts K5)
    obtain ⟨hbt, htf, htok⟩ := HX.out
    refine ⟨⟨(c :: r1).drop t.bytes.length, pre ++ [t], ?_, ?_, ?_, ?_, HB5⟩, ?_⟩
    · rw [Lib.extract_mk, ← hbs, List.take_of_length_le (by simp)]
    · simp; omega
    · rw [hts, Asm.toks_step ht htok]
      cases Asm.toks _ _ <;> simp
    · have hfl : (pre ++ [t]).flatMap Asm.tokCells = pre.flatMap Asm.tokCells ++ [.int .i64 0, .string b, .int .i64 0] := by
       rw [List.flatMap_append]; simp [Asm.tokCells, hbt, htf]
      rw [hfl]
      simpa using hrow5
    · rw [Lib.strSize_string, Lib.strSize_string, Lib.extract_mk, Lib.size_mk, Lib.size_mk]
      simp; omega
   | false =>
    go_wp2_with fail
    refine (isDigit_calls c _).mono ?_
    rintro e w3 ⟨rfl, rfl⟩
    by_cases hdg : (Asm.digit c || decide (c.toNat = 45)) = true
    · obtain ⟨B2, hB2⟩ : ∃ B2, (⟨(c :: r1).toArray⟩ : ByteArray).extract 0 1 = B2 := ⟨_, rfl⟩
      have hwalk : ∀ Q : Prop, (Asm.digit c = true → Q) → (Asm.digit c = false → (c.toNat : Int) = 45 → Q) → Q := by
       intro Q h1 h2
       cases hd : Asm.digit c with
       | true => exact h1 hd
       | false => rw [hd] at hdg; exact h2 hd (by simp at hdg; omega)
      apply hwalk
      · intro hd
        rw [hd]
        go_wp2_with fail
        refine (numeral_calls (c :: r1) (by simp; omega) _).mono ?_
        rintro e w3 ⟨rfl, hb3⟩
        have hrow3 := ownsRow_below' (hrow2.alloc (.cells #[.int .i64 2, .string B2, .int .i64 0] 129)) hb3
        have HB3 := below_next (below_alloc' HB2 (.cells #[.int .i64 2, .string B2, .int .i64 0] 129)) hb3
        have K3 := blk_keep hb3 (heap_alloc_new w2 (.cells #[.int .i64 2, .string B2, .int .i64 0] 129))
        obtain ⟨d3, f3⟩ := blk_facts K3
        clear hb3
        cases hno : Asm.noNum (c :: r1) with
        | true =>
         have hans : Asm.numAns (c :: r1) = .tuple #[.int .i64 0, .int .i64 0] := by unfold Asm.numAns; rw [hno]; rfl
         have hbad : Asm.tok c (c :: r1) = none := by unfold Asm.tok; rw [hc, hno]; simp [hdg]
         have hres : Asm.tokens s = none := by rw [hts, Asm.toks_bad ht hbad]; rfl
         rw [hans]
         go_wp2_with fail
         refine bodyPost_ret (v := .tuple #[.slice none 0 0, .bool false]) (by simp [results, Tryz.results50, go_sem]) rfl ?_
         rw [hres]
         exact ⟨rfl, HB3⟩
        | false =>
         have hans : Asm.numAns (c :: r1) = .tuple #[.int .i64 (Asm.numLen (c :: r1) : Int), .int .i64 (Asm.numVal (c :: r1))] := by unfold Asm.numAns; rw [hno]; rfl
         obtain ⟨hn1, hn2⟩ := Asm.numLen_pos (c :: r1) hno
         obtain ⟨k, hk⟩ : ∃ k, Asm.numLen (c :: r1) = k := ⟨_, rfl⟩
         obtain ⟨v, hv⟩ : ∃ v, Asm.numVal (c :: r1) = v := ⟨_, rfl⟩
         rw [hans, hk, hv]
         rw [hk] at hn1 hn2
         simp only [List.length_cons] at hn2
         obtain ⟨b, hb⟩ : ∃ b, (⟨(c :: r1).toArray⟩ : ByteArray).extract 0 k = b := ⟨_, rfl⟩
         obtain ⟨t, ht'⟩ : ∃ t : Asm.Tok, t = ⟨1, (c :: r1).take k, v⟩ := ⟨_, rfl⟩
         have htok : Asm.tok c (c :: r1) = some t := by
          unfold Asm.tok; rw [hc, hno, hk, hv, ht']; simp [hdg]
         have htf : t.sort = 1 ∧ t.n = v := by rw [ht']; exact ⟨rfl, rfl⟩
         have hbt : b = ⟨t.bytes.toArray⟩ := by rw [← hb, Lib.extract_mk, ht']; simp
         clear ht'
         have hbs : b.size = t.bytes.length := by rw [hbt]; simp [ByteArray.size]
         have htl1 := (Asm.tok_len c r1 t htok).1
         have htl2 := (Asm.tok_len c r1 t htok).2.1
         have hbs1 : b.size ≤ r1.length + 1 := by omega
         have hne := fun k => fun e => (row_lt hrow2 k e).2
         obtain ⟨i0, hinf, hz0, hz1, hz2⟩ := info_parts asm_info117
         have hW3 : w2.heap.size < w3.heap.size := blk_size K3
         have hneb : u4.ownBlock ≠ some w2.heap.size := fun e => by have := hne _ e; omega
         have hrowW := ownsRow_setCell_other (ownsRow_setCell_other (ownsRow_setCell_other hrow3 (a := ⟨w2.heap.size, 0, none⟩) hneb (.int .i64 1)) (a := ⟨w2.heap.size, 1, none⟩) hneb (.string b)) (a := ⟨w2.heap.size, 2, none⟩) hneb (.int .i64 v)
         have HBW := ((HB3.setCell (p := ⟨w2.heap.size, 0, none⟩) HB2.size (.int .i64 1)).setCell (p := ⟨w2.heap.size, 1, none⟩) HB2.size (.string b)).setCell (p := ⟨w2.heap.size, 2, none⟩) HB2.size (.int .i64 v)
         have hWs : (((w3.setCell ⟨w2.heap.size, 0, none⟩ (.int .i64 1)).setCell ⟨w2.heap.size, 1, none⟩ (.string b)).setCell ⟨w2.heap.size, 2, none⟩ (.int .i64 v)).heap.size = w3.heap.size := by simp
         have KW := set3_row K3 (.int .i64 1) (.string b) (.int .i64 v)
         have hrow4 := hrowW.alloc (.cells #[.int .i64 1, .string b, .int .i64 v] 129)
         have HB4 := below_alloc' HBW (.cells #[.int .i64 1, .string b, .int .i64 v] 129)
         have K4 := blk_alloc (.cells #[.int .i64 1, .string b, .int .i64 v] 129) KW
         have HX := Lib.hid (And.intro hbt (And.intro htf htok))
         clear hbt htf htok
         have hcn := cells_new3 (((w3.setCell ⟨w2.heap.size, 0, none⟩ (.int .i64 1)).setCell ⟨w2.heap.size, 1, none⟩ (.string b)).setCell ⟨w2.heap.size, 2, none⟩ (.int .i64 v)) (.int .i64 1) (.string b) (.int .i64 v) 129 (w3.heap.size) hWs
         clear hWs
         go_wp2_with (at_builtin; refine wpList_append_own_at _ rfl _ _ 72 rfl w.heap.size 129 i0 _ 3 32 Tryz.underlying72 hinf hz0 hz1 hz2 rfl (by decide) _ _ _ rfl hrow4 ⟨w3.heap.size, 0, none⟩ 1 1 _ rfl rfl hcn (by simp [Value.oneCell']) (by simp [maxLen]; omega) (by omega) (by have := HB4.size; omega) ?_; intro v' w4 hrow5 hgrow hnil hblk; have HB5 := HB4.grown hgrow HB4.size (fun k e => (row_lt hrow2 k e).1); have K5 := (hgrow.block _ (blk_size K4) (fun e => by have := hne _ e.symm; omega)).trans K4; obtain ⟨d5, f5⟩ := blk_facts K5)
         obtain ⟨hbt, htf, htok⟩ := HX.out
         refine ⟨⟨(c :: r1).drop t.bytes.length, pre ++ [t], ?_, ?_, ?_, ?_, HB5⟩, ?_⟩
         · rw [Lib.extract_mk, ← hbs, List.take_of_length_le (by simp)]
         · simp; omega
         · rw [hts, Asm.toks_step ht htok]
           cases Asm.toks _ _ <;> simp
         · have hfl : (pre ++ [t]).flatMap Asm.tokCells = pre.flatMap Asm.tokCells ++ [.int .i64 1, .string b, .int .i64 v] := by
            rw [List.flatMap_append]; simp [Asm.tokCells, hbt, htf]
           rw [hfl]
           simpa using hrow5
         · rw [Lib.strSize_string, Lib.strSize_string, Lib.extract_mk, Lib.size_mk, Lib.size_mk]
           simp; omega
      · intro hd h45
        rw [hd]
        go_wp2_with fail
        refine (numeral_calls (c :: r1) (by simp; omega) _).mono ?_
        rintro e w3 ⟨rfl, hb3⟩
        have hrow3 := ownsRow_below' (hrow2.alloc (.cells #[.int .i64 2, .string B2, .int .i64 0] 129)) hb3
        have HB3 := below_next (below_alloc' HB2 (.cells #[.int .i64 2, .string B2, .int .i64 0] 129)) hb3
        have K3 := blk_keep hb3 (heap_alloc_new w2 (.cells #[.int .i64 2, .string B2, .int .i64 0] 129))
        obtain ⟨d3, f3⟩ := blk_facts K3
        clear hb3
        cases hno : Asm.noNum (c :: r1) with
        | true =>
         have hans : Asm.numAns (c :: r1) = .tuple #[.int .i64 0, .int .i64 0] := by unfold Asm.numAns; rw [hno]; rfl
         have hbad : Asm.tok c (c :: r1) = none := by unfold Asm.tok; rw [hc, hno]; simp [hdg]
         have hres : Asm.tokens s = none := by rw [hts, Asm.toks_bad ht hbad]; rfl
         rw [hans]
         go_wp2_with fail
         refine bodyPost_ret (v := .tuple #[.slice none 0 0, .bool false]) (by simp [results, Tryz.results50, go_sem]) rfl ?_
         rw [hres]
         exact ⟨rfl, HB3⟩
        | false =>
         have hans : Asm.numAns (c :: r1) = .tuple #[.int .i64 (Asm.numLen (c :: r1) : Int), .int .i64 (Asm.numVal (c :: r1))] := by unfold Asm.numAns; rw [hno]; rfl
         obtain ⟨hn1, hn2⟩ := Asm.numLen_pos (c :: r1) hno
         obtain ⟨k, hk⟩ : ∃ k, Asm.numLen (c :: r1) = k := ⟨_, rfl⟩
         obtain ⟨v, hv⟩ : ∃ v, Asm.numVal (c :: r1) = v := ⟨_, rfl⟩
         rw [hans, hk, hv]
         rw [hk] at hn1 hn2
         simp only [List.length_cons] at hn2
         obtain ⟨b, hb⟩ : ∃ b, (⟨(c :: r1).toArray⟩ : ByteArray).extract 0 k = b := ⟨_, rfl⟩
         obtain ⟨t, ht'⟩ : ∃ t : Asm.Tok, t = ⟨1, (c :: r1).take k, v⟩ := ⟨_, rfl⟩
         have htok : Asm.tok c (c :: r1) = some t := by
          unfold Asm.tok; rw [hc, hno, hk, hv, ht']; simp [hdg]
         have htf : t.sort = 1 ∧ t.n = v := by rw [ht']; exact ⟨rfl, rfl⟩
         have hbt : b = ⟨t.bytes.toArray⟩ := by rw [← hb, Lib.extract_mk, ht']; simp
         clear ht'
         have hbs : b.size = t.bytes.length := by rw [hbt]; simp [ByteArray.size]
         have htl1 := (Asm.tok_len c r1 t htok).1
         have htl2 := (Asm.tok_len c r1 t htok).2.1
         have hbs1 : b.size ≤ r1.length + 1 := by omega
         have hne := fun k => fun e => (row_lt hrow2 k e).2
         obtain ⟨i0, hinf, hz0, hz1, hz2⟩ := info_parts asm_info117
         have hW3 : w2.heap.size < w3.heap.size := blk_size K3
         have hneb : u4.ownBlock ≠ some w2.heap.size := fun e => by have := hne _ e; omega
         have hrowW := ownsRow_setCell_other (ownsRow_setCell_other (ownsRow_setCell_other hrow3 (a := ⟨w2.heap.size, 0, none⟩) hneb (.int .i64 1)) (a := ⟨w2.heap.size, 1, none⟩) hneb (.string b)) (a := ⟨w2.heap.size, 2, none⟩) hneb (.int .i64 v)
         have HBW := ((HB3.setCell (p := ⟨w2.heap.size, 0, none⟩) HB2.size (.int .i64 1)).setCell (p := ⟨w2.heap.size, 1, none⟩) HB2.size (.string b)).setCell (p := ⟨w2.heap.size, 2, none⟩) HB2.size (.int .i64 v)
         have hWs : (((w3.setCell ⟨w2.heap.size, 0, none⟩ (.int .i64 1)).setCell ⟨w2.heap.size, 1, none⟩ (.string b)).setCell ⟨w2.heap.size, 2, none⟩ (.int .i64 v)).heap.size = w3.heap.size := by simp
         have KW := set3_row K3 (.int .i64 1) (.string b) (.int .i64 v)
         have hrow4 := hrowW.alloc (.cells #[.int .i64 1, .string b, .int .i64 v] 129)
         have HB4 := below_alloc' HBW (.cells #[.int .i64 1, .string b, .int .i64 v] 129)
         have K4 := blk_alloc (.cells #[.int .i64 1, .string b, .int .i64 v] 129) KW
         have HX := Lib.hid (And.intro hbt (And.intro htf htok))
         clear hbt htf htok
         have hcn := cells_new3 (((w3.setCell ⟨w2.heap.size, 0, none⟩ (.int .i64 1)).setCell ⟨w2.heap.size, 1, none⟩ (.string b)).setCell ⟨w2.heap.size, 2, none⟩ (.int .i64 v)) (.int .i64 1) (.string b) (.int .i64 v) 129 (w3.heap.size) hWs
         clear hWs
         go_wp2_with (at_builtin; refine wpList_append_own_at _ rfl _ _ 72 rfl w.heap.size 129 i0 _ 3 32 Tryz.underlying72 hinf hz0 hz1 hz2 rfl (by decide) _ _ _ rfl hrow4 ⟨w3.heap.size, 0, none⟩ 1 1 _ rfl rfl hcn (by simp [Value.oneCell']) (by simp [maxLen]; omega) (by omega) (by have := HB4.size; omega) ?_; intro v' w4 hrow5 hgrow hnil hblk; have HB5 := HB4.grown hgrow HB4.size (fun k e => (row_lt hrow2 k e).1); have K5 := (hgrow.block _ (blk_size K4) (fun e => by have := hne _ e.symm; omega)).trans K4; obtain ⟨d5, f5⟩ := blk_facts K5)
         obtain ⟨hbt, htf, htok⟩ := HX.out
         refine ⟨⟨(c :: r1).drop t.bytes.length, pre ++ [t], ?_, ?_, ?_, ?_, HB5⟩, ?_⟩
         · rw [Lib.extract_mk, ← hbs, List.take_of_length_le (by simp)]
         · simp; omega
         · rw [hts, Asm.toks_step ht htok]
           cases Asm.toks _ _ <;> simp
         · have hfl : (pre ++ [t]).flatMap Asm.tokCells = pre.flatMap Asm.tokCells ++ [.int .i64 1, .string b, .int .i64 v] := by
            rw [List.flatMap_append]; simp [Asm.tokCells, hbt, htf]
           rw [hfl]
           simpa using hrow5
         · rw [Lib.strSize_string, Lib.strSize_string, Lib.extract_mk, Lib.size_mk, Lib.size_mk]
           simp; omega
    · have hd : Asm.digit c = false := by cases h : Asm.digit c <;> simp_all
      have h45 : ¬ (c.toNat : Int) = 45 := by intro e; apply hdg; have : c.toNat = 45 := by omega
                                              simp [this]
      have h45b : ((c.toNat : Int) == 45) = false := by simpa using h45
      rw [hd]
      go_wp2_with fail
      refine (Tryz.strings_IndexByte _ _ _).mono ?_
      rintro e w3 ⟨rfl, rfl⟩
      have hcc : (c.toNat : Int).toNat.toUInt8 = c := by simp
      rw [hcc]
      have hix : Lib.indexByte ({ data := #[44, 58, 40, 41] } : ByteArray).data.toList c = Lib.indexByte [44, 58, 40, 41] c := rfl
      rw [hix]
      obtain ⟨q, hq⟩ : ∃ q, Lib.indexByte [44, 58, 40, 41] c = q := ⟨_, rfl⟩
      rw [hq]
      by_cases hq0 : q < 0
      · have hbad : Asm.tok c (c :: r1) = none := by unfold Asm.tok; rw [hc, hq, if_pos hq0]; simp [hdg]
        have hres : Asm.tokens s = none := by rw [hts, Asm.toks_bad ht hbad]; rfl
        go_wp2_with fail
        refine bodyPost_ret (v := .tuple #[.slice none 0 0, .bool false]) (by simp [results, Tryz.results50, go_sem]) rfl ?_
        rw [hres]
        exact ⟨rfl, below_alloc' HB2 _⟩
      · obtain ⟨b, hb⟩ : ∃ b, (⟨(c :: r1).toArray⟩ : ByteArray).extract 0 1 = b := ⟨_, rfl⟩
        obtain ⟨t, ht'⟩ : ∃ t : Asm.Tok, t = ⟨2, (c :: r1).take 1, 0⟩ := ⟨_, rfl⟩
        have htok : Asm.tok c (c :: r1) = some t := by
         unfold Asm.tok; rw [hc, hq, if_neg hq0, ht']; simp [hdg]
        have htf : t.sort = 2 ∧ t.n = 0 := by rw [ht']; exact ⟨rfl, rfl⟩
        have hbt : b = ⟨t.bytes.toArray⟩ := by rw [← hb, Lib.extract_mk, ht']; simp
        clear ht'
        have hbs : b.size = t.bytes.length := by rw [hbt]; simp [ByteArray.size]
        have htl1 := (Asm.tok_len c r1 t htok).1
        have htl2 := (Asm.tok_len c r1 t htok).2.1
        have hbs1 : b.size ≤ r1.length + 1 := by omega
        have hne := fun k => fun e => (row_lt hrow2 k e).2
        obtain ⟨i0, hinf, hz0, hz1, hz2⟩ := info_parts asm_info117
        have hrowW := hrow2.alloc (.cells #[.int .i64 2, .string b, .int .i64 0] 129)
        have HBW := below_alloc' HB2 (.cells #[.int .i64 2, .string b, .int .i64 0] 129)
        have hWs : (w2.alloc (.cells #[.int .i64 2, .string b, .int .i64 0] 129)).heap.size = w2.heap.size + 1 := alloc_size _ _
        have KW := heap_alloc_new w2 (.cells #[.int .i64 2, .string b, .int .i64 0] 129)
        have hrow4 := hrowW.alloc (.cells #[.int .i64 2, .string b, .int .i64 0] 129)
        have HB4 := below_alloc' HBW (.cells #[.int .i64 2, .string b, .int .i64 0] 129)
        have K4 := blk_alloc (.cells #[.int .i64 2, .string b, .int .i64 0] 129) KW
        have HX := Lib.hid (And.intro hbt (And.intro htf htok))
        clear hbt htf htok
        have hcn := cells_new3 (w2.alloc (.cells #[.int .i64 2, .string b, .int .i64 0] 129)) (.int .i64 2) (.string b) (.int .i64 0) 129 (w2.heap.size + 1) hWs
        clear hWs
        go_wp2_with (at_builtin; refine wpList_append_own_at _ rfl _ _ 72 rfl w.heap.size 129 i0 _ 3 32 Tryz.underlying72 hinf hz0 hz1 hz2 rfl (by decide) _ _ _ rfl hrow4 ⟨w2.heap.size + 1, 0, none⟩ 1 1 _ rfl rfl hcn (by simp [Value.oneCell']) (by simp [maxLen]; omega) (by omega) (by have := HB4.size; omega) ?_; intro v' w4 hrow5 hgrow hnil hblk; have HB5 := HB4.grown hgrow HB4.size (fun k e => (row_lt hrow2 k e).1); have K5 := (hgrow.block _ (blk_size K4) (fun e => by have := hne _ e.symm; omega)).trans K4; obtain ⟨d5, f5⟩ := blk_facts K5)
        obtain ⟨hbt, htf, htok⟩ := HX.out
        refine ⟨⟨(c :: r1).drop t.bytes.length, pre ++ [t], ?_, ?_, ?_, ?_, HB5⟩, ?_⟩
        · rw [Lib.extract_mk, ← hbs, List.take_of_length_le (by simp)]
        · simp; omega
        · rw [hts, Asm.toks_step ht htok]
          cases Asm.toks _ _ <;> simp
        · have hfl : (pre ++ [t]).flatMap Asm.tokCells = pre.flatMap Asm.tokCells ++ [.int .i64 2, .string b, .int .i64 0] := by
           rw [List.flatMap_append]; simp [Asm.tokCells, hbt, htf]
          rw [hfl]
          simpa using hrow5
        · rw [Lib.strSize_string, Lib.strSize_string, Lib.extract_mk, Lib.size_mk, Lib.size_mk]
          simp; omega
end Go.Proofs.YtabmlbnnhhpaoaaGreatDoor
namespace Go.Proofs.YtabmlbnnhhpaoaaGreatDoor
open Go.RowKit Go.Shelf
namespace Asm
structure Ins where
 op : Int
 d : Int
 a : Int
 b : Int
 imm : Int
deriving DecidableEq
structure Val where
 name : List UInt8
 n : Int
deriving DecidableEq
inductive Kind where
 | enc
 | word (l : List Val)
 | li
 | zero
deriving DecidableEq
structure Piece where
 line : Int
 at_ : Int
 ins : Ins
 v : Val
 kind : Kind := .enc
deriving DecidableEq
structure PS where
 line : Int
 toks : List Tok
 origin : Int
 placed : Bool
 count : Nat
 pieces : List Piece
 labels : List (List UInt8 × Int)
 places : DataW Unit
 puts : Nat
 fresh : List (List UInt8)
structure PB where
 n0 : Nat
 b : Nat
 mb : Nat
 vt : Value
 vp : Value
 vl : Value
 vf : Value
 fs : List (Nat × List Nat)
def insCells (i : Ins) : Array Value := #[.int .i64 i.op, .int .u8 i.d, .int .u8 i.a, .int .u8 i.b, .int .i32 i.imm]
def valCells (v : Val) : Array Value := #[.string ⟨v.name.toArray⟩, .int .i64 v.n]
def FnIs (w : World) (x : Piece) (p : Nat × List Nat) : Prop :=
 match x.kind with
 | .enc => ∃ bv bi, p = (135, [bv, bi]) ∧ w.heap[bv]? = some (.cells (valCells x.v) 195 (0, 0)) ∧ w.heap[bi]? = some (.cells (insCells x.ins) 96 (0, 0))
 | .word l => ∃ bl g cap cur, p = (139, [bl, g]) ∧ l.length ≤ cap ∧ cap ≤ maxLen ∧ w.heap[bl]? = some (.cells #[.slice (some ⟨g, 0, none⟩) l.length cap] 228 (0, 0)) ∧ w.heap[g]? = some (.cells cur 195 (0, 0)) ∧ ∀ (j : Nat) (u : Value), (l.flatMap fun v => (valCells v).toList)[j]? = some u → cur[j]? = some u
 | .li => ∃ bv bd, p = (137, [bv, bd]) ∧ w.heap[bv]? = some (.cells (valCells x.v) 195 (0, 0)) ∧ w.heap[bd]? = some (.cells #[.int .u8 x.ins.d] 5 (0, 0))
 | .zero => ∃ bn, p = (140, [bn]) ∧ w.heap[bn]? = some (.cells #[.int .i64 x.v.n] 2 (0, 0))
def boxT (t : TypeId) : Bool := t == 195 || t == 96 || t == 228 || t == 5 || t == 2
theorem boxT_ne {t u : TypeId} (h : boxT t = true) (hu : boxT u = false) : t ≠ u := fun e => by rw [e, hu] at h; cases h
theorem FnIs.keep {w w' : World} {x : Piece} {p : Nat × List Nat} (h : FnIs w x p) (hk : ∀ g, g ∈ p.2 → ∀ (cs : Array Value) (t : TypeId), boxT t = true → w.heap[g]? = some (.cells cs t (0, 0)) → w'.heap[g]? = some (.cells cs t (0, 0))) : FnIs w' x p := by
 unfold FnIs at h ⊢
 cases hq : x.kind with
 | enc =>
  rw [hq] at h
  obtain ⟨bv, bi, e, hv, hi⟩ := h
  exact ⟨bv, bi, e, hk bv (by rw [e]; simp) _ _ (by decide) hv, hk bi (by rw [e]; simp) _ _ (by decide) hi⟩
 | word l =>
  rw [hq] at h
  obtain ⟨bl, g, cap, cur, e, h1, h2, hv, hi, hu⟩ := h
  exact ⟨bl, g, cap, cur, e, h1, h2, hk bl (by rw [e]; simp) _ _ (by decide) hv, hk g (by rw [e]; simp) _ _ (by decide) hi, hu⟩
 | li =>
  rw [hq] at h
  obtain ⟨bv, bi, e, hv, hi⟩ := h
  exact ⟨bv, bi, e, hk bv (by rw [e]; simp) _ _ (by decide) hv, hk bi (by rw [e]; simp) _ _ (by decide) hi⟩
 | zero =>
  rw [hq] at h
  obtain ⟨bn, e, hv⟩ := h
  exact ⟨bn, e, hk bn (by rw [e]; simp) _ _ (by decide) hv⟩
theorem FnIs.box {w : World} {x : Piece} {p : Nat × List Nat} (h : FnIs w x p) {g : Nat} (hg : g ∈ p.2) : ∃ cur t, w.heap[g]? = some (.cells cur t (0, 0)) ∧ boxT t = true := by
 unfold FnIs at h
 cases hq : x.kind with
 | enc =>
  rw [hq] at h
  obtain ⟨bv, bi, e, hv, hi⟩ := h
  rw [e] at hg
  simp at hg
  rcases hg with rfl | rfl
  · exact ⟨_, _, hv, by decide⟩
  · exact ⟨_, _, hi, by decide⟩
 | word l =>
  rw [hq] at h
  obtain ⟨bl, g, cap, cur, e, h1, h2, hv, hi, hu⟩ := h
  rw [e] at hg
  simp at hg
  rcases hg with rfl | rfl
  · exact ⟨_, _, hv, by decide⟩
  · exact ⟨_, _, hi, by decide⟩
 | li =>
  rw [hq] at h
  obtain ⟨bv, bi, e, hv, hi⟩ := h
  rw [e] at hg
  simp at hg
  rcases hg with rfl | rfl
  · exact ⟨_, _, hv, by decide⟩
  · exact ⟨_, _, hi, by decide⟩
 | zero =>
  rw [hq] at h
  obtain ⟨bn, e, hv⟩ := h
  rw [e] at hg
  simp at hg
  subst hg
  exact ⟨_, _, hv, by decide⟩
def capsOf (p : Nat × List Nat) : Array Value := ((if p.1 = 139 then p.2.take 1 else p.2).map fun g => Value.pointer (some ⟨g, 0, none⟩)).toArray
def fnVal (p : Nat × List Nat) : Value := .func (.func p.1) #[] (capsOf p)
def pieceCells (x : Piece) (p : Nat × List Nat) : List Value := [.int .i64 x.line, .int .i64 x.at_, fnVal p]
def labelCells (x : List UInt8 × Int) : List Value := [.string ⟨x.1.toArray⟩, .int .u32 x.2]
def freshCells (x : List UInt8) : List Value := [.string ⟨x.toArray⟩]
def PB.owns (B : PB) (g : Nat) : Prop := g = B.b ∨ g = B.mb ∨ B.vp.ownBlock = some g ∨ B.vl.ownBlock = some g ∨ B.vf.ownBlock = some g ∨ ∃ p, p ∈ B.fs ∧ g ∈ p.2
def PB.cells (B : PB) (S : PS) : Array Value :=
 #[.int .i64 S.line, B.vt, .int .i64 S.origin, .bool S.placed, .int .i64 (S.count : Int), B.vp, B.vl, .map (some B.mb), B.vf]
def TokView (w : World) (v : Value) (ts : List Tok) : Prop :=
 ∃ p cap, v = .slice p ts.length cap ∧ ts.length ≤ cap ∧ cap ≤ maxLen ∧
  (ts ≠ [] → ∃ g o cur, p = some ⟨g, o, none⟩ ∧ w.heap[g]? = some (.cells cur 129 (0, 0)) ∧ ∀ (j : Nat) (u : Value), (ts.flatMap tokCells)[j]? = some u → cur[o + j]? = some u)
structure Par (B : PB) (S : PS) (w : World) : Prop where
 own : w.heap[B.b]? = some (.cells (B.cells S) 75 (0, 0))
 toks : TokView w B.vt S.toks
 map : w.ownsMap Tryz.prog 9 (plainElem (H := Unit) Tryz.prog 2) B.mb S.puts S.places
 pieces : w.ownsRow B.n0 82 3 B.vp S.pieces.length ((S.pieces.zip B.fs).flatMap fun x => pieceCells x.1 x.2)
 fsl : B.fs.length = S.pieces.length
 fns : ∀ (i : Nat) (x : Piece) (f : Nat × List Nat), S.pieces[i]? = some x → B.fs[i]? = some f → FnIs w x f
 nodup : (B.fs.flatMap (·.2)).Nodup
 fbase : ∀ p, p ∈ B.fs → ∀ g, g ∈ p.2 → B.n0 ≤ g
 labels : w.ownsRow B.n0 42 2 B.vl S.labels.length (S.labels.flatMap labelCells)
 fresh : w.ownsRow B.n0 9 1 B.vf S.fresh.length (S.fresh.flatMap freshCells)
 b0 : B.n0 ≤ B.b
 m0 : B.n0 ≤ B.mb
structure Off (N : Nat → Prop) (w w' : World) : Prop where
 os : w'.os = w.os
 tape : w'.tape = w.tape
 output : w'.output = w.output
 size : w.heap.size ≤ w'.heap.size
 block : ∀ g, g < w.heap.size → ¬ N g → w'.heap[g]? = w.heap[g]?
structure Step (B : PB) (w : World) (B' : PB) (w' : World) : Prop where
 off : Off B.owns w w'
 owned : ∀ g, B'.owns g → B.owns g ∨ w.heap.size ≤ g
 n0 : B'.n0 = B.n0
 b : B'.b = B.b
 mb : B'.mb = B.mb
theorem Off.refl (N : Nat → Prop) (w : World) : Off N w w := ⟨rfl, rfl, rfl, Nat.le_refl _, fun _ _ _ => rfl⟩
theorem Off.of_below {N : Nat → Prop} {w w' : World} (h : Below w.heap.size w w') : Off N w w' := ⟨h.os, h.tape, h.output, h.size, fun g hg _ => h.block g hg⟩
theorem Step.refl (B : PB) (w : World) : Step B w B w := ⟨Off.refl _ _, fun _ h => .inl h, rfl, rfl, rfl⟩
theorem Step.trans {B B1 B2 : PB} {w w1 w2 : World} (h : Step B w B1 w1) (k : Step B1 w1 B2 w2) : Step B w B2 w2 where
 off := ⟨k.off.os.trans h.off.os, k.off.tape.trans h.off.tape, k.off.output.trans h.off.output, Nat.le_trans h.off.size k.off.size, fun g hg hn =>
  (k.off.block g (Nat.lt_of_lt_of_le hg h.off.size) (fun hk => (h.owned g hk).elim hn (fun h1 => by omega))).trans (h.off.block g hg hn)⟩
 owned := fun g hg => by
  rcases k.owned g hg with h1 | h1
  · exact h.owned g h1
  · exact .inr (Nat.le_trans h.off.size h1)
 n0 := k.n0.trans h.n0
 b := k.b.trans h.b
 mb := k.mb.trans h.mb
theorem Step.keep {B B' : PB} {w w' : World} (h : Step B w B' w') {g : Nat} {o : Obj} (hg : w.heap[g]? = some o) (hn : ¬ B.owns g) : w'.heap[g]? = some o ∧ ¬ B'.owns g :=
 ⟨(h.off.block g (blk_size hg) hn).trans hg, fun hk => (h.owned g hk).elim hn (fun h1 => by have := blk_size hg; omega)⟩
theorem Step.below {B B' : PB} {w w' : World} (h : Step B w B' w') (n : Nat) (hn : ∀ g, B.owns g → n ≤ g) (hw : n ≤ w.heap.size) : Below n w w' :=
 ⟨h.off.os, h.off.tape, h.off.output, h.off.size, fun g hg => h.off.block g (by omega) (fun hk => by have := hn g hk; omega)⟩
theorem Par.box {B : PB} {S : PS} {w : World} (h : Par B S w) {p : Nat × List Nat} (hp : p ∈ B.fs) {g : Nat} (hg : g ∈ p.2) : ∃ cur t, w.heap[g]? = some (.cells cur t (0, 0)) ∧ boxT t = true := by
 obtain ⟨i, hi, hpi⟩ := List.getElem_of_mem hp
 have hi' : i < S.pieces.length := h.fsl ▸ hi
 exact (h.fns i S.pieces[i] p (List.getElem?_eq_getElem hi') (by rw [List.getElem?_eq_getElem hi, hpi])).box hg
theorem row_type {w : World} {base : Nat} {e : TypeId} {size : Nat} {v : Value} {n : Nat} {xs : List Value} (h : w.ownsRow base e size v n xs) {g : Nat} (hg : v.ownBlock = some g) : ∃ cur, w.heap[g]? = some (.cells cur e (0, 0)) := by
 rcases h.2 with ⟨rfl, _⟩ | ⟨k, cap, cur, rfl, hb, hk, _⟩
 · simp [Value.ownBlock] at hg
 · simp [Value.ownBlock] at hg
   subst hg
   exact ⟨cur, hk⟩
theorem Par.base {B : PB} {S : PS} {w : World} (h : Par B S w) : ∀ g, B.owns g → B.n0 ≤ g := by
 intro g hg
 rcases hg with rfl | rfl | e | e | e | ⟨p, hp, hg⟩
 · exact h.b0
 · exact h.m0
 · exact (row_lt h.pieces g e).1
 · exact (row_lt h.labels g e).1
 · exact (row_lt h.fresh g e).1
 · exact h.fbase p hp g hg
theorem Par.ltAll {B : PB} {S : PS} {w : World} (h : Par B S w) : ∀ g, B.owns g → g < w.heap.size := by
 intro g hg
 rcases hg with rfl | rfl | e | e | e | ⟨p, hp, hg⟩
 · exact blk_size h.own
 · exact h.map.lt
 · exact (row_lt h.pieces g e).2
 · exact (row_lt h.labels g e).2
 · exact (row_lt h.fresh g e).2
 · obtain ⟨c, t, hc, _⟩ := h.box hp hg; exact blk_size hc
theorem Par.free {B : PB} {S : PS} {w : World} (h : Par B S w) {g : Nat} {cur : Array Value} {t : TypeId} {fr : Nat × Nat} (hg : w.heap[g]? = some (.cells cur t fr))
 (h1 : t ≠ 75) (h2 : t ≠ 82) (h3 : t ≠ 42) (h4 : t ≠ 9) (h5 : boxT t = false) : ¬ B.owns g := by
 rintro (rfl | rfl | e | e | e | ⟨p, hp, hm⟩)
 · rw [h.own] at hg; cases hg; exact h1 rfl
 · obtain ⟨es, clock, hb, _⟩ := h.map; rw [hb] at hg; cases hg
 · obtain ⟨c, hc⟩ := row_type h.pieces e; rw [hc] at hg; cases hg; exact h2 rfl
 · obtain ⟨c, hc⟩ := row_type h.labels e; rw [hc] at hg; cases hg; exact h3 rfl
 · obtain ⟨c, hc⟩ := row_type h.fresh e; rw [hc] at hg; cases hg; exact h4 rfl
 · obtain ⟨c, t', hc, hb⟩ := h.box hp hm
   rw [hc] at hg; cases hg; rw [h5] at hb; cases hb
theorem TokView.keep {w w' : World} {v : Value} {ts : List Tok} (h : TokView w v ts) (hk : ∀ (g : Nat) (cur : Array Value), w.heap[g]? = some (.cells cur 129 (0, 0)) → w'.heap[g]? = some (.cells cur 129 (0, 0))) : TokView w' v ts := by
 obtain ⟨p, cap, e, hl, hm, hc⟩ := h
 refine ⟨p, cap, e, hl, hm, fun hn => ?_⟩
 obtain ⟨g, o, cur, ep, hg, hu⟩ := hc hn
 exact ⟨g, o, cur, ep, hk g cur hg, hu⟩
theorem Par.kept {B : PB} {S : PS} {w w' : World} (h : Par B S w) (hb : Below w.heap.size w w') : Par B S w' where
 own := blk_keep hb h.own
 toks := h.toks.keep fun g cur hg => blk_keep hb hg
 map := h.map.kept (row := none) ⟨hb.os, hb.tape, hb.output, hb.size, fun j hj _ => hb.block j hj⟩ (by simp)
 pieces := ownsRow_below' h.pieces hb
 fsl := h.fsl
 fns := fun i x f h1 h2 => by
  exact (h.fns i x f h1 h2).keep fun g _ cs t _ hk => blk_keep hb hk
 nodup := h.nodup
 fbase := h.fbase
 labels := ownsRow_below' h.labels hb
 fresh := ownsRow_below' h.fresh hb
 b0 := h.b0
 m0 := h.m0
theorem setCell_grown (w : World) (g i : Nat) (v : Value) : w.grownBy (w.setCell ⟨g, i, none⟩ v) (some g) :=
 ⟨rfl, rfl, rfl, by simp, fun j _ hne => by
  have : g ≠ j := fun e => hne (by rw [e])
  simp [World.setCell, Array.getElem?_modify, this]⟩
theorem Par.setOther {B : PB} {S : PS} {w : World} (h : Par B S w) {g : Nat} {cur : Array Value} {t : TypeId} {fr : Nat × Nat} (hk : w.heap[g]? = some (.cells cur t fr)) (ht : t ≠ 129) (hn : ¬ B.owns g) (i : Nat) (v : Value) :
 Par B S (w.setCell ⟨g, i, none⟩ v) := by
 have hg := setCell_grown w g i v
 have hot : ∀ {k : Nat} {o : Obj}, w.heap[k]? = some o → k ≠ g → (w.setCell ⟨g, i, none⟩ v).heap[k]? = some o := fun {k o} hk hne =>
  (hg.block k (blk_size hk) (fun e => hne (Option.some.inj e))).trans hk
 have hrow : ∀ {v : Value}, (v.ownBlock = some g → B.owns g) → v.ownBlock = none ∨ v.ownBlock ≠ some g := fun hv => .inr fun e => hn (hv e)
 exact ⟨hot h.own (fun e => hn (.inl e.symm)), h.toks.keep fun k cur' hk' => hot hk' (fun e => by rw [e, hk] at hk'; cases hk'; exact ht rfl),
  h.map.kept hg (fun e => hn (.inr (.inl (Option.some.inj e).symm))), h.pieces.kept hg (hrow fun e => .inr (.inr (.inl e))), h.fsl,
  fun j x f h1 h2 => by
   have hm : f ∈ B.fs := List.mem_of_getElem? h2
   have own : ∀ k, k ∈ f.2 → k ≠ g := fun k hk e => hn (.inr (.inr (.inr (.inr (.inr ⟨f, hm, e ▸ hk⟩)))))
   exact (h.fns j x f h1 h2).keep fun k hk cs t _ he => hot he (own k hk),
  h.nodup, h.fbase, h.labels.kept hg (hrow fun e => .inr (.inr (.inr (.inl e)))), h.fresh.kept hg (hrow fun e => .inr (.inr (.inr (.inr (.inl e))))), h.b0, h.m0⟩
theorem Step.setOther {B B1 : PB} {w w1 : World} (h : Step B w B1 w1) {g : Nat} (hg : w.heap.size ≤ g) (i : Nat) (v : Value) : Step B w B1 (w1.setCell ⟨g, i, none⟩ v) := by
 have k := setCell_grown w1 g i v
 exact ⟨⟨h.off.os, h.off.tape, h.off.output, Nat.le_trans h.off.size k.size, fun j hj hn => (k.block j (Nat.lt_of_lt_of_le hj h.off.size) (fun e => by have := Option.some.inj e; omega)).trans (h.off.block j hj hn)⟩, h.owned, h.n0, h.b, h.mb⟩
end Asm
end Go.Proofs.YtabmlbnnhhpaoaaGreatDoor
set_option maxHeartbeats 1000000
set_option maxRecDepth 100000
namespace Go.Proofs.YtabmlbnnhhpaoaaGreatDoor
open Go.RowKit Go.Shelf
namespace Asm
theorem Par.rowNe {B : PB} {S : PS} {w : World} (h : Par B S w) : B.vp.ownBlock ≠ some B.b ∧ B.vl.ownBlock ≠ some B.b ∧ B.vf.ownBlock ≠ some B.b ∧ B.mb ≠ B.b := by
 refine ⟨fun e => ?_, fun e => ?_, fun e => ?_, fun e => ?_⟩
 · obtain ⟨c, hc⟩ := row_type h.pieces e; rw [h.own] at hc; cases hc
 · obtain ⟨c, hc⟩ := row_type h.labels e; rw [h.own] at hc; cases hc
 · obtain ⟨c, hc⟩ := row_type h.fresh e; rw [h.own] at hc; cases hc
 · obtain ⟨es, clock, hb, _⟩ := h.map; rw [e, h.own] at hb; cases hb
theorem Par.set {B : PB} {S : PS} {w : World} (h : Par B S w) (i : Nat) (v : Value) (vt' : Value) (line' : Int) (toks' : List Tok) (origin' : Int) (placed' : Bool) (count' : Nat)
 (hc : (B.cells S).setIfInBounds i v = ({ B with vt := vt' } : PB).cells { S with line := line', toks := toks', origin := origin', placed := placed', count := count' }) (ht : TokView w vt' toks') :
 Par { B with vt := vt' } { S with line := line', toks := toks', origin := origin', placed := placed', count := count' } (w.setCell ⟨B.b, i, none⟩ v) ∧ Step B w { B with vt := vt' } (w.setCell ⟨B.b, i, none⟩ v) := by
 have hg := setCell_grown w B.b i v
 obtain ⟨n1, n2, n3, n4⟩ := h.rowNe
 have hot : ∀ {g : Nat} {o : Obj}, w.heap[g]? = some o → g ≠ B.b → (w.setCell ⟨B.b, i, none⟩ v).heap[g]? = some o := fun {g o} hk hne =>
  (hg.block g (blk_size hk) (fun e => hne (Option.some.inj e))).trans hk
 refine ⟨⟨setCell_row h.own i v hc, ht.keep fun g cur hk => hot hk (fun e => by rw [e, h.own] at hk; cases hk), h.map.kept hg (fun e => n4 (Option.some.inj e)), h.pieces.kept hg (.inr n1), h.fsl, ?_, h.nodup, h.fbase, h.labels.kept hg (.inr n2), h.fresh.kept hg (.inr n3), h.b0, h.m0⟩, ?_⟩
 · intro j x f h1 h2
   exact (h.fns j x f h1 h2).keep fun k _ cs t hb he => hot he (fun e => by rw [e, h.own] at he; injection (Option.some.inj he) with _ q; exact boxT_ne hb (by decide) q.symm)
 · exact ⟨⟨hg.os, hg.tape, hg.output, hg.size, fun g hk hn => hg.block g hk (fun e => hn (.inl (Option.some.inj e)))⟩, fun g hk => .inl hk, rfl, rfl, rfl⟩
theorem Step.belowAfter {B B1 : PB} {w w1 w2 : World} (h : Step B w B1 w1) (k : Below w1.heap.size w1 w2) : Step B w B1 w2 :=
 h.trans ⟨Off.of_below k, fun g hg => .inl hg, rfl, rfl, rfl⟩
theorem Step.afterBelow {B B1 : PB} {w w1 w2 : World} (k : Below w.heap.size w w1) (h : Step B w1 B1 w2) : Step B w B1 w2 :=
 Step.trans ⟨Off.of_below k, fun g hg => .inl hg, rfl, rfl, rfl⟩ h
theorem Par.drop {B : PB} {S : PS} {w : World} (h : Par B S w) (t : Tok) (ts : List Tok) (hS : S.toks = t :: ts) {g o cap : Nat} {cur : Array Value} (ev : B.vt = .slice (some ⟨g, o, none⟩) (ts.length + 1) cap)
 (hg : w.heap[g]? = some (.cells cur 129 (0, 0))) (hlc : ts.length + 1 ≤ cap) (hcm : cap ≤ maxLen) (hu : ∀ (j : Nat) (u : Value), (S.toks.flatMap tokCells)[j]? = some u → cur[o + j]? = some u) (v : Value)
 (hv : v = .slice (some ⟨g, o + 3, none⟩) ts.length (cap - 1) ∨ (∃ n, n = ts.length ∧ v = .slice (some ⟨g, o, none⟩) n 0 ∧ cap = 1)) :
 Par { B with vt := v } { S with toks := ts } (w.setCell ⟨B.b, 1, none⟩ v) ∧ Step B w { B with vt := v } (w.setCell ⟨B.b, 1, none⟩ v) := by
 refine h.set 1 v v S.line ts S.origin S.placed S.count rfl ?_
 rcases hv with rfl | ⟨n, rfl, rfl, rfl⟩
 · refine ⟨_, _, rfl, by omega, by omega, fun _ => ⟨g, o + 3, cur, rfl, hg, fun j u hj => ?_⟩⟩
   have := hu (j + 3) u (by
    rw [hS, List.flatMap_cons, List.getElem?_append_right (by simp [tokCells])]
    simpa [tokCells] using hj)
   rw [show o + 3 + j = o + (j + 3) by omega]
   exact this
 · have : ts.length = 0 := by omega
   exact ⟨_, _, rfl, by omega, by omega, fun hn => absurd (List.eq_nil_of_length_eq_zero this) hn⟩
end Asm
theorem next_calls (B : Asm.PB) (S : Asm.PS) (t : Asm.Tok) (ts : List Asm.Tok) (hS : S.toks = t :: ts) (w : World) (hP : Asm.Par B S w) :
 Calls Tryz.prog 52 #[.pointer (some ⟨B.b, 0, none⟩), .int .i64 (t.sort : Int)] w fun e w' => e = .returned (.agg #[.int .i64 (t.sort : Int), .string ⟨t.bytes.toArray⟩, .int .i64 t.n]) ∧
  ∃ B', Asm.Par B' { S with toks := ts } w' ∧ Asm.Step B w B' w' := by
 obtain ⟨p, cap, ev, hlc, hcm, hcell⟩ := hP.toks
 obtain ⟨g, o, cur, rfl, hg, hu⟩ := hcell (by rw [hS]; simp)
 have hlen : S.toks.length = ts.length + 1 := by rw [hS]; rfl
 rw [hlen] at ev hlc
 have hgb : ¬ B.owns g := hP.free hg (by decide) (by decide) (by decide) (by decide) (by decide)
 have hgne : g ≠ B.b := fun e => hgb (.inl e)
 have u0 : cur[o + 0]? = some (.int .i64 (t.sort : Int)) := hu 0 _ (by rw [hS]; rfl)
 have u1 : cur[o + 1]? = some (.string ⟨t.bytes.toArray⟩) := hu 1 _ (by rw [hS]; rfl)
 have u2 : cur[o + 2]? = some (.int .i64 t.n) := hu 2 _ (by rw [hS]; rfl)
 have hown := hP.own
 obtain ⟨dp, fp⟩ := blk_facts hown
 obtain ⟨dg, fg⟩ := blk_facts hg
 have c1 : w.cell? ⟨B.b, 1, none⟩ = some (.slice (some ⟨g, o, none⟩) (ts.length + 1) cap) := (dp 1).trans (by rw [← ev]; rfl)
 have e0 : w.cell? ⟨g, o, none⟩ = some (.int .i64 (t.sort : Int)) := (dg o).trans u0
 have e1 : w.cell? ⟨g, o + 1, none⟩ = some (.string ⟨t.bytes.toArray⟩) := (dg (o + 1)).trans u1
 have e2 : w.cell? ⟨g, o + 2, none⟩ = some (.int .i64 t.n) := (dg (o + 2)).trans u2
 have z1 := blk_size hown
 have z2 := blk_size hg
 have f1 := fp 1
 clear dp fp dg fg u0 u1 u2
 go_enter Tryz.func52, Tryz.ntmps52
 have fin : ∀ v : Value, (v = .slice (some ⟨g, o + 3, none⟩) ts.length (cap - 1) ∨ (∃ n, n = ts.length ∧ v = .slice (some ⟨g, o, none⟩) n 0 ∧ cap = 1)) → ∀ o1 o2 : Obj,
  ∃ B', Asm.Par B' { S with toks := ts } (((w.setCell ⟨B.b, 1, none⟩ v).alloc o1).alloc o2) ∧ Asm.Step B w B' (((w.setCell ⟨B.b, 1, none⟩ v).alloc o1).alloc o2) := fun v hv o1 o2 => by
  obtain ⟨h1, h2⟩ := hP.drop t ts hS ev hg hlc hcm hu v hv
  have hb : Below (w.setCell ⟨B.b, 1, none⟩ v).heap.size (w.setCell ⟨B.b, 1, none⟩ v) (((w.setCell ⟨B.b, 1, none⟩ v).alloc o1).alloc o2) := below_alloc' (below_alloc' (Below.refl _ _) _) _
  exact ⟨_, h1.kept hb, h2.belowAfter hb⟩
 by_cases hc1 : cap = 1
 · subst hc1
   go_wp2_with fail
   refine bodyPost_ret (v := .agg #[.int .i64 (t.sort : Int), .string ⟨t.bytes.toArray⟩, .int .i64 t.n]) (by simp [results, Tryz.results52, go_sem]) rfl ⟨rfl, fin _ (.inr ⟨0, by omega, rfl, trivial⟩) _ _⟩
 · go_wp2_with fail
   refine bodyPost_ret (v := .agg #[.int .i64 (t.sort : Int), .string ⟨t.bytes.toArray⟩, .int .i64 t.n]) (by simp [results, Tryz.results52, go_sem]) rfl ⟨rfl, fin _ (.inl rfl) _ _⟩
theorem is_calls (B : Asm.PB) (S : Asm.PS) (t : Asm.Tok) (ts : List Asm.Tok) (hS : S.toks = t :: ts) (q : List UInt8) (w : World) (hP : Asm.Par B S w) :
 Calls Tryz.prog 97 #[.pointer (some ⟨B.b, 0, none⟩), .string ⟨q.toArray⟩] w fun e w' => e = .returned (.bool (decide (t.sort = 2) && decide (t.bytes = q))) ∧ w' = w := by
 obtain ⟨p, cap, ev, hlc, hcm, hcell⟩ := hP.toks
 obtain ⟨g, o, cur, rfl, hg, hu⟩ := hcell (by rw [hS]; simp)
 have hlen : S.toks.length = ts.length + 1 := by rw [hS]; rfl
 rw [hlen] at ev hlc
 have hgb : ¬ B.owns g := hP.free hg (by decide) (by decide) (by decide) (by decide) (by decide)
 have hgne : g ≠ B.b := fun e => hgb (.inl e)
 have u0 : cur[o + 0]? = some (.int .i64 (t.sort : Int)) := hu 0 _ (by rw [hS]; rfl)
 have u1 : cur[o + 1]? = some (.string ⟨t.bytes.toArray⟩) := hu 1 _ (by rw [hS]; rfl)
 have u2 : cur[o + 2]? = some (.int .i64 t.n) := hu 2 _ (by rw [hS]; rfl)
 have hown := hP.own
 obtain ⟨dp, fp⟩ := blk_facts hown
 obtain ⟨dg, fg⟩ := blk_facts hg
 have c1 : w.cell? ⟨B.b, 1, none⟩ = some (.slice (some ⟨g, o, none⟩) (ts.length + 1) cap) := (dp 1).trans (by rw [← ev]; rfl)
 have e0 : w.cell? ⟨g, o, none⟩ = some (.int .i64 (t.sort : Int)) := (dg o).trans u0
 have e1 : w.cell? ⟨g, o + 1, none⟩ = some (.string ⟨t.bytes.toArray⟩) := (dg (o + 1)).trans u1
 have e2 : w.cell? ⟨g, o + 2, none⟩ = some (.int .i64 t.n) := (dg (o + 2)).trans u2
 have z1 := blk_size hown
 have z2 := blk_size hg
 have f1 := fp 1
 clear dp fp dg fg u0 u1 u2
 go_enter Tryz.func97, Tryz.ntmps97
 by_cases hs2 : t.sort = 2
 · have hsi : (t.sort : Int) = 2 := by omega
   go_wp2_with fail
   go_ret
   exact ⟨congrArg (fun b => Ending.returned (.bool b)) (by rw [Bool.eq_iff_iff]; simp [hs2]), rfl⟩
 · have hsi : ¬ (t.sort : Int) = 2 := by omega
   go_wp2_with fail
   all_goals (go_ret; refine ⟨?_, rfl⟩; simp [hs2])
theorem must_calls (B : Asm.PB) (S : Asm.PS) (t : Asm.Tok) (ts : List Asm.Tok) (hS : S.toks = t :: ts) (hs2 : t.sort = 2) (w : World) (hP : Asm.Par B S w) :
 Calls Tryz.prog 54 #[.pointer (some ⟨B.b, 0, none⟩), .string ⟨t.bytes.toArray⟩] w fun e w' => e = .returned (.tuple #[]) ∧
  ∃ B', Asm.Par B' { S with toks := ts } w' ∧ Asm.Step B w B' w' := by
 obtain ⟨p, cap, ev, hlc, hcm, hcell⟩ := hP.toks
 obtain ⟨g, o, cur, rfl, hg, hu⟩ := hcell (by rw [hS]; simp)
 have hlen : S.toks.length = ts.length + 1 := by rw [hS]; rfl
 rw [hlen] at ev hlc
 have hgb : ¬ B.owns g := hP.free hg (by decide) (by decide) (by decide) (by decide) (by decide)
 have hgne : g ≠ B.b := fun e => hgb (.inl e)
 have u0 : cur[o + 0]? = some (.int .i64 (t.sort : Int)) := hu 0 _ (by rw [hS]; rfl)
 have u1 : cur[o + 1]? = some (.string ⟨t.bytes.toArray⟩) := hu 1 _ (by rw [hS]; rfl)
 have u2 : cur[o + 2]? = some (.int .i64 t.n) := hu 2 _ (by rw [hS]; rfl)
 have hown := hP.own
 obtain ⟨dp, fp⟩ := blk_facts hown
 obtain ⟨dg, fg⟩ := blk_facts hg
 have c1 : w.cell? ⟨B.b, 1, none⟩ = some (.slice (some ⟨g, o, none⟩) (ts.length + 1) cap) := (dp 1).trans (by rw [← ev]; rfl)
 have e0 : w.cell? ⟨g, o, none⟩ = some (.int .i64 (t.sort : Int)) := (dg o).trans u0
 have e1 : w.cell? ⟨g, o + 1, none⟩ = some (.string ⟨t.bytes.toArray⟩) := (dg (o + 1)).trans u1
 have e2 : w.cell? ⟨g, o + 2, none⟩ = some (.int .i64 t.n) := (dg (o + 2)).trans u2
 have z1 := blk_size hown
 have z2 := blk_size hg
 have f1 := fp 1
 clear dp fp dg fg u0 u1 u2
 have fin : ∀ v : Value, (v = .slice (some ⟨g, o + 3, none⟩) ts.length (cap - 1) ∨ (∃ n, n = ts.length ∧ v = .slice (some ⟨g, o, none⟩) n 0 ∧ cap = 1)) →
  ∃ B', Asm.Par B' { S with toks := ts } (w.setCell ⟨B.b, 1, none⟩ v) ∧ Asm.Step B w B' (w.setCell ⟨B.b, 1, none⟩ v) := fun v hv => ⟨_, hP.drop t ts hS ev hg hlc hcm hu v hv⟩
 go_enter Tryz.func54, Tryz.ntmps54
 go_wp2_with fail
 refine (is_calls B S t ts hS t.bytes _ hP).mono ?_
 rintro e w1 ⟨rfl, rfl⟩
 rw [show (decide (t.sort = 2) && decide (t.bytes = t.bytes)) = true by simp [hs2]]
 by_cases hc1 : cap = 1
 · subst hc1
   go_wp2_with fail
   go_end0
   exact ⟨rfl, fin _ (.inr ⟨0, by omega, rfl, trivial⟩)⟩
 · go_wp2_with fail
   go_end0
   exact ⟨rfl, fin _ (.inl rfl)⟩
end Go.Proofs.YtabmlbnnhhpaoaaGreatDoor
set_option maxHeartbeats 1000000
set_option maxRecDepth 100000
namespace Go.Proofs.YtabmlbnnhhpaoaaGreatDoor
open Go.RowKit Go.Shelf
theorem field1 (a b c : Value) (w : World) : (Instr.field 129 (.agg #[a, b, c]) 1).run Tryz.prog w = .ok b w := by kernel_rfl
theorem field2 (a b c : Value) (w : World) : (Instr.field 129 (.agg #[a, b, c]) 2).run Tryz.prog w = .ok c w := by kernel_rfl
theorem register_calls (B : Asm.PB) (S : Asm.PS) (t : Asm.Tok) (ts : List Asm.Tok) (hS : S.toks = t :: ts) (hs : t.sort = 0) (n : Nat) (hr : Asm.regOf t.bytes = some n) (w : World) (hP : Asm.Par B S w) :
 Calls Tryz.prog 102 #[.pointer (some ⟨B.b, 0, none⟩)] w fun e w' => e = .returned (.int .u8 (n : Int)) ∧
  ∃ B', Asm.Par B' { S with toks := ts } w' ∧ Asm.Step B w B' w' := by
 have hsi : (t.sort : Int) = 0 := by omega
 have hn := next_calls B S t ts hS w hP
 rw [hsi] at hn
 have hf := field1
 go_enter Tryz.func102, Tryz.ntmps102
 go_wp2_with fail
 refine hn.mono ?_
 rintro e w1 ⟨rfl, hB⟩
 go_wp2_with fail
 refine (asmReg_calls t.bytes _).mono ?_
 rintro e w2 ⟨rfl, rfl⟩
 rw [hr]
 unfold Asm.regAns
 go_wp2_with fail
 go_ret
 exact ⟨rfl, hB⟩
theorem value_num (B : Asm.PB) (S : Asm.PS) (t : Asm.Tok) (ts : List Asm.Tok) (hS : S.toks = t :: ts) (hs : t.sort = 1) (w : World) (hP : Asm.Par B S w) :
 Calls Tryz.prog 103 #[.pointer (some ⟨B.b, 0, none⟩)] w fun e w' => e = .returned (.agg #[.string ⟨#[]⟩, .int .i64 t.n]) ∧
  ∃ B', Asm.Par B' { S with toks := ts } w' ∧ Asm.Step B w B' w' := by
 have hb0 : Below w.heap.size w (w.alloc (.cells #[.string ⟨#[]⟩, .int .i64 0] 195)) := below_alloc' (Below.refl _ _) _
 have hP1 := hP.kept hb0
 have hP0 := hP
 obtain ⟨p, cap, ev, hlc, hcm, hcell⟩ := hP.toks
 obtain ⟨g, o, cur, rfl, hg, hu⟩ := hcell (by rw [hS]; simp)
 have hlen : S.toks.length = ts.length + 1 := by rw [hS]; rfl
 rw [hlen] at ev hlc
 have u0 : cur[o + 0]? = some (.int .i64 (t.sort : Int)) := hu 0 _ (by rw [hS]; rfl)
 have hsi : (t.sort : Int) = 1 := by omega
 rw [hsi] at u0
 have hown := hP.own
 obtain ⟨dp, fp⟩ := blk_facts hown
 obtain ⟨dg, fg⟩ := blk_facts hg
 have c1 : w.cell? ⟨B.b, 1, none⟩ = some (.slice (some ⟨g, o, none⟩) (ts.length + 1) cap) := (dp 1).trans (by rw [← ev]; rfl)
 have e0 : w.cell? ⟨g, o, none⟩ = some (.int .i64 1) := (dg o).trans u0
 have z1 := blk_size hown
 have z2 := blk_size hg
 have hn := next_calls B S t ts hS (w.alloc (.cells #[.string ⟨#[]⟩, .int .i64 0] 195)) hP1
 rw [hsi] at hn
 have hnew := heap_alloc_new w (.cells #[.string ⟨#[]⟩, .int .i64 0] 195)
 have hfree : ¬ B.owns w.heap.size := fun h => by have := hP0.ltAll _ h; omega
 clear dp fp dg fg u0 hu hcell
 have hf := field2
 go_enter Tryz.func103, Tryz.ntmps103
 go_wp2_with fail
 refine hn.mono ?_
 rintro e w1 ⟨rfl, B', hP2, hst⟩
 obtain ⟨k1, k2⟩ := hst.keep hnew hfree
 obtain ⟨dk, fk⟩ := blk_facts k1
 have hst2 := Asm.Step.afterBelow hb0 hst
 have hP3 := (hP2.setOther k1 (by decide) k2 0 (.string ⟨#[]⟩)).setOther (setCell_row k1 0 (.string ⟨#[]⟩) rfl) (by decide) k2 1 (.int .i64 t.n)
 have hst3 := (hst2.setOther (Nat.le_refl _) 0 (.string ⟨#[]⟩)).setOther (Nat.le_refl _) 1 (.int .i64 t.n)
 go_wp2_with fail
 have r1 := setCell_row k1 0 (.string ⟨#[]⟩) rfl
 have r2 := setCell_row r1 1 (.int .i64 t.n) rfl
 have q0 := (blk_facts r1).1 0
 have q1 := (blk_facts r2).1 0
 have q2 := (blk_facts r2).1 1
 refine bodyPost_ret (v := .agg #[.string ⟨#[]⟩, .int .i64 t.n]) (by simp [results, Tryz.results103, go_sem, q0, q1, q2]) rfl ⟨rfl, B', hP3, hst3⟩
theorem value_name (B : Asm.PB) (S : Asm.PS) (t : Asm.Tok) (ts : List Asm.Tok) (hS : S.toks = t :: ts) (hs : t.sort = 0) (hl : t.bytes.length ≤ 1000000) (hok : Asm.nameOk t.bytes = true) (w : World) (hP : Asm.Par B S w) :
 Calls Tryz.prog 103 #[.pointer (some ⟨B.b, 0, none⟩)] w fun e w' => e = .returned (.agg #[.string ⟨t.bytes.toArray⟩, .int .i64 0]) ∧
  ∃ B', Asm.Par B' { S with toks := ts } w' ∧ Asm.Step B w B' w' := by
 have hb0 : Below w.heap.size w (w.alloc (.cells #[.string ⟨#[]⟩, .int .i64 0] 195)) := below_alloc' (Below.refl _ _) _
 have hP1 := hP.kept hb0
 have hP0 := hP
 obtain ⟨p, cap, ev, hlc, hcm, hcell⟩ := hP.toks
 obtain ⟨g, o, cur, rfl, hg, hu⟩ := hcell (by rw [hS]; simp)
 have hlen : S.toks.length = ts.length + 1 := by rw [hS]; rfl
 rw [hlen] at ev hlc
 have u0 : cur[o + 0]? = some (.int .i64 (t.sort : Int)) := hu 0 _ (by rw [hS]; rfl)
 have hsi : (t.sort : Int) = 0 := by omega
 rw [hsi] at u0
 have hown := hP.own
 obtain ⟨dp, fp⟩ := blk_facts hown
 obtain ⟨dg, fg⟩ := blk_facts hg
 have c1 : w.cell? ⟨B.b, 1, none⟩ = some (.slice (some ⟨g, o, none⟩) (ts.length + 1) cap) := (dp 1).trans (by rw [← ev]; rfl)
 have e0 : w.cell? ⟨g, o, none⟩ = some (.int .i64 0) := (dg o).trans u0
 have z1 := blk_size hown
 have z2 := blk_size hg
 have hn := next_calls B S t ts hS (w.alloc (.cells #[.string ⟨#[]⟩, .int .i64 0] 195)) hP1
 rw [hsi] at hn
 have hnew := heap_alloc_new w (.cells #[.string ⟨#[]⟩, .int .i64 0] 195)
 have hfree : ¬ B.owns w.heap.size := fun h => by have := hP0.ltAll _ h; omega
 clear dp fp dg fg u0 hu hcell
 have hf := field1
 go_enter Tryz.func103, Tryz.ntmps103
 go_wp2_with fail
 refine hn.mono ?_
 rintro e w1 ⟨rfl, B', hP2, hst⟩
 obtain ⟨k1, k2⟩ := hst.keep hnew hfree
 obtain ⟨dk, fk⟩ := blk_facts k1
 have hst2 := Asm.Step.afterBelow hb0 hst
 have hP3 := (hP2.setOther k1 (by decide) k2 0 (.string ⟨t.bytes.toArray⟩)).setOther (setCell_row k1 0 (.string ⟨t.bytes.toArray⟩) rfl) (by decide) k2 1 (.int .i64 0)
 have hst3 := (hst2.setOther (Nat.le_refl _) 0 (.string ⟨t.bytes.toArray⟩)).setOther (Nat.le_refl _) 1 (.int .i64 0)
 go_wp2_with fail
 refine (asmName_calls t.bytes (by omega) _).mono ?_
 rintro e w2 ⟨rfl, rfl⟩
 rw [hok]
 go_wp2_with fail
 have r1 := setCell_row k1 0 (.string ⟨t.bytes.toArray⟩) rfl
 have r2 := setCell_row r1 1 (.int .i64 0) rfl
 have q0 := (blk_facts r1).1 0
 have q1 := (blk_facts r2).1 0
 have q2 := (blk_facts r2).1 1
 refine bodyPost_ret (v := .agg #[.string ⟨t.bytes.toArray⟩, .int .i64 0]) (by simp [results, Tryz.results103, go_sem, q0, q1, q2]) rfl ⟨rfl, B', hP3, hst3⟩
theorem end_calls (B : Asm.PB) (S : Asm.PS) (hS : S.toks = []) (w : World) (hP : Asm.Par B S w) :
 Calls Tryz.prog 134 #[.pointer (some ⟨B.b, 0, none⟩)] w fun e w' => e = .returned (.tuple #[]) ∧ w' = w := by
 obtain ⟨p, cap, ev, hlc, hcm, hcell⟩ := hP.toks
 rw [hS] at ev
 obtain ⟨dp, fp⟩ := blk_facts hP.own
 have c1 : w.cell? ⟨B.b, 1, none⟩ = some (.slice p 0 cap) := (dp 1).trans (by rw [← show B.vt = .slice p 0 cap from ev]; rfl)
 have z1 := blk_size hP.own
 clear dp fp
 go_enter Tryz.func134, Tryz.ntmps134
 go_wp2_with fail
 go_end0
 exact ⟨rfl, rfl⟩
theorem at_calls (B : Asm.PB) (S : Asm.PS) (h0 : 0 ≤ S.origin) (h1 : S.origin ≤ 4294967296) (h2 : S.count ≤ 1000000) (w : World) (hP : Asm.Par B S w) :
 Calls Tryz.prog 98 #[.pointer (some ⟨B.b, 0, none⟩)] w fun e w' => e = .returned (.int .i64 (S.origin + 4 * (S.count : Int))) ∧ Below w.heap.size w w' := by
 obtain ⟨dp, fp⟩ := blk_facts hP.own
 have c2 : w.cell? ⟨B.b, 2, none⟩ = some (.int .i64 S.origin) := dp 2
 have c4 : w.cell? ⟨B.b, 4, none⟩ = some (.int .i64 (S.count : Int)) := dp 4
 have z1 := blk_size hP.own
 clear dp fp
 go_enter Tryz.func98, Tryz.ntmps98
 go_wp2_with fail
 go_quiet (fail)
 all_goals go_wp2_with fail
 go_ret
 exact ⟨rfl, by first | exact Below.refl _ _ | exact below_drewN' (Below.refl _ _) _⟩
end Go.Proofs.YtabmlbnnhhpaoaaGreatDoor
