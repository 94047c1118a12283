/- What this claim needs of FixLaw, FixStmt, FixInv. -/
import Derived.Test.YtabmlbnnhhpaoaaGreatDoorEMFailQG
import Derived.Test.YtabmlbnnhhpaoaaGreatDoorEMFailIG2
import Derived.Test.YtabmlbnnhhpaoaaGreatDoorEMFailRG
import Derived.Test.YtabmlbnnhhpaoaaGreatDoorEMBackG
set_option linter.unusedSimpArgs false
set_option linter.unusedVariables false
namespace Go.Proofs.YtabmlbnnhhpaoaaGreatDoor
open Go.RowKit Go.Shelf
namespace Asm
theorem span_take (p : UInt8 → Bool) : ∀ (l : List UInt8), ∀ c ∈ l.take (span p l), p c = true
 | [] => by intro c hc; simp at hc
 | d :: l => by
   intro c hc
   unfold span at hc
   by_cases hp : p d = true
   · rw [if_pos hp] at hc
     simp only [List.take_succ_cons] at hc
     rcases List.mem_cons.1 hc with rfl | hc
     · exact hp
     · exact span_take p l c hc
   · rw [if_neg hp] at hc
     simp at hc
theorem fold_range (h : Bool) : ∀ (l : List UInt8) (n : Int), (∀ c ∈ l, 0 ≤ val h c) → 0 ≤ n → n ≤ hugest → 0 ≤ l.foldl (step h) n ∧ l.foldl (step h) n ≤ hugest
 | [], n, _, h0, h1 => ⟨h0, h1⟩
 | c :: l, n, hv, h0, h1 => by
   rw [List.foldl_cons]
   have hb : 0 ≤ base h := by unfold base; split <;> decide
   have hc := hv c (by simp)
   have h2 : 0 ≤ n * base h := Int.mul_nonneg h0 hb
   have h3 : 0 ≤ step h n c := by unfold step hugest; omega
   have h4 : step h n c ≤ hugest := by unfold step; omega
   exact fold_range h l _ (fun d hd => hv d (by simp [hd])) h3 h4
theorem numVal_range (s : List UInt8) : -1099511627776 ≤ numVal s ∧ numVal s ≤ 1099511627776 := by
 have h := fold_range (hex s) ((digits s).take (size s)) 0 (fun c hc => by simpa using span_take _ _ c hc) (by decide) (by decide)
 have h2 : 0 ≤ numAbs s ∧ numAbs s ≤ hugest := h
 unfold hugest at h2
 unfold numVal
 split <;> omega
def TokG (l : List Tok) : Prop := ∀ t ∈ l, t.bytes.length ≤ 1000000 ∧ -1099511627776 ≤ t.n ∧ t.n ≤ 1099511627776
theorem tok_n {c : UInt8} {s : List UInt8} {t : Tok} (h : tok c s = some t) : -1099511627776 ≤ t.n ∧ t.n ≤ 1099511627776 := by
 unfold tok at h
 split at h
 · cases h; exact ⟨by show -1099511627776 ≤ (0 : Int); decide, by show (0 : Int) ≤ 1099511627776; decide⟩
 · split at h
   · split at h
     · cases h
     · cases h; exact numVal_range s
   · split at h
     · cases h
     · cases h; exact ⟨by show -1099511627776 ≤ (0 : Int); decide, by show (0 : Int) ≤ 1099511627776; decide⟩
theorem toks_n : ∀ (f : Nat) (s : List UInt8) (l : List Tok), toks f s = some l → ∀ t ∈ l, -1099511627776 ≤ t.n ∧ t.n ≤ 1099511627776
 | 0, s, l, h => by cases h
 | f + 1, s, l, h => by
   rw [toks] at h
   cases hq : trim s with
   | nil => rw [hq] at h; cases h; simp
   | cons c r =>
     rw [hq] at h
     dsimp only at h
     cases hk : tok c (c :: r) with
     | none => rw [hk] at h; cases h
     | some t =>
       rw [hk] at h
       dsimp only at h
       cases hr : toks f ((c :: r).drop t.bytes.length) with
       | none => rw [hr] at h; cases h
       | some l' =>
         rw [hr] at h
         cases h
         intro u hu
         rcases List.mem_cons.1 hu with rfl | hu
         · exact tok_n hk
         · exact toks_n f _ l' hr u hu
theorem tokens_good {s : List UInt8} {l : List Tok} (hs : s.length ≤ 100000) (h : tokens s = some l) : TokG l := fun t ht => by
 have h1 := (tokens_len h).2 t ht
 have h2 := toks_n _ _ _ h t ht
 exact ⟨by omega, h2⟩
theorem TokG.b {l : List Tok} (h : TokG l) : TokB l := fun t ht => (h t ht).1
theorem TokG.sub {l ts : List Tok} (h : TokG l) (hs : ∃ t, l = t :: ts) : TokG ts := by
 obtain ⟨t, rfl⟩ := hs
 exact fun u hu => h u (by simp [hu])
theorem regFrom_le : ∀ (f i : Nat) (l : List UInt8) (n : Nat), regFrom f i l = some n → n < i + f
 | 0, i, l, n, h => by cases h
 | f + 1, i, l, n, h => by
   unfold regFrom at h
   split at h
   · cases h; omega
   · have := regFrom_le f (i + 1) l n h; omega
theorem rdReg_le {l ts : List Tok} {n : Nat} (h : rdReg l = some (n, ts)) : n ≤ 15 := by
 cases l with
 | nil => cases h
 | cons t l =>
   rw [rdReg] at h
   split at h
   · cases hr : regOf t.bytes with
     | none => rw [hr] at h; cases h
     | some m =>
       rw [hr] at h
       cases h
       have := regFrom_le 16 0 t.bytes n hr
       omega
   · cases h
theorem rdVal_good {l ts : List Tok} {v : Val} (hg : TokG l) (h : rdVal l = some (v, ts)) : VGood v := by
 cases l with
 | nil => cases h
 | cons t l =>
   have ht := hg t (by simp)
   rw [rdVal] at h
   split at h
   · cases h; exact ⟨by simp, ht.2.1, ht.2.2⟩
   · split at h
     · cases h; exact ⟨ht.1, by show -1099511627776 ≤ (0 : Int); decide, by show (0 : Int) ≤ 1099511627776; decide⟩
     · cases h
def psize (x : Piece) : Nat :=
 match x.kind with
 | .enc => 1
 | .word l => l.length
 | .li => 2
 | .zero => x.v.n.toNat
theorem wordsOf_len (S : PS) (x : Piece) : (wordsOf S x).length = psize x := by
 unfold wordsOf psize
 cases x.kind <;> simp
structure Core (S : PS) : Prop where
 o0 : 0 ≤ S.origin
 o1 : S.origin < 4294967296
 o4 : S.origin % 4 = 0
 pos : S.pos ≤ 4294967296
 c : S.count ≤ 4096
 isMap : Maps.IsMap S.places
 plok : PlOk S
 names : ∀ x, x ∈ S.labels.map (·.1) → Maps.has S.places (.string x) = true
 lab : ∀ x ∈ S.labels, nameOk x.1 = true ∧ x.2 % 4 = 0 ∧ S.origin ≤ x.2 ∧ x.2 ≤ S.pos ∧ x.2 < 4294967296
 asc : S.labels.Pairwise (fun a b => a.2 ≤ b.2)
 nd : (S.labels.map (·.1)).Nodup
 pieces : ∀ x ∈ S.pieces, PGood x
 cnt : S.count = (S.pieces.map psize).sum
 unpl : S.placed = false → S.labels = [] ∧ S.count = 0
theorem markX_core {S T : PS} {x : List UInt8} (h : Core S) (hn : nameOk x = true) (hp : S.pos < 4294967296) (hm : markX S x = some T) : Core T ∧ T.pos = S.pos := by
 unfold markX at hm
 split at hm
 · cases hm
 · rename_i hh
   have h0 : 0 ≤ S.pos := by unfold PS.pos; have := h.o0; omega
   have hmod : S.pos % 4294967296 = S.pos := by omega
   rw [hmod] at hm
   cases hm
   refine ⟨⟨h.o0, h.o1, h.o4, h.pos, h.c, ?_, ?_, ?_, ?_, ?_, ?_, h.pieces, h.cnt, fun e => by cases e⟩, rfl⟩
   · obtain ⟨es, he⟩ := h.isMap
     show Maps.IsMap (S.places.put _ _)
     rw [he]
     exact ⟨_, rfl⟩
   · intro y
     show 0 ≤ litInt ((S.places.put (.string x) (.lit (.int .i64 S.pos))).atKey (.string y) _) ∧ litInt ((S.places.put (.string x) (.lit (.int .i64 S.pos))).atKey (.string y) _) ≤ _
     by_cases hy : y = x
     · subst hy
       rw [Maps.atKey_put_same (k := .string y) h.isMap trivial]
       exact ⟨h0, h.pos⟩
     · rw [Maps.atKey_put_other (fun e => hy (by injection e))]
       exact h.plok y
   · intro y hy
     show Maps.has (S.places.put (.string x) _) (.string y) = true
     by_cases hyx : y = x
     · subst hyx
       exact Maps.has_put_same (k := .string y) h.isMap trivial _
     · rw [Maps.has_put_other (fun e => hyx (by injection e))]
       refine h.names y ?_
       have hy' : y ∈ (S.labels ++ [(x, S.pos)]).map (·.1) := hy
       rw [List.map_append, List.mem_append] at hy'
       rcases hy' with hy' | hy'
       · exact hy'
       · simp at hy'; exact absurd hy' hyx
   · intro y hy
     have hy' : y ∈ S.labels ++ [(x, S.pos)] := hy
     rcases List.mem_append.1 hy' with hy' | hy'
     · exact h.lab y hy'
     · simp at hy'
       subst hy'
       have ho := h.o0
       have ho4 := h.o4
       refine ⟨hn, ?_, ?_, Int.le_refl _, hp⟩
       · show S.pos % 4 = 0; unfold PS.pos; omega
       · show S.origin ≤ S.pos; unfold PS.pos; omega
   · show (S.labels ++ [(x, S.pos)]).Pairwise _
     rw [List.pairwise_append]
     refine ⟨h.asc, List.pairwise_singleton _ _, fun a ha b hb => ?_⟩
     simp at hb
     subst hb
     exact (h.lab a ha).2.2.2.1
   · show ((S.labels ++ [(x, S.pos)]).map (·.1)).Nodup
     rw [List.map_append, List.nodup_append]
     refine ⟨h.nd, by simp, fun a ha b hb e => ?_⟩
     simp at hb
     rw [e, hb] at ha
     have := h.names x ha
     exact hh this
theorem markGo_core : ∀ (l : List (List UInt8)) {S T : PS}, Core S → (∀ x ∈ l, nameOk x = true) → (l ≠ [] → S.pos < 4294967296) → markGo S l = some T → Core T ∧ T.pos = S.pos
 | [], S, T, h, _, _, hm => by cases hm; exact ⟨h, rfl⟩
 | x :: l, S, T, h, hn, hp, hm => by
   unfold markGo at hm
   rw [List.foldlM_cons] at hm
   cases h1 : markX S x with
   | none => rw [h1] at hm; cases hm
   | some R =>
     rw [h1] at hm
     obtain ⟨a, b⟩ := markX_core h (hn x (by simp)) (hp (by simp)) h1
     obtain ⟨c, d⟩ := markGo_core l a (fun y hy => hn y (by simp [hy])) (fun _ => by rw [b]; exact hp (by simp)) (show markGo R l = some T from hm)
     exact ⟨c, d.trans b⟩
theorem markR_core {S T : PS} (h : Core S) (hn : ∀ x ∈ S.fresh, nameOk x = true) (hm : markR S = .ok T) : Core T := by
 unfold markR at hm
 cases hg : markGo S S.fresh with
 | none => rw [hg] at hm; cases hm
 | some U =>
   rw [hg] at hm
   dsimp only at hm
   split at hm
   · cases hm
   · rename_i hc
     have hp : S.fresh ≠ [] → S.pos < 4294967296 := fun hf => by
      by_cases h2 : S.pos < 4294967296
      · exact h2
      · exact absurd ⟨hf, by omega⟩ hc
     obtain ⟨a, _⟩ := markGo_core S.fresh h hn hp hg
     cases hm
     exact ⟨a.o0, a.o1, a.o4, a.pos, a.c, a.isMap, a.plok, a.names, a.lab, a.asc, a.nd, a.pieces, a.cnt, a.unpl⟩
theorem putR_ok {S T : PS} {x : Piece} {n : Nat} (h : putR S x n = .ok T) : S.toks = [] ∧ ∃ U, markR S = .ok U ∧ T = putTo U x n ∧ U.count + n ≤ 4096 ∧ U.origin + 4 * ((U.count + n : Nat) : Int) ≤ 4294967296 := by
 unfold putR at h
 split at h
 · cases h
 · rename_i ht
   cases hm : markR S with
   | error e => rw [hm] at h; cases h
   | ok U =>
     rw [hm] at h
     dsimp only at h
     split at h
     · cases h
     · rename_i hc
       injection h with h
       exact ⟨by simpa using ht, U, rfl, h.symm, by omega, by omega⟩
theorem putR_core {S T : PS} {x : Piece} {n : Nat} (h : Core S) (hn : ∀ x ∈ S.fresh, nameOk x = true) (hg : PGood x) (hsz : n = psize x) (hp : putR S x n = .ok T) : Core T := by
 obtain ⟨_, U, hm, rfl, hc, hq⟩ := putR_ok hp
 have a := markR_core h hn hm
 have hpos : (putTo U x n).pos = U.pos + 4 * (n : Int) := by unfold PS.pos putTo; push_cast; omega
 refine ⟨a.o0, a.o1, a.o4, ?_, hc, a.isMap, a.plok, a.names, ?_, a.asc, a.nd, ?_, ?_, ?_⟩
 · rw [hpos]; unfold PS.pos; push_cast at hq; omega
 · intro y hy
   obtain ⟨h1, h2, h3, h4, h5⟩ := a.lab y hy
   exact ⟨h1, h2, h3, by rw [hpos]; omega, h5⟩
 · intro y hy
   have hy' : y ∈ U.pieces ++ [x] := hy
   rcases List.mem_append.1 hy' with hy' | hy'
   · exact a.pieces y hy'
   · simp at hy'; subst hy'; exact hg
 · show U.count + n = ((U.pieces ++ [x]).map psize).sum
   rw [List.map_append, List.sum_append, ← a.cnt, hsz]
   simp
 · intro e
   have e' : (U.placed || decide (0 < n)) = false := e
   simp only [Bool.or_eq_false_iff, decide_eq_false_iff_not] at e'
   obtain ⟨h1, h2⟩ := a.unpl e'.1
   exact ⟨h1, by show U.count + n = 0; omega⟩
end Asm
end Go.Proofs.YtabmlbnnhhpaoaaGreatDoor
namespace Go.Proofs.YtabmlbnnhhpaoaaGreatDoor
open Go.RowKit Go.Shelf
namespace Asm
def Stmt (S T : PS) : Prop :=
 (∃ x n, putR { S with toks := [] } x n = .ok T ∧ PGood x ∧ n = psize x ∧ x.line = S.line) ∨
 (S.placed = false ∧ S.fresh = [] ∧ ∃ o : Int, 0 ≤ o ∧ o < 4294967296 ∧ o % 4 = 0 ∧ T = { S with toks := [], origin := o, placed := true }) ∨
 markR { S with toks := [] } = .ok T
theorem Stmt.put {S T : PS} {l : List Tok} {x : Piece} {n : Nat} (h : putR { S with toks := l } x n = .ok T) (hg : PGood x) (hn : n = psize x) (hx : x.line = S.line := by rfl) : Stmt S T := by
 have ht : l = [] := (putR_ok h).1
 subst ht
 exact .inl ⟨x, n, h, hg, hn, hx⟩
theorem pos_range {S : PS} (h : Core S) : 0 ≤ S.pos ∧ S.pos ≤ 4294967296 := by
 have h1 := h.o0; have h2 := h.pos
 refine ⟨?_, h2⟩
 unfold PS.pos
 omega
theorem insR_stmt {S T : PS} {I : Option ((Ins × Val) × List Tok)} (hc : Core S) (hI : ∀ x l, I = some (x, l) → InsOk x.1 ∧ VGood x.2) (h : insR I S = .ok T) : Stmt S T := by
 unfold insR at h
 cases hq : I with
 | none => rw [hq] at h; cases h
 | some p =>
   obtain ⟨x, l⟩ := p
   rw [hq] at h
   obtain ⟨a, b⟩ := hI x l hq
   exact Stmt.put h ⟨a, b, pos_range hc⟩ rfl
theorem zero_val : VGood ⟨[], 0⟩ := ⟨by simp, by decide, by decide⟩
theorem ins_ok0 (op : Int) {i : Ins} (h : ∃ d a b : Nat, d ≤ 15 ∧ a ≤ 15 ∧ b ≤ 15 ∧ i.d = d ∧ i.a = a ∧ i.b = b) : InsOk i := by
 obtain ⟨d, a, b, hd, ha, hb, e1, e2, e3⟩ := h
 exact ⟨by rw [e1]; omega, by rw [e2]; omega, by rw [e3]; omega⟩
theorem ins1_good {op : Nat} {l0 l : List Tok} {x : Ins × Val} (hg : TokG l0) (h : ins1 op l0 = some (x, l)) : InsOk x.1 ∧ VGood x.2 := by
 unfold ins1 at h
 split at h
 · cases h
 rename_i d l1 h1
 have g1 := TokG.sub hg (rdReg_sub h1)
 split at h
 · cases h
 rename_i l2 h2
 have g2 := TokG.sub g1 (rdSign_sub h2)
 split at h
 · cases h
 rename_i a l3 h3
 have g3 := TokG.sub g2 (rdReg_sub h3)
 split at h
 · cases h
 rename_i l4 h4
 have g4 := TokG.sub g3 (rdSign_sub h4)
 split at h
 · cases h
 rename_i b l5 h5
 have g5 := TokG.sub g4 (rdReg_sub h5)
 cases h
 exact ⟨ins_ok0 0 ⟨d, a, b, rdReg_le h1, rdReg_le h3, rdReg_le h5, rfl, rfl, rfl⟩, zero_val⟩
theorem ins2_good {op : Nat} {l0 l : List Tok} {x : Ins × Val} (hg : TokG l0) (h : ins2 op l0 = some (x, l)) : InsOk x.1 ∧ VGood x.2 := by
 unfold ins2 at h
 split at h
 · cases h
 rename_i d l1 h1
 have g1 := TokG.sub hg (rdReg_sub h1)
 split at h
 · cases h
 rename_i l2 h2
 have g2 := TokG.sub g1 (rdSign_sub h2)
 split at h
 · cases h
 rename_i a l3 h3
 have g3 := TokG.sub g2 (rdReg_sub h3)
 split at h
 · cases h
 rename_i l4 h4
 have g4 := TokG.sub g3 (rdSign_sub h4)
 split at h
 · cases h
 rename_i v l5 h5
 have g5 := TokG.sub g4 (rdVal_sub h5)
 cases h
 exact ⟨ins_ok0 0 ⟨d, a, 0, rdReg_le h1, rdReg_le h3, by omega, rfl, rfl, rfl⟩, rdVal_good g4 h5⟩
theorem ins3_good {op : Nat} {l0 l : List Tok} {x : Ins × Val} (hg : TokG l0) (h : ins3 op l0 = some (x, l)) : InsOk x.1 ∧ VGood x.2 := by
 unfold ins3 at h
 split at h
 · cases h
 rename_i a l1 h1
 have g1 := TokG.sub hg (rdReg_sub h1)
 split at h
 · cases h
 rename_i l2 h2
 have g2 := TokG.sub g1 (rdSign_sub h2)
 split at h
 · cases h
 rename_i b l3 h3
 have g3 := TokG.sub g2 (rdReg_sub h3)
 split at h
 · cases h
 rename_i l4 h4
 have g4 := TokG.sub g3 (rdSign_sub h4)
 split at h
 · cases h
 rename_i v l5 h5
 have g5 := TokG.sub g4 (rdVal_sub h5)
 cases h
 exact ⟨ins_ok0 0 ⟨0, a, b, by omega, rdReg_le h1, rdReg_le h3, rfl, rfl, rfl⟩, rdVal_good g4 h5⟩
theorem ins4_good {op : Nat} {l0 l : List Tok} {x : Ins × Val} (hg : TokG l0) (h : ins4 op l0 = some (x, l)) : InsOk x.1 ∧ VGood x.2 := by
 unfold ins4 at h
 split at h
 · cases h
 rename_i d l1 h1
 have g1 := TokG.sub hg (rdReg_sub h1)
 split at h
 · cases h
 rename_i l2 h2
 have g2 := TokG.sub g1 (rdSign_sub h2)
 split at h
 · cases h
 rename_i v l3 h3
 have g3 := TokG.sub g2 (rdVal_sub h3)
 cases h
 exact ⟨ins_ok0 0 ⟨d, 0, 0, rdReg_le h1, by omega, by omega, rfl, rfl, rfl⟩, rdVal_good g2 h3⟩
theorem ins5_good {op : Nat} {l0 l : List Tok} {x : Ins × Val} (hg : TokG l0) (h : ins5 op l0 = some (x, l)) : InsOk x.1 ∧ VGood x.2 := by
 unfold ins5 at h
 split at h
 · cases h
 rename_i d l1 h1
 have g1 := TokG.sub hg (rdReg_sub h1)
 cases h
 exact ⟨ins_ok0 0 ⟨d, 0, 0, rdReg_le h1, by omega, by omega, rfl, rfl, rfl⟩, zero_val⟩
theorem ins6_good {op : Nat} {l0 l : List Tok} {x : Ins × Val} (hg : TokG l0) (h : ins6 op l0 = some (x, l)) : InsOk x.1 ∧ VGood x.2 := by
 unfold ins6 at h
 split at h
 · cases h
 rename_i a l1 h1
 have g1 := TokG.sub hg (rdReg_sub h1)
 cases h
 exact ⟨ins_ok0 0 ⟨0, a, 0, by omega, rdReg_le h1, by omega, rfl, rfl, rfl⟩, zero_val⟩
theorem ins7_good {op : Nat} {l0 l : List Tok} {x : Ins × Val} (hg : TokG l0) (h : ins7 op l0 = some (x, l)) : InsOk x.1 ∧ VGood x.2 := by
 unfold ins7 at h
 split at h
 · cases h
 rename_i v l1 h1
 have g1 := TokG.sub hg (rdVal_sub h1)
 cases h
 exact ⟨ins_ok0 0 ⟨0, 0, 0, by omega, by omega, by omega, rfl, rfl, rfl⟩, rdVal_good hg h1⟩
theorem ins8_good {op : Nat} {l0 l : List Tok} {x : Ins × Val} (hg : TokG l0) (h : ins8 op l0 = some (x, l)) : InsOk x.1 ∧ VGood x.2 := by
 unfold ins8 at h
 cases h
 exact ⟨ins_ok0 0 ⟨0, 0, 0, by omega, by omega, by omega, rfl, rfl, rfl⟩, zero_val⟩
theorem ins9_good {op : Nat} {l0 l : List Tok} {x : Ins × Val} (hg : TokG l0) (h : ins9 op l0 = some (x, l)) : InsOk x.1 ∧ VGood x.2 := by
 unfold ins9 at h
 split at h
 · cases h
 rename_i d l1 h1
 have g1 := TokG.sub hg (rdReg_sub h1)
 split at h
 · cases h
 rename_i l2 h2
 have g2 := TokG.sub g1 (rdSign_sub h2)
 split at h
 · cases h
 rename_i v l3 h3
 have g3 := TokG.sub g2 (rdVal_sub h3)
 split at h
 · cases h
 rename_i l4 h4
 have g4 := TokG.sub g3 (rdSign_sub h4)
 split at h
 · cases h
 rename_i a l5 h5
 have g5 := TokG.sub g4 (rdReg_sub h5)
 split at h
 · cases h
 rename_i l6 h6
 have g6 := TokG.sub g5 (rdSign_sub h6)
 cases h
 exact ⟨ins_ok0 0 ⟨d, a, 0, rdReg_le h1, rdReg_le h5, by omega, rfl, rfl, rfl⟩, rdVal_good g2 h3⟩
theorem ins10_good {op : Nat} {l0 l : List Tok} {x : Ins × Val} (hg : TokG l0) (h : ins10 op l0 = some (x, l)) : InsOk x.1 ∧ VGood x.2 := by
 unfold ins10 at h
 split at h
 · cases h
 rename_i b l1 h1
 have g1 := TokG.sub hg (rdReg_sub h1)
 split at h
 · cases h
 rename_i l2 h2
 have g2 := TokG.sub g1 (rdSign_sub h2)
 split at h
 · cases h
 rename_i v l3 h3
 have g3 := TokG.sub g2 (rdVal_sub h3)
 split at h
 · cases h
 rename_i l4 h4
 have g4 := TokG.sub g3 (rdSign_sub h4)
 split at h
 · cases h
 rename_i a l5 h5
 have g5 := TokG.sub g4 (rdReg_sub h5)
 split at h
 · cases h
 rename_i l6 h6
 have g6 := TokG.sub g5 (rdSign_sub h6)
 cases h
 exact ⟨ins_ok0 0 ⟨0, a, b, by omega, rdReg_le h5, rdReg_le h1, rfl, rfl, rfl⟩, rdVal_good g2 h3⟩
theorem insParse_good {op : Nat} {l0 l : List Tok} {x : Ins × Val} (hg : TokG l0) (h : insParse op l0 = some (x, l)) : InsOk x.1 ∧ VGood x.2 := by
 unfold insParse at h
 split at h
 · split at h
   · exact ins10_good hg h
   · exact ins9_good hg h
 · split at h
   · exact ins1_good hg h
   · exact ins2_good hg h
   · exact ins3_good hg h
   · exact ins4_good hg h
   · exact ins5_good hg h
   · exact ins6_good hg h
   · exact ins7_good hg h
   · exact ins8_good hg h
   · cases h
theorem rdVals_good : ∀ (m : Nat) (acc : List Val) (l : List Tok) (vs : List Val) (l' : List Tok), TokG l → (∀ v ∈ acc, VGood v) → acc ≠ [] → rdVals m acc l = some (vs, l') → (∀ v ∈ vs, VGood v) ∧ vs ≠ [] ∧ vs.length ≤ acc.length + l.length
 | 0, acc, l, vs, l', hg, ha, hn, h => by rw [rdVals] at h; cases h; exact ⟨ha, hn, by omega⟩
 | m + 1, acc, l, vs, l', hg, ha, hn, h => by
   rw [rdVals] at h
   cases h1 : rdSign 44 l with
   | none => rw [h1] at h; cases h; exact ⟨ha, hn, by omega⟩
   | some l1 =>
     rw [h1] at h
     dsimp only at h
     have hs1 := rdSign_sub h1
     have g1 := hg.sub hs1
     cases h2 : rdVal l1 with
     | none => rw [h2] at h; cases h
     | some p =>
       obtain ⟨v, l2⟩ := p
       rw [h2] at h
       dsimp only at h
       have hs2 := rdVal_sub h2
       have ih := rdVals_good m (acc ++ [v]) l2 vs l' (g1.sub hs2) (fun u hu => by
        rcases List.mem_append.1 hu with hu | hu
        · exact ha u hu
        · simp at hu; subst hu; exact rdVal_good g1 h2) (by simp) h
       refine ⟨ih.1, ih.2.1, ?_⟩
       obtain ⟨t, ht⟩ := hs1
       obtain ⟨u, hu⟩ := hs2
       have h3 := ih.2.2
       rw [ht, hu]
       rw [List.length_append] at h3
       simp only [List.length_cons, List.length_nil] at h3 ⊢
       omega
theorem markR_nil {S : PS} (h : S.fresh = []) : markR S = .ok S := by
 obtain ⟨line, toks, origin, placed, count, pieces, labels, places, puts, fresh⟩ := S
 dsimp only at h
 subst h
 unfold markR
 have e : ∀ S : PS, markGo S [] = some S := fun _ => rfl
 rw [e]
 dsimp only
 rw [if_neg (by simp)]
theorem otherR_stmt {S T : PS} {what : List UInt8} (hc : Core S) (hg : TokG S.toks) (hl : S.toks.length ≤ 100000) (h : otherR what S = .ok T) : Stmt S T := by
 unfold otherR at h
 split at h
 · unfold liR at h
   cases hq : liP S.toks with
   | none => rw [hq] at h; cases h
   | some p =>
     obtain ⟨x, l⟩ := p
     rw [hq] at h
     unfold liP at hq
     split at hq
     · cases hq
     · rename_i d l1 h1
       split at hq
       · cases hq
       · rename_i l2 h2
         split at hq
         · cases hq
         · rename_i v l3 h3
           cases hq
           have g2 := (hg.sub (rdReg_sub h1)).sub (rdSign_sub h2)
           exact Stmt.put h ⟨rdVal_good g2 h3, by show 0 ≤ (d : Int); omega, by show (d : Int) ≤ 15; have := rdReg_le h1; omega⟩ rfl
 split at h
 · refine insR_stmt hc (fun x l hq => ?_) h
   unfold mvP at hq
   split at hq
   · cases hq
   · rename_i d l1 h1
     split at hq
     · cases hq
     · rename_i l2 h2
       split at hq
       · cases hq
       · rename_i a l3 h3
         cases hq
         exact ⟨ins_ok0 0 ⟨d, a, 0, rdReg_le h1, rdReg_le h3, by omega, rfl, rfl, rfl⟩, zero_val⟩
 have jcase : ∀ d : Nat, d ≤ 15 → jR d S = .ok T → Stmt S T := fun d hd hj => by
  unfold jR at hj
  cases hq : rdVal S.toks with
  | none => rw [hq] at hj; cases hj
  | some p =>
    obtain ⟨v, l⟩ := p
    rw [hq] at hj
    exact Stmt.put hj ⟨ins_ok0 0 ⟨d, 0, 0, hd, by omega, by omega, rfl, rfl, rfl⟩, rdVal_good hg hq, pos_range hc⟩ rfl
 split at h
 · exact jcase 0 (by omega) h
 split at h
 · exact jcase 15 (by omega) h
 split at h
 · unfold retR at h
   exact Stmt.put (l := S.toks) h ⟨ins_ok0 0 ⟨0, 15, 0, by omega, by omega, by omega, rfl, rfl, rfl⟩, zero_val, pos_range hc⟩ rfl
 split at h
 · unfold orgR at h
   cases hq : rdNext 1 S.toks with
   | none => rw [hq] at h; cases h
   | some p =>
     obtain ⟨t, l⟩ := p
     rw [hq] at h
     dsimp only at h
     split at h
     · cases h
     · split at h
       · cases h
       · rename_i hp
         split at h
         · cases h
         · rename_i hr
           injection h with h
           refine .inr (.inl ⟨by cases hb : S.placed with
            | false => rfl
            | true => exact absurd (.inl hb) hp, ?_, t.n, by omega, by omega, by omega, h.symm⟩)
           exact Classical.byContradiction fun hf => hp (.inr hf)
 split at h
 · unfold wordR at h
   cases hq : wordP S.toks with
   | none => rw [hq] at h; cases h
   | some p =>
     obtain ⟨vs, l⟩ := p
     rw [hq] at h
     unfold wordP at hq
     split at hq
     · cases hq
     · rename_i v l1 h1
       have hs := rdVal_sub h1
       obtain ⟨a, b, c⟩ := rdVals_good _ [v] l1 vs l (hg.sub hs) (fun u hu => by simp at hu; subst hu; exact rdVal_good hg h1) (by simp) hq
       obtain ⟨t, ht⟩ := hs
       rw [ht] at hl
       simp only [List.length_cons, List.length_nil] at hl c
       exact Stmt.put h ⟨b, by omega, a⟩ rfl
 split at h
 · unfold zeroR at h
   cases hq : rdNext 1 S.toks with
   | none => rw [hq] at h; cases h
   | some p =>
     obtain ⟨t, l⟩ := p
     rw [hq] at h
     dsimp only at h
     split at h
     · cases h
     · rename_i hl0
       have hl1 : l = [] := by simpa using hl0
       subst hl1
       cases hm : markR { S with toks := [] } with
       | error e => rw [hm] at h; cases h
       | ok U =>
         rw [hm] at h
         dsimp only at h
         split at h
         · cases h
         · rename_i hr
           obtain ⟨_, V, hv, rfl, hc1, hc2⟩ := putR_ok h
           have hU : U.fresh = [] := (markR_same hm).2.2.2.2.2.1
           rw [markR_nil hU] at hv
           injection hv with hv
           subst hv
           refine .inl ⟨⟨S.line, S.pos, ⟨0, 0, 0, 0, 0⟩, ⟨[], t.n⟩, .zero⟩, t.n.toNat, ?_, (show 0 ≤ t.n ∧ t.n ≤ 4096 from ⟨by omega, by omega⟩), rfl, rfl⟩
           unfold putR
           rw [if_neg (by simp), hm]
           dsimp only
           show (if 4096 < U.count + t.n.toNat ∨ 4294967296 < U.origin + 4 * ((U.count + t.n.toNat : Nat) : Int) then _ else _) = _
           rw [if_neg (by omega)]
 · cases h
theorem restR_stmt {S T : PS} (hc : Core S) (hg : TokG S.toks) (hl : S.toks.length ≤ 100000) (h : restR S = .ok T) : Stmt S T := by
 unfold restR at h
 split at h
 · rename_i ht
   refine .inr (.inr ?_)
   rw [← h, ← ht]
 · cases hq : rdNext 0 S.toks with
   | none => rw [hq] at h; cases h
   | some p =>
     obtain ⟨t, l⟩ := p
     rw [hq] at h
     dsimp only at h
     have hsub : ∃ u, S.toks = u :: l := by
      cases hS : S.toks with
      | nil => rw [hS] at hq; cases hq
      | cons u us =>
        rw [hS, rdNext] at hq
        split at hq
        · cases hq; exact ⟨_, rfl⟩
        · cases hq
     have hg2 := hg.sub hsub
     have hl2 : l.length ≤ 100000 := by obtain ⟨u, hu⟩ := hsub; rw [hu] at hl; simp only [List.length_cons] at hl; omega
     have hc2 : Core { S with toks := l } := ⟨hc.o0, hc.o1, hc.o4, hc.pos, hc.c, hc.isMap, hc.plok, hc.names, hc.lab, hc.asc, hc.nd, hc.pieces, hc.cnt, hc.unpl⟩
     unfold stmtR at h
     have hst : Stmt { S with toks := l } T := by
      split at h
      · exact insR_stmt hc2 (fun x l' hq2 => insParse_good hg2 hq2) h
      · exact otherR_stmt hc2 hg2 hl2 h
     rcases hst with h1 | h1 | h1
     · exact .inl h1
     · exact .inr (.inl h1)
     · exact .inr (.inr h1)
end Asm
end Go.Proofs.YtabmlbnnhhpaoaaGreatDoor
namespace Go.Proofs.YtabmlbnnhhpaoaaGreatDoor
open Go.RowKit Go.Shelf
namespace Asm
structure Inv (S : PS) (n : Nat) : Prop where
 core : Core S
 bnd : Bnd3 S n
 toks : S.toks = []
 lns : ∀ x ∈ S.pieces, 0 ≤ x.line ∧ x.line ≤ S.line
theorem Inv.le {S : PS} {n m : Nat} (h : Inv S n) (hm : m ≤ n) : Inv S m :=
 ⟨h.core, ⟨h.bnd.o0, h.bnd.pos, h.bnd.c, by have := h.bnd.puts; omega, by have := h.bnd.labels; omega, by have := h.bnd.pieces; omega, h.bnd.line0, by have := h.bnd.line1; omega, h.bnd.fresh⟩, h.toks, h.lns⟩
theorem lab_good : ∀ (n : Nat) (fr : List (List UInt8)) (l : List Tok) (fr' : List (List UInt8)) (l' : List Tok), lab n fr l = some (fr', l') → TokG l → (∀ x ∈ fr, nameOk x = true) → TokG l' ∧ l'.length ≤ l.length ∧ ∀ x ∈ fr', nameOk x = true
 | 0, fr, l, fr', l', h, hb, hf => by simp [lab] at h; obtain ⟨rfl, rfl⟩ := h; exact ⟨hb, Nat.le_refl _, hf⟩
 | n + 1, fr, [], fr', l', h, hb, hf => by simp [lab] at h; obtain ⟨rfl, rfl⟩ := h; exact ⟨hb, Nat.le_refl _, hf⟩
 | n + 1, fr, [t], fr', l', h, hb, hf => by simp [lab] at h; obtain ⟨rfl, rfl⟩ := h; exact ⟨hb, Nat.le_refl _, hf⟩
 | n + 1, fr, t :: u :: ts, fr', l', h, hb, hf => by
   rw [lab] at h
   split at h
   · split at h
     · rename_i hok
       have ih := lab_good n _ ts fr' l' h (fun x hx => hb x (by simp [hx])) (fun x hx => by
        rcases List.mem_append.1 hx with hx | hx
        · exact hf x hx
        · simp at hx; subst hx; exact hok)
       refine ⟨ih.1, ?_, ih.2.2⟩
       have := ih.2.1
       simp only [List.length_cons]
       omega
     · cases h
   · cases h; exact ⟨hb, Nat.le_refl _, hf⟩
theorem oneR_inv {S T : PS} {s : List UInt8} {n : Nat} (h : Inv S (n + (s.length + 1))) (hs : s.length ≤ 100000) (ho : oneR S s = .ok T) : Inv T n ∧ T.line = S.line + 1 := by
 unfold oneR at ho
 cases ht : tokens s with
 | none => rw [ht] at ho; cases ho
 | some l =>
   rw [ht] at ho
   dsimp only at ho
   cases hl : lab (l.length + 1) [] l with
   | none => rw [hl] at ho; cases ho
   | some p =>
     obtain ⟨fr, l1⟩ := p
     rw [hl] at ho
     dsimp only at ho
     have hg := tokens_good hs ht
     obtain ⟨g1, g2, g3⟩ := lab_good _ _ _ _ _ hl hg (by simp)
     have hfl := (lab_len _ _ _ _ _ hl hg.b (by simp)).1
     have htl := (tokens_len ht).1
     have hfs : fr.length ≤ s.length := by simp only [List.length_nil] at hfl; omega
     have hc := h.core
     have hc1 : Core { S with line := S.line + 1, toks := l1, fresh := fr } := ⟨hc.o0, hc.o1, hc.o4, hc.pos, hc.c, hc.isMap, hc.plok, hc.names, hc.lab, hc.asc, hc.nd, hc.pieces, hc.cnt, hc.unpl⟩
     have hc2 : Core { S with line := S.line + 1, toks := [], fresh := fr } := ⟨hc.o0, hc.o1, hc.o4, hc.pos, hc.c, hc.isMap, hc.plok, hc.names, hc.lab, hc.asc, hc.nd, hc.pieces, hc.cnt, hc.unpl⟩
     have b1 := h.bnd.puts
     have b2 := h.bnd.labels
     have b3 := h.bnd.pieces
     have b4 := h.bnd.line0
     have b5 := h.bnd.line1
     rcases restR_stmt hc1 g1 (by show l1.length ≤ _; omega) ho with ⟨x, k, hp, hgx, hk, hxl⟩ | ⟨hpl, hfr, o, ho0, ho1, ho4, rfl⟩ | hm
     · have hp' : putR { S with line := S.line + 1, toks := [], fresh := fr } x k = .ok T := hp
       have a := putR_core hc2 g3 hgx hk hp'
       obtain ⟨_, U, hm, rfl, q1, q2⟩ := putR_ok hp'
       obtain ⟨m1, m2, m3, m4, m5, m6, m7, m8⟩ := markR_same hm
       dsimp only at m1 m2 m5 m7 m8
       refine ⟨⟨a, ⟨a.o0, a.pos, a.c, by show U.puts + n < _; omega, by show U.labels.length + n < _; omega, ?_, by show 0 ≤ U.line; omega, by show U.line + n < _; omega, m6⟩, m2, ?_⟩, m1⟩
       rotate_left
       · intro y hy
         have hy' : y ∈ U.pieces ++ [x] := hy
         rw [m5] at hy'
         show 0 ≤ y.line ∧ y.line ≤ U.line
         rcases List.mem_append.1 hy' with hy' | hy'
         · have := h.lns y hy'; omega
         · simp at hy'; subst hy'; dsimp only at hxl; omega
       show (U.pieces ++ [x]).length + n < _
       rw [List.length_append, m5]
       simp only [List.length_cons, List.length_nil]
       omega
     · dsimp only at hpl hfr
       subst hfr
       obtain ⟨e1, e2⟩ := hc.unpl hpl
       refine ⟨⟨⟨ho0, ho1, ho4, ?_, hc.c, hc.isMap, hc.plok, hc.names, ?_, hc.asc, hc.nd, hc.pieces, hc.cnt, fun e => by cases e⟩, ⟨ho0, ?_, hc.c, by show S.puts + n < _; omega, by show S.labels.length + n < _; omega, by show S.pieces.length + n < _; omega, by show 0 ≤ S.line + 1; omega, by show S.line + 1 + n < _; omega, rfl⟩, rfl, fun y hy => by have := h.lns y hy; show 0 ≤ y.line ∧ y.line ≤ S.line + 1; omega⟩, rfl⟩
       · show o + 4 * (S.count : Int) ≤ _; rw [e2]; omega
       · intro x hx
         have hx' : x ∈ S.labels := hx
         rw [e1] at hx'
         cases hx'
       · show o + 4 * (S.count : Int) ≤ _; rw [e2]; omega
     · have hm' : markR { S with line := S.line + 1, toks := [], fresh := fr } = .ok T := hm
       have a := markR_core hc2 g3 hm'
       obtain ⟨m1, m2, m3, m4, m5, m6, m7, m8⟩ := markR_same hm'
       dsimp only at m1 m2 m5 m7 m8
       exact ⟨⟨a, ⟨a.o0, a.pos, a.c, by omega, by omega, by rw [m5]; omega, by omega, by omega, m6⟩, m2, fun y hy => by rw [m5] at hy; have := h.lns y hy; omega⟩, m1⟩
theorem linesR_inv : ∀ (ls : List (List UInt8)) {S T : PS} {n : Nat}, Inv S (n + (ls.map fun l => l.length + 1).sum) → (∀ l ∈ ls, l.length ≤ 100000) → linesR S ls = .ok T → Inv T n
 | [], S, T, n, h, _, hl => by rw [linesR] at hl; cases hl; exact h
 | s :: ls, S, T, n, h, hs, hl => by
   rw [linesR] at hl
   cases h1 : oneR S s with
   | error e => rw [h1] at hl; cases hl
   | ok U =>
     rw [h1] at hl
     simp only [List.map_cons, List.sum_cons] at h
     have h2 := (oneR_inv (n := n + (ls.map fun l => l.length + 1).sum) (h.le (by omega)) (hs s (by simp)) h1).1
     exact linesR_inv ls h2 (fun l hl => hs l (by simp [hl])) hl
theorem linesR_line : ∀ (ls : List (List UInt8)) {S T : PS} {n : Nat}, Inv S (n + (ls.map fun l => l.length + 1).sum) → (∀ l ∈ ls, l.length ≤ 100000) → linesR S ls = .ok T → T.line = S.line + ls.length
 | [], S, T, n, h, _, hl => by rw [linesR] at hl; cases hl; simp
 | s :: ls, S, T, n, h, hs, hl => by
   rw [linesR] at hl
   cases h1 : oneR S s with
   | error e => rw [h1] at hl; cases hl
   | ok U =>
     rw [h1] at hl
     simp only [List.map_cons, List.sum_cons] at h
     have h2 := oneR_inv (n := n + (ls.map fun l => l.length + 1).sum) (h.le (by omega)) (hs s (by simp)) h1
     have h3 := linesR_line ls h2.1 (fun l hl => hs l (by simp [hl])) hl
     rw [h3, h2.2, List.length_cons]
     push_cast
     omega
theorem markR_err {S : PS} {e : Int} (h : markR S = .error e) : e ≠ 0 := by
 unfold markR at h
 split at h
 · injection h with h; omega
 · split at h
   · injection h with h; omega
   · cases h
theorem putR_err {S : PS} {x : Piece} {n : Nat} {e : Int} (h : putR S x n = .error e) : e ≠ 0 := by
 unfold putR at h
 split at h
 · injection h with h; omega
 · split at h
   · rename_i hm
     injection h with h
     subst h
     exact markR_err hm
   · split at h
     · injection h with h; omega
     · cases h
theorem insR_err {I : Option ((Ins × Val) × List Tok)} {S : PS} {e : Int} (h : insR I S = .error e) : e ≠ 0 := by
 unfold insR at h
 split at h
 · injection h with h; omega
 · exact putR_err h
theorem jR_err {d : Nat} {S : PS} {e : Int} (h : jR d S = .error e) : e ≠ 0 := by
 unfold jR at h
 split at h
 · injection h with h; omega
 · exact putR_err h
theorem otherR_err {what : List UInt8} {S : PS} {e : Int} (h : otherR what S = .error e) : e ≠ 0 := by
 unfold otherR at h
 split at h
 · unfold liR at h
   split at h
   · injection h with h; omega
   · exact putR_err h
 split at h
 · exact insR_err h
 split at h
 · exact jR_err h
 split at h
 · exact jR_err h
 split at h
 · exact putR_err h
 split at h
 · unfold orgR at h
   split at h
   · injection h with h; omega
   · split at h
     · injection h with h; omega
     · split at h
       · injection h with h; omega
       · split at h
         · injection h with h; omega
         · cases h
 split at h
 · unfold wordR at h
   split at h
   · injection h with h; omega
   · exact putR_err h
 split at h
 · unfold zeroR at h
   split at h
   · injection h with h; omega
   · split at h
     · injection h with h; omega
     · split at h
       · rename_i hm
         injection h with h
         subst h
         exact markR_err hm
       · split at h
         · injection h with h; omega
         · exact putR_err h
 · injection h with h; omega
theorem oneR_err {S : PS} {s : List UInt8} {e : Int} (h : oneR S s = .error e) : e ≠ 0 := by
 unfold oneR at h
 split at h
 · injection h with h; omega
 · split at h
   · injection h with h; omega
   · unfold restR at h
     split at h
     · exact markR_err h
     · split at h
       · injection h with h; omega
       · unfold stmtR at h
         split at h
         · exact insR_err h
         · exact otherR_err h
theorem fullR_err {S : PS} {v : Val} {e : Int} (h : fullR S v = .error e) : e ≠ 0 := by
 unfold fullR at h
 split at h
 · injection h with h; omega
 · split at h
   · injection h with h; omega
   · cases h
theorem wordsR_err {S : PS} : ∀ {l : List Val} {e : Int}, wordsR S l = .error e → e ≠ 0
 | [], e, h => by rw [wordsR] at h; cases h
 | v :: l, e, h => by
   rw [wordsR] at h
   split at h
   · rename_i h1
     injection h with h
     subst h
     exact fullR_err h1
   · split at h
     · rename_i h2
       injection h with h
       subst h
       exact wordsR_err h2
     · cases h
theorem pieceR_err {S : PS} {x : Piece} {e : Int} (h : pieceR S x = .error e) : e ≠ 0 := by
 unfold pieceR at h
 split at h
 · unfold encR at h
   split at h
   · injection h with h; omega
   · split at h
     · injection h with h; omega
     · cases h
 · exact wordsR_err h
 · split at h
   · rename_i h1
     injection h with h
     subst h
     exact fullR_err h1
   · cases h
 · cases h
theorem piecesR_err {S : PS} : ∀ {l : List Piece} {e line : Int}, piecesR S l = .error (e, line) → e ≠ 0 ∧ ∃ x ∈ l, line = x.line
 | [], e, line, h => by rw [piecesR] at h; cases h
 | x :: l, e, line, h => by
   rw [piecesR] at h
   split at h
   · rename_i h1
     injection h with h
     obtain ⟨rfl, rfl⟩ := Prod.mk.inj h
     exact ⟨pieceR_err h1, x, by simp, rfl⟩
   · split at h
     · rename_i h2
       injection h with h
       subst h
       obtain ⟨a, y, hy, b⟩ := piecesR_err h2
       exact ⟨a, y, by simp [hy], b⟩
     · cases h
theorem linesR_err : ∀ (ls : List (List UInt8)) {S : PS} {e line : Int}, Inv S ((ls.map fun l => l.length + 1).sum) → (∀ l ∈ ls, l.length ≤ 100000) → linesR S ls = .error (e, line) → e ≠ 0 ∧ S.line + 1 ≤ line ∧ line ≤ S.line + ls.length
 | [], S, e, line, h, _, hl => by rw [linesR] at hl; cases hl
 | s :: ls, S, e, line, h, hs, hl => by
   rw [linesR] at hl
   cases h1 : oneR S s with
   | error er =>
     rw [h1] at hl
     injection hl with hl
     obtain ⟨rfl, rfl⟩ := Prod.mk.inj hl
     refine ⟨oneR_err h1, Int.le_refl _, ?_⟩
     rw [List.length_cons]
     push_cast
     omega
   | ok U =>
     rw [h1] at hl
     simp only [List.map_cons, List.sum_cons] at h
     have h2 := oneR_inv (n := (ls.map fun l => l.length + 1).sum) (h.le (by omega)) (hs s (by simp)) h1
     obtain ⟨a, b, c⟩ := linesR_err ls h2.1 (fun l hl => hs l (by simp [hl])) hl
     refine ⟨a, by omega, ?_⟩
     rw [List.length_cons]
     push_cast
     omega
theorem lines_sum : ∀ s : List UInt8, ((lines s).map fun l => l.length + 1).sum = s.length + 1
 | [] => rfl
 | c :: s => by
   have ih := lines_sum s
   unfold lines
   split
   · simp only [List.map_cons, List.sum_cons, List.length_nil, List.length_cons]; omega
   · cases h : lines s with
     | nil => exact absurd h (lines_ne s)
     | cons a b =>
       rw [h] at ih
       simp only [List.map_cons, List.sum_cons, List.length_cons] at ih ⊢
       omega
theorem start_inv : Inv start 900000 :=
 ⟨⟨by decide, by decide, by decide, by decide, by decide, ⟨_, rfl⟩, fun _ => ⟨by show (0 : Int) ≤ 0; decide, by show (0 : Int) ≤ 4294967296; decide⟩, by simp [start], by simp [start], by simp [start], by simp [start], by simp [start], by simp [start], fun _ => ⟨rfl, rfl⟩⟩, ⟨by decide, by decide, by decide, by decide, by decide, by decide, by decide, by decide, rfl⟩, rfl, by simp [start]⟩
theorem le_sum : ∀ (l : List Nat), ∀ a ∈ l, a ≤ l.sum
 | [], _, h => by cases h
 | b :: l, a, h => by
   rw [List.sum_cons]
   rcases List.mem_cons.1 h with rfl | h
   · omega
   · have := le_sum l a h; omega
theorem mem_lines {src : List UInt8} (h : src.length ≤ 20000) {l : List UInt8} (hl : l ∈ lines src) : l.length ≤ 20000 := by
 have h1 := lines_sum src
 have h2 : l.length + 1 ≤ ((lines src).map fun l => l.length + 1).sum := le_sum _ _ (List.mem_map.2 ⟨l, hl, rfl⟩)
 omega
theorem sane {src : List UInt8} (h : src.length ≤ 20000) : Sane src := by
 have hsum := lines_sum src
 refine ⟨fun pre x hpre S hS => ?_, fun S hS => ?_⟩
 · obtain ⟨r, hr⟩ := hpre
   have hmem : ∀ l ∈ pre, l.length ≤ 100000 := fun l hl => by
    have := mem_lines h (l := l) (by rw [← hr]; simp [hl])
    omega
   have hx := mem_lines h (l := x) (by rw [← hr]; simp)
   have hle : (pre.map fun l => l.length + 1).sum + (x.length + 1) ≤ src.length + 1 := by
    rw [← hsum, ← hr]
    simp only [List.map_append, List.sum_append, List.map_cons, List.sum_cons, List.map_nil, List.sum_nil]
    omega
   have hi := linesR_inv pre (n := x.length + 1) (start_inv.le (by omega)) hmem hS
   exact ⟨hi.bnd, by omega⟩
 · have hi := linesR_inv (lines src) (n := 0) (start_inv.le (by omega)) (fun l hl => by have := mem_lines h hl; omega) hS
   have hb := hi.bnd
   have hc := hi.core
   exact ⟨hi.toks, ⟨hc.o0, by have := hc.o1; omega, by have := hc.c; omega, by have := hb.puts; omega, by have := hb.labels; omega, by have := hb.pieces; omega, hb.line0, by have := hb.line1; omega⟩, hc.plok, hc.pieces⟩
theorem enc_range (op d a b imm : Int) (hd : 0 ≤ d ∧ d ≤ 255) (ha : 0 ≤ a ∧ a ≤ 255) (hb : 0 ≤ b ∧ b ≤ 255) : 0 ≤ (Isa.enc op d a b imm).1 ∧ (Isa.enc op d a b imm).1 < 4294967296 := by
 unfold Isa.enc
 split
 · exact ⟨by decide, by decide⟩
 · rename_i hop
   obtain ⟨n, rfl⟩ : ∃ n : Nat, op = n := ⟨op.toNat, by omega⟩
   have hn : n < 49 := by omega
   have hf := (Isa.table_facts ⟨n, hn⟩).2.2
   rw [Int.toNat_natCast]
   obtain ⟨f, hfe⟩ : ∃ f, Isa.formOf n = f := ⟨_, rfl⟩
   have hf8 : f < 9 := hfe ▸ (show Isa.formOf n < 9 from hf.1)
   have hf1 : 1 ≤ f := hfe ▸ (show 1 ≤ Isa.formOf n from hf.2.1 (by show 1 ≤ n; omega))
   rw [hfe]
   unfold Isa.encF
   split
   · exact ⟨by decide, by decide⟩
   · rename_i hbad
     split
     · dsimp only
       clear hf hfe
       match f, hf1, hf8 with
       | 1, _, _ => (simp only [Isa.wordF, Isa.place, Isa.atD, Isa.atA, Isa.atB, Isa.bits, Isa.badAt, Isa.layD, Isa.layA, Isa.layB, Isa.layN] at hbad ⊢; simp at hbad ⊢; omega)
       | 2, _, _ => (simp only [Isa.wordF, Isa.place, Isa.atD, Isa.atA, Isa.atB, Isa.bits, Isa.badAt, Isa.layD, Isa.layA, Isa.layB, Isa.layN] at hbad ⊢; simp at hbad ⊢; omega)
       | 3, _, _ => (simp only [Isa.wordF, Isa.place, Isa.atD, Isa.atA, Isa.atB, Isa.bits, Isa.badAt, Isa.layD, Isa.layA, Isa.layB, Isa.layN] at hbad ⊢; simp at hbad ⊢; omega)
       | 4, _, _ => (simp only [Isa.wordF, Isa.place, Isa.atD, Isa.atA, Isa.atB, Isa.bits, Isa.badAt, Isa.layD, Isa.layA, Isa.layB, Isa.layN] at hbad ⊢; simp at hbad ⊢; omega)
       | 5, _, _ => (simp only [Isa.wordF, Isa.place, Isa.atD, Isa.atA, Isa.atB, Isa.bits, Isa.badAt, Isa.layD, Isa.layA, Isa.layB, Isa.layN] at hbad ⊢; simp at hbad ⊢; omega)
       | 6, _, _ => (simp only [Isa.wordF, Isa.place, Isa.atD, Isa.atA, Isa.atB, Isa.bits, Isa.badAt, Isa.layD, Isa.layA, Isa.layB, Isa.layN] at hbad ⊢; simp at hbad ⊢; omega)
       | 7, _, _ => (simp only [Isa.wordF, Isa.place, Isa.atD, Isa.atA, Isa.atB, Isa.bits, Isa.badAt, Isa.layD, Isa.layA, Isa.layB, Isa.layN] at hbad ⊢; simp at hbad ⊢; omega)
       | 8, _, _ => (simp only [Isa.wordF, Isa.place, Isa.atD, Isa.atA, Isa.atB, Isa.bits, Isa.badAt, Isa.layD, Isa.layA, Isa.layB, Isa.layN] at hbad ⊢; simp at hbad ⊢; omega)
     · exact ⟨by decide, by decide⟩
theorem pieceR_range {S : PS} {x : Piece} {ws : List Int} (hg : PGood x) (h : pieceR S x = .ok ws) : ∀ n ∈ ws, 0 ≤ n ∧ n < 4294967296 := by
 rw [pieceR_words hg h]
 unfold wordsOf
 unfold PGood at hg
 cases hq : x.kind with
 | enc =>
   rw [hq] at hg
   intro n hn
   simp at hn
   subst hn
   exact enc_range _ _ _ _ _ hg.1.d hg.1.a hg.1.b
 | word l =>
   intro n hn
   obtain ⟨v, _, rfl⟩ := List.mem_map.1 hn
   omega
 | li =>
   rw [hq] at hg
   intro n hn
   have hd := hg.2
   simp only [List.mem_cons, List.not_mem_nil, or_false] at hn
   rcases hn with rfl | rfl
   · exact enc_range _ _ _ _ _ (by omega) (by omega) (by omega)
   · exact enc_range _ _ _ _ _ (by omega) (by omega) (by omega)
 | zero =>
   intro n hn
   have := (List.mem_replicate.1 hn).2
   omega
theorem piecesR_ok {S : PS} : ∀ {l : List Piece} {ws : List Int}, (∀ x ∈ l, PGood x) → piecesR S l = .ok ws → (∀ n ∈ ws, 0 ≤ n ∧ n < 4294967296) ∧ ws.length = (l.map psize).sum
 | [], ws, _, h => by rw [piecesR] at h; injection h with h; subst h; simp
 | x :: l, ws, hg, h => by
   rw [piecesR] at h
   cases h1 : pieceR S x with
   | error e => rw [h1] at h; cases h
   | ok w1 =>
     rw [h1] at h
     dsimp only at h
     cases h2 : piecesR S l with
     | error e => rw [h2] at h; cases h
     | ok w2 =>
       rw [h2] at h
       injection h with h
       subst h
       have hgx := hg x (by simp)
       obtain ⟨a, b⟩ := piecesR_ok (fun y hy => hg y (by simp [hy])) h2
       refine ⟨fun n hn => ?_, ?_⟩
       · rcases List.mem_append.1 hn with hn | hn
         · exact pieceR_range hgx h1 n hn
         · exact a n hn
       · rw [List.length_append, b, pieceR_words hgx h1, wordsOf_len]
         rfl
theorem labelsOk_of (o t : Nat) : ∀ (ls : List Lab) (seen : List (List UInt8)), (∀ x ∈ ls, nameOk x.1 = true ∧ x.2 % 4 = 0 ∧ o ≤ x.2 ∧ x.2 ≤ t) → (ls.map (·.1)).Nodup → (∀ x ∈ ls, x.1 ∉ seen) → labelsOk o t seen ls = true
 | [], _, _, _, _ => rfl
 | x :: ls, seen, h, hn, hs => by
   unfold labelsOk
   obtain ⟨h1, h2, h3, h4⟩ := h x (by simp)
   rw [List.map_cons, List.nodup_cons] at hn
   have ih := labelsOk_of o t ls (x.1 :: seen) (fun y hy => h y (by simp [hy])) hn.2 (fun y hy => by
    intro hm
    rcases List.mem_cons.1 hm with e | hm
    · exact hn.1 (e ▸ List.mem_map.2 ⟨y, hy, rfl⟩)
    · exact hs y (by simp [hy]) hm)
   have hc : seen.contains x.1 = false := by
    rw [Bool.eq_false_iff]
    intro hc
    exact hs x (by simp) (List.contains_iff_mem.1 hc)
   rw [h1, hc, decide_eq_true h2, decide_eq_true h3, decide_eq_true h4, ih]
   rfl
theorem rises_of : ∀ (ls : List Lab), ls.Pairwise (fun a b => a.2 ≤ b.2) → rises ls = true
 | [], _ => rfl
 | [x], _ => rfl
 | x :: y :: ls, h => by
   have h1 := (List.pairwise_cons.1 h).1 y (by simp)
   have ih := rises_of (y :: ls) (List.pairwise_cons.1 h).2
   show (decide (x.2 ≤ y.2) && rises (y :: ls)) = true
   rw [ih, decide_eq_true h1]
   rfl
theorem asmR_sound {src : List UInt8} (h : src.length ≤ 20000) {o : Int} {ws : List Int} {ls : List (List UInt8 × Int)} (hr : asmR src = .ok (o, ws, ls)) :
 ∃ (o' : Nat) (ws' : List Nat) (ls' : List Lab), o = (o' : Int) ∧ ws = ws'.map (fun x : Nat => (x : Int)) ∧ ls = ls'.map (fun x => (x.1, (x.2 : Int))) ∧ o' < 4294967296 ∧ (∀ x ∈ ws', x < 4294967296) ∧ (∀ x ∈ ls', x.1.length ≤ 16 ∧ x.2 < 4294967296) ∧ sound o' ws'.length ls' = true ∧ ls'.length ≤ 1000000 := by
 unfold asmR at hr
 cases h1 : linesR start (lines src) with
 | error e => rw [h1] at hr; cases hr
 | ok S =>
   rw [h1] at hr
   dsimp only at hr
   have hsum := lines_sum src
   have hi := linesR_inv (lines src) (n := 0) (start_inv.le (by omega)) (fun l hl => by have := mem_lines h hl; omega) h1
   have hc := hi.core
   cases h2 : piecesR S S.pieces with
   | error e => rw [h2] at hr; cases hr
   | ok w =>
     rw [h2] at hr
     have hr2 := Except.ok.inj hr
     simp only [Prod.mk.injEq] at hr2
     obtain ⟨rfl, rfl, rfl⟩ := hr2
     obtain ⟨a, b⟩ := piecesR_ok hc.pieces h2
     rw [← hc.cnt] at b
     have o0 := hc.o0
     have o1 := hc.o1
     have o4 := hc.o4
     have hp := hc.pos
     have hcc := hc.c
     have hmw : w = (w.map Int.toNat).map (fun x : Nat => (x : Int)) := by
      rw [List.map_map]
      conv => lhs; rw [← List.map_id w]
      refine List.map_congr_left fun n hn => ?_
      have := a n hn
      simp only [id, Function.comp]
      omega
     have hml : S.labels = (S.labels.map fun x => (x.1, x.2.toNat)).map (fun x : Lab => (x.1, (x.2 : Int))) := by
      rw [List.map_map]
      conv => lhs; rw [← List.map_id S.labels]
      refine List.map_congr_left fun x hx => ?_
      obtain ⟨_, _, l3, _, _⟩ := hc.lab x hx
      simp only [id, Function.comp]
      exact Prod.ext rfl (by dsimp only; omega)
     have hpos : S.pos = S.origin + 4 * (S.count : Int) := rfl
     refine ⟨S.origin.toNat, w.map Int.toNat, S.labels.map fun x => (x.1, x.2.toNat), by omega, hmw, hml, by omega, ?_, ?_, ?_, by rw [List.length_map]; have := hi.bnd.labels; omega⟩
     · intro x hx
       obtain ⟨n, hn, rfl⟩ := List.mem_map.1 hx
       have := a n hn
       omega
     · intro x hx
       obtain ⟨y, hy, rfl⟩ := List.mem_map.1 hx
       obtain ⟨l1, _, l3, _, l5⟩ := hc.lab y hy
       exact ⟨nameOk_len l1, by dsimp only; omega⟩
     · unfold sound
       rw [List.length_map, b]
       have e1 : labelsOk S.origin.toNat (S.origin.toNat + 4 * S.count) [] (S.labels.map fun x => (x.1, x.2.toNat)) = true := by
        refine labelsOk_of _ _ _ _ (fun x hx => ?_) ?_ (by simp)
        · obtain ⟨y, hy, rfl⟩ := List.mem_map.1 hx
          obtain ⟨l1, l2, l3, l4, l5⟩ := hc.lab y hy
          exact ⟨l1, by dsimp only; omega, by dsimp only; omega, by dsimp only; omega⟩
        · rw [List.map_map]
          exact hc.nd
       have e2 : rises (S.labels.map fun x => (x.1, x.2.toNat)) = true := by
        refine rises_of _ ?_
        rw [List.pairwise_map]
        exact hc.asc.imp_of_mem fun {x y} hx hy hxy => by
         obtain ⟨_, _, l3, _, _⟩ := hc.lab x hx
         omega
       rw [decide_eq_true (show S.origin.toNat % 4 = 0 by omega), decide_eq_true (show S.count ≤ 4096 from hcc), decide_eq_true (show S.origin.toNat + 4 * S.count ≤ 4294967296 by omega), e1, e2]
       rfl
theorem lines_le (s : List UInt8) : (lines s).length ≤ s.length + 1 := by
 have h := lines_sum s
 have key : ∀ L : List (List UInt8), L.length ≤ (L.map fun l => l.length + 1).sum := by
  intro L
  induction L with
  | nil => simp
  | cons a L ih => simp only [List.map_cons, List.sum_cons, List.length_cons]; omega
 have := key (lines s)
 omega
theorem asmR_bad {src : List UInt8} (h : src.length ≤ 20000) {er line : Int} (hr : asmR src = .error (er, line)) : er ≠ 0 ∧ 0 ≤ line ∧ line ≤ src.length + 1 := by
 have hsum := lines_sum src
 have hle := lines_le src
 have hm : ∀ l ∈ lines src, l.length ≤ 100000 := fun l hl => by have := mem_lines h hl; omega
 unfold asmR at hr
 cases h1 : linesR start (lines src) with
 | error e =>
   rw [h1] at hr
   injection hr with hr
   subst hr
   obtain ⟨a, b, c⟩ := linesR_err (lines src) (start_inv.le (by omega)) hm h1
   have hs : start.line = 0 := rfl
   rw [hs] at b c
   exact ⟨a, by omega, by omega⟩
 | ok S =>
   rw [h1] at hr
   dsimp only at hr
   have hi := linesR_inv (lines src) (n := 0) (start_inv.le (by omega)) hm h1
   have hl := linesR_line (lines src) (n := 0) (start_inv.le (by omega)) hm h1
   have hs : start.line = 0 := rfl
   rw [hs] at hl
   cases h2 : piecesR S S.pieces with
   | error e =>
     obtain ⟨e1, e2⟩ := e
     rw [h2] at hr
     injection hr with hr
     obtain ⟨rfl, rfl⟩ := Prod.mk.inj hr
     obtain ⟨a, x, hx, rfl⟩ := piecesR_err h2
     have := hi.lns x hx
     exact ⟨a, by omega, by omega⟩
   | ok w => rw [h2] at hr; cases hr
end Asm
end Go.Proofs.YtabmlbnnhhpaoaaGreatDoor
