/- What this claim needs of FailQ, FailQ2, FailQ3, FailQ4. -/
import Derived.Test.YtabmlbnnhhpaoaaGreatDoorEMFailEG
import Derived.Test.YtabmlbnnhhpaoaaGreatDoorEMAsmAll
set_option linter.unusedSimpArgs false
set_option linter.unusedVariables false
set_option maxHeartbeats 1000000
set_option maxRecDepth 100000
namespace Go.Proofs.YtabmlbnnhhpaoaaGreatDoor
open Go.RowKit Go.Shelf
namespace Asm
structure VGood (v : Val) : Prop where
 len : v.name.length ≤ 1000000
 n0 : -1099511627776 ≤ v.n
 n1 : v.n ≤ 1099511627776
def PlOk (S : PS) : Prop := ∀ name, 0 ≤ litInt (S.places.atKey (.string name) (.lit (.int .i64 0))) ∧ litInt (S.places.atKey (.string name) (.lit (.int .i64 0))) ≤ 4294967296
theorem valOf_range {S : PS} {v : Val} (hv : VGood v) (hp : PlOk S) : -1099511627776 ≤ valOf S v ∧ valOf S v ≤ 1099511627776 := by
 unfold valOf
 split
 · exact ⟨hv.n0, hv.n1⟩
 · have := hp v.name; omega
def fullR (S : PS) (v : Val) : Except Int Int :=
 if valOk S v = false then .error 113
 else if valOf S v < -2147483648 ∨ 4294967295 < valOf S v then .error 115
 else .ok (valOf S v % 4294967296)
def encR (S : PS) (x : Piece) : Except Int (List Int) :=
 if valOk S x.v = false then .error 113
 else if numAt S x.at_ x.ins x.v < -2147483648 ∨ 2147483647 < numAt S x.at_ x.ins x.v ∨ (Isa.enc x.ins.op x.ins.d x.ins.a x.ins.b (numAt S x.at_ x.ins x.v)).2 ≠ 0 then .error 115
 else .ok [wordAt S x.at_ x.ins x.v]
def wordsR (S : PS) : List Val → Except Int (List Int)
 | [] => .ok []
 | v :: l =>
   match fullR S v with
   | .error e => .error e
   | .ok n =>
     match wordsR S l with
     | .error e => .error e
     | .ok r => .ok (n :: r)
def liW (d n : Int) : List Int := [(Isa.enc 23 d 0 0 (n / 16384)).1, (Isa.enc 16 d d 0 (n % 16384)).1]
def pieceR (S : PS) (x : Piece) : Except Int (List Int) :=
 match x.kind with
 | .enc => encR S x
 | .word l => wordsR S l
 | .li => (match fullR S x.v with | .error e => .error e | .ok n => .ok (liW x.ins.d n))
 | .zero => .ok (List.replicate x.v.n.toNat 0)
theorem fullR_ok {S : PS} {v : Val} (hl : v.name.length ≤ 1000000) {n : Int} (h : fullR S v = .ok n) : FullOk S v ∧ n = valOf S v % 4294967296 := by
 unfold fullR at h
 split at h
 · cases h
 · rename_i h1
   split at h
   · cases h
   · rename_i h2
     injection h with h
     exact ⟨⟨hl, by simpa using h1, by omega, by omega⟩, h.symm⟩
end Asm
theorem of_bad (B : Asm.PB) (S : Asm.PS) (v : Asm.Val) (hl : v.name.length ≤ 1000000) (hv : Asm.valOk S v = false) (w : World) (hP : Asm.Par B S w) :
 Calls Tryz.prog 136 #[.pointer (some ⟨B.b, 0, none⟩), .agg #[.string ⟨v.name.toArray⟩, .int .i64 v.n]] w (Asm.Bad B w 113 S.line) := by
 have hb0 : Below w.heap.size w (w.alloc (.cells #[.string ⟨v.name.toArray⟩, .int .i64 v.n] 195)) := below_alloc' (Below.refl _ _) _
 have hP1 := hP.kept hb0
 have k1 := heap_alloc_new w (.cells #[.string ⟨v.name.toArray⟩, .int .i64 v.n] 195)
 have hn : v.name ≠ [] := fun h => by simp [Asm.valOk, h] at hv
 have hhas : Maps.has S.places (.string v.name) = false := by simpa [Asm.valOk, hn] using hv
 have hkey : keyOf Tryz.prog 9 (.string ⟨v.name.toArray⟩) = some (.string v.name) := Go.WideMaps.keyOf_string_mk Tryz.underlying9 (by simp [ByteArray.size, maxLen]; omega)
 obtain ⟨W, hW⟩ : ∃ W, w.alloc (.cells #[.string ⟨v.name.toArray⟩, .int .i64 v.n] 195) = W := ⟨_, rfl⟩
 rw [hW] at hP1 hb0 k1
 obtain ⟨v0, ps0, hlk, hv0⟩ := hP1.map.look_ok (Maps.string_keyed Tryz.underlying9) Tryz.underlying71 (Tryz.zeroValue2 W) (plainElem_int Tryz.underlying2 (by decide)) hkey
 obtain ⟨v1, ps1, hlkd, hv1⟩ := hP1.map.drew.look_ok (Maps.string_keyed Tryz.underlying9) Tryz.underlying71 (Tryz.zeroValue2 W.drew) (plainElem_int Tryz.underlying2 (by decide)) hkey
 rw [hhas] at hlk hlkd
 obtain ⟨c, rfl, hc, _⟩ := plainElem_int_inv Tryz.underlying2 hv0
 obtain ⟨c1, rfl, hc1, _⟩ := plainElem_int_inv Tryz.underlying2 hv1
 have hcc : c = c1 := by
  have h : DataW.lit (Lit.int .i64 c) = DataW.lit (Lit.int .i64 c1) := (congrArg Prod.fst hc).symm.trans (congrArg Prod.fst hc1)
  injection h with h
  injection h
 subst hcc
 obtain ⟨dk, fk⟩ := blk_facts k1
 have c7 : W.cell? ⟨B.b, 7, none⟩ = some (.map (some B.mb)) := (blk_facts hP1.own).1 7
 have q0 : W.cell? ⟨w.heap.size, 0, none⟩ = some (.string ⟨v.name.toArray⟩) := dk 0
 have z1 := blk_size hP.own
 have hne2 : (v.name == []) = false := by simpa using hn
 clear dk fk
 go_enter Tryz.func136, Tryz.ntmps136
 have c7d : W.drew.cell? ⟨B.b, 7, none⟩ = some (.map (some B.mb)) := c7
 have q0d : W.drew.cell? ⟨w.heap.size, 0, none⟩ = some (.string ⟨v.name.toArray⟩) := q0
 have hF := fail_calls B S 113 _ (hP1.kept (below_drewN' (Below.refl W.heap.size W) 1))
 go_wp2_with fail
 go_region_held3 (fun w' => w'.cell? ⟨B.b, 7, none⟩ = some (.map (some B.mb)) ∧ w'.cell? ⟨w.heap.size, 0, none⟩ = some (.string ⟨v.name.toArray⟩) ∧ (Instr.lookup 71 (.map (some B.mb)) (.string ⟨v.name.toArray⟩) true).run Tryz.prog w' = .ok (.tuple #[.int .i64 c, .bool false]) w')
  (first | exact ⟨c7, q0, hlk⟩ | exact ⟨c7d, q0d, hlkd⟩ | go_keep)
  (fail)
 all_goals go_wp2_with fail
 refine hF.mono ?_
 rintro e w1 ⟨rfl, ho⟩
 exact ⟨rfl, Asm.Bad.afterBelow (below_drewN' hb0 1) ⟨rfl, ho⟩⟩
theorem full_bad (B : Asm.PB) (S : Asm.PS) (v : Asm.Val) (hg : Asm.VGood v) (hp : Asm.PlOk S) (er : Int) (hv : Asm.fullR S v = .error er) (w : World) (hP : Asm.Par B S w) :
 Calls Tryz.prog 138 #[.pointer (some ⟨B.b, 0, none⟩), .agg #[.string ⟨v.name.toArray⟩, .int .i64 v.n]] w (Asm.Bad B w er S.line) := by
 have hb0 : Below w.heap.size w (w.alloc (.cells #[.string ⟨v.name.toArray⟩, .int .i64 v.n] 195)) := below_alloc' (Below.refl _ _) _
 unfold Asm.fullR at hv
 cases hok : Asm.valOk S v with
 | false =>
   rw [if_pos hok] at hv
   injection hv with hv
   subst hv
   have hof := of_bad B S v hg.len hok _ (hP.kept hb0)
   go_enter Tryz.func138, Tryz.ntmps138
   go_wp2_with fail
   refine hof.mono ?_
   rintro e w1 ⟨rfl, ho⟩
   exact ⟨rfl, Asm.Bad.afterBelow hb0 ⟨rfl, ho⟩⟩
 | true =>
   rw [if_neg (by rw [hok]; simp)] at hv
   have hr := Asm.valOf_range hg hp
   have hof := of_val B S v hg.len hok _ (hP.kept hb0)
   obtain ⟨n, hn⟩ : ∃ n, Asm.valOf S v = n := ⟨_, rfl⟩
   rw [hn] at hof hv hr
   have hbad : n < -2147483648 ∨ 4294967295 < n := by
    by_cases h : n < -2147483648 ∨ 4294967295 < n
    · exact h
    · rw [if_neg h] at hv; cases hv
   rw [if_pos hbad] at hv
   injection hv with hv
   subst hv
   clear hn hok
   rcases hbad with hbad | hbad
   all_goals (
    go_enter Tryz.func138, Tryz.ntmps138
    go_wp2_with fail
    refine hof.mono ?_
    rintro e w2 ⟨rfl, hb⟩
    have hF := fail_calls B S 115 _ ((hP.kept hb0).kept hb)
    go_wp2_with fail
    refine hF.mono ?_
    rintro e w1 ⟨rfl, ho⟩
    exact ⟨rfl, Asm.Bad.afterBelow (below_next hb0 hb) ⟨rfl, ho⟩⟩)
end Go.Proofs.YtabmlbnnhhpaoaaGreatDoor
set_option maxHeartbeats 4000000
set_option maxRecDepth 100000
namespace Go.Proofs.YtabmlbnnhhpaoaaGreatDoor
open Go.RowKit Go.Shelf
theorem fail_own (b : Nat) (cs : Array Value) (line er : Int) (w : World) (hk : w.heap[b]? = some (.cells cs 75 (0, 0))) (h0 : cs[0]? = some (.int .i64 line)) :
 Calls Tryz.prog 51 #[.pointer (some ⟨b, 0, none⟩), .int .i64 er] w fun e w' => e = .panicked (Asm.chain er line) ∧ w' = w := by
 have c0 : w.cell? ⟨b, 0, none⟩ = some (.int .i64 line) := ((blk_facts hk).1 0).trans h0
 have z := blk_size hk
 clear h0
 go_enter Tryz.func51, Tryz.ntmps51
 go_wp2_with fail
 rw [show (Instr.panic (Value.iface 68 (Value.agg #[Value.int IntKind.i64 er, Value.int IntKind.i64 line]))).run Tryz.prog w = .halt (.panic (Value.iface 68 (Value.agg #[Value.int IntKind.i64 er, Value.int IntKind.i64 line]))) w by rfl]
 exact ⟨rfl, rfl, rfl⟩
theorem Asm.Off.viaSet {B : Asm.PB} {w w2 y : World} {bi i : Nat} {v : Value} (hbw : Below w.heap.size w w2) (hbi : B.owns bi) (hy : Below (w2.setCell ⟨bi, i, none⟩ v).heap.size (w2.setCell ⟨bi, i, none⟩ v) y) : Asm.Off B.owns w y := by
 have hs := Asm.setCell_grown w2 bi i v
 exact ⟨hy.os.trans (hs.os.trans hbw.os), hy.tape.trans (hs.tape.trans hbw.tape), hy.output.trans (hs.output.trans hbw.output), Nat.le_trans hbw.size (Nat.le_trans hs.size hy.size), fun g hg hno => (hy.block g (by have := hs.size; have := hbw.size; omega)).trans ((hs.block g (by have := hbw.size; omega) (fun e => hno (by rw [Option.some.inj e]; exact hbi))).trans (hbw.block g hg))⟩
theorem encoded1_bad (B : Asm.PB) (S : Asm.PS) (line at_ : Int) (X : Value) (ins : Asm.Ins) (v : Asm.Val) (hi : Asm.InsOk ins) (hg : Asm.VGood v) (hp : Asm.PlOk S) (hat0 : 0 ≤ at_) (hat1 : at_ ≤ 4294967296)
 (er : Int) (her : Asm.encR S ⟨line, at_, ins, v, .enc⟩ = .error er) (w : World) (hL : Isa.Laid w) (hP : Asm.Par B S w) (bv bi : Nat) (hbi : B.owns bi) (hg1 : 0 < bi) (hg2 : 4 < bi) (kv : w.heap[bv]? = some (.cells (Asm.valCells v) 195 (0, 0))) (ki : w.heap[bi]? = some (.cells (Asm.insCells ins) 96 (0, 0))) :
 Calls Tryz.prog 135 #[.pointer (some ⟨B.b, 0, none⟩), .agg #[.int .i64 line, .int .i64 at_, X], .pointer (some ⟨bv, 0, none⟩), .pointer (some ⟨bi, 0, none⟩)] w (Asm.Bad B w er S.line) := by
 obtain ⟨dv, fv'⟩ := blk_facts kv
 obtain ⟨di, fi⟩ := blk_facts ki
 have v0 : w.cell? ⟨bv, 0, none⟩ = some (.string ⟨v.name.toArray⟩) := dv 0
 have v1 : w.cell? ⟨bv, 1, none⟩ = some (.int .i64 v.n) := dv 1
 have zv := blk_size kv
 have zi := blk_size ki
 clear dv fv' di fi
 have hb0 : Below w.heap.size w (w.alloc (.cells #[.int .i64 line, .int .i64 at_, X] 82)) := below_alloc' (Below.refl _ _) _
 have kx := heap_alloc_new w (.cells #[.int .i64 line, .int .i64 at_, X] 82)
 unfold Asm.encR at her
 dsimp only at her
 cases hok : Asm.valOk S v with
 | false =>
   rw [if_pos hok] at her
   injection her with her
   subst her
   have hof := of_bad B S v hg.len hok _ (hP.kept hb0)
   go_enter Tryz.func135, Tryz.ntmps135
   go_wp2_with fail
   refine hof.mono ?_
   rintro e w1 ⟨rfl, ho⟩
   exact ⟨rfl, Asm.Bad.afterBelow hb0 ⟨rfl, ho⟩⟩
 | true =>
   rw [if_neg (by rw [hok]; simp)] at her
   have hr := Asm.valOf_range hg hp
   have hof := of_val B S v hg.len hok _ (hP.kept hb0)
   obtain ⟨m, hm⟩ : ∃ m, Asm.numAt S at_ ins v = m := ⟨_, rfl⟩
   obtain ⟨n, hn⟩ : ∃ n, Asm.valOf S v = n := ⟨_, rfl⟩
   rw [hm] at her
   rw [hn] at hof hr
   have hmn : (v.name = [] ∧ m = n) ∨ (v.name ≠ [] ∧ Asm.goes ins.op = true ∧ m = (n - at_).tdiv 4) ∨ (v.name ≠ [] ∧ Asm.goes ins.op = false ∧ m = n) := by
    by_cases h1 : v.name = []
    · exact .inl ⟨h1, by rw [← hm, ← hn]; simp [Asm.numAt, h1]⟩
    · cases h2 : Asm.goes ins.op with
      | true => exact .inr (.inl ⟨h1, rfl, by rw [← hm, ← hn]; simp [Asm.numAt, h1, h2]⟩)
      | false => exact .inr (.inr ⟨h1, rfl, by rw [← hm, ← hn]; simp [Asm.numAt, h1, h2]⟩)
   obtain ⟨mw, hmw⟩ : ∃ mw, IntKind.i32.wrap m = mw := ⟨_, rfl⟩
   have hmr : -2147483648 ≤ mw ∧ mw ≤ 2147483647 := by
    rw [IntKind.wrap_i32] at hmw
    omega
   have hbad : (Isa.enc ins.op ins.d ins.a ins.b mw).2 = 0 → ¬ mw = m := by
    intro h1 h2
    subst h2
    rw [if_neg (by omega)] at her
    cases her
   have her2 : er = 115 := by
    split at her
    · injection her with her; exact her.symm
    · cases her
   subst her2
   clear her hm hn hok
   obtain ⟨A, hA⟩ : ∃ A, Isa.enc ins.op ins.d ins.a ins.b mw = A := ⟨_, rfl⟩
   have hEnc := fun (W : World) (hW : Isa.Laid W) => Encode_calls ins.op ins.d ins.a ins.b mw hi.d hi.a hi.b hmr W hW
   rw [hA] at hbad hEnc
   have HB := Lib.hid hbad
   clear hbad hA
   have hko := hP.own
   have hne : B.b ≠ bi := fun e => by rw [e, ki] at hko; injection (Option.some.inj hko) with _ q; exact absurd q (by decide)
   have hmn' : Hid (v.name = [] ∧ m = n) ∨ Hid (v.name ≠ [] ∧ Asm.goes ins.op = true ∧ m = (n - at_).tdiv 4) ∨ Hid (v.name ≠ [] ∧ Asm.goes ins.op = false ∧ m = n) := by
    rcases hmn with h | h | h
    · exact .inl (Lib.hid h)
    · exact .inr (.inl (Lib.hid h))
    · exact .inr (.inr (Lib.hid h))
   have HMW := Lib.hid hmw
   clear hmn hmw
   rcases hmn' with HM | HM | HM
   all_goals go_enter Tryz.func135, Tryz.ntmps135
   all_goals go_wp2_with fail
   all_goals refine hof.mono ?_
   all_goals rintro e w2 ⟨rfl, hb2⟩
   all_goals have hbw := below_next hb0 hb2
   all_goals have kv2 := blk_keep hbw kv
   all_goals have ki2 := blk_keep hbw ki
   all_goals have kx2 := blk_keep hb2 kx
   all_goals have hL3 : Isa.Laid (w2.setCell ⟨bi, 4, none⟩ (.int .i32 mw)) := (hL.below hbw).setAt (by omega) (by omega) _ _
   all_goals have ki3 := setCell_row ki2 4 (.int .i32 mw) (cs' := #[.int .i64 ins.op, .int .u8 ins.d, .int .u8 ins.a, .int .u8 ins.b, .int .i32 mw]) rfl
   all_goals have hE3 := hEnc _ hL3
   all_goals obtain ⟨dv2, fv2⟩ := blk_facts kv2
   all_goals obtain ⟨di2, fi2⟩ := blk_facts ki2
   all_goals obtain ⟨dx2, fx2⟩ := blk_facts kx2
   all_goals obtain ⟨di3, fi3⟩ := blk_facts ki3
   all_goals have v0' : w2.cell? ⟨bv, 0, none⟩ = some (.string ⟨v.name.toArray⟩) := dv2 0
   all_goals have i0' : w2.cell? ⟨bi, 0, none⟩ = some (.int .i64 ins.op) := di2 0
   all_goals have i1' : w2.cell? ⟨bi, 1, none⟩ = some (.int .u8 ins.d) := di2 1
   all_goals have i2' : w2.cell? ⟨bi, 2, none⟩ = some (.int .u8 ins.a) := di2 2
   all_goals have i3' : w2.cell? ⟨bi, 3, none⟩ = some (.int .u8 ins.b) := di2 3
   all_goals have i4' : w2.cell? ⟨bi, 4, none⟩ = some (.int .i32 ins.imm) := di2 4
   all_goals have j4' : (w2.setCell ⟨bi, 4, none⟩ (.int .i32 mw)).cell? ⟨bi, 4, none⟩ = some (.int .i32 mw) := di3 4
   all_goals have f4' := fi2 4
   all_goals have x1' : w2.cell? ⟨w.heap.size, 1, none⟩ = some (.int .i64 at_) := dx2 1
   all_goals have zi2 := blk_size ki2
   all_goals have k3 := setCell_far (blk_keep hbw hko) hne 4 (.int .i32 mw)
   all_goals clear dv2 fv2 di2 fi2 dx2 fx2 di3 fi3 hof hEnc
   · obtain ⟨hname, hmv⟩ := HM.out
     have hw32 := HMW.out
     clear HM HMW
     subst hmv
     rw [hname] at v0'
     clear hname
     go_wp2_with fail
     refine hE3.mono ?_
     rintro e w4 ⟨rfl, hb4⟩
     have ki4 := blk_keep hb4 ki3
     have p4 : w4.cell? ⟨bi, 4, none⟩ = some (.int .i32 mw) := (blk_facts ki4).1 4
     have z4 := blk_size ki4
     have hF := fail_own B.b _ S.line 115 w4 (blk_keep hb4 k3) rfl
     have hoff := Asm.Off.viaSet (B := B) hbw hbi hb4
     obtain ⟨E2, hE2⟩ : ∃ E2, A.2 = E2 := ⟨_, rfl⟩
     rw [hE2] at HB ⊢
     clear hE2
     by_cases hE : E2 = 0
     · have hmm2 := HB.out hE
       subst hE
       go_wp2_with fail
       refine hF.mono ?_
       rintro e w5 ⟨rfl, h5⟩
       rw [h5]
       exact ⟨rfl, rfl, hoff⟩
     · go_wp2_with fail
       refine hF.mono ?_
       rintro e w5 ⟨rfl, h5⟩
       rw [h5]
       exact ⟨rfl, rfl, hoff⟩
   · obtain ⟨hname, hgo, hmv⟩ := HM.out
     have hw32 := HMW.out
     have hne2 : (v.name == []) = false := by simpa using hname
     have hmv' := hmv.symm
     have hq : (n - at_).tdiv 4 = if 0 ≤ n - at_ then (n - at_) / 4 else -((at_ - n) / 4) := by
      split
      · rename_i h; rw [Int.tdiv_eq_ediv_of_nonneg h]
      · rename_i h
        rw [show n - at_ = -(at_ - n) by omega, Int.neg_tdiv, Int.tdiv_eq_ediv_of_nonneg (by omega)]
     have hmb : -4398046511104 ≤ m ∧ m ≤ 4398046511104 := by rw [hmv, hq]; split <;> omega
     have hw64 : wrap64 m = m := by unfold wrap64; omega
     have hw32b : wrap32 m = mw := by rw [← hw32, IntKind.wrap_i32]; unfold wrap32; omega
     clear HM HMW hq
     clear hmv
     go_wp2_with fail
     refine (goes_calls ins.op _).mono ?_
     rintro e w3 ⟨rfl, h3⟩
     rw [h3, hgo]
     clear h3
     go_wp2_with fail
     refine hE3.mono ?_
     rintro e w4 ⟨rfl, hb4⟩
     have ki4 := blk_keep hb4 ki3
     have p4 : w4.cell? ⟨bi, 4, none⟩ = some (.int .i32 mw) := (blk_facts ki4).1 4
     have z4 := blk_size ki4
     have hF := fail_own B.b _ S.line 115 w4 (blk_keep hb4 k3) rfl
     have hoff := Asm.Off.viaSet (B := B) hbw hbi hb4
     obtain ⟨E2, hE2⟩ : ∃ E2, A.2 = E2 := ⟨_, rfl⟩
     rw [hE2] at HB ⊢
     clear hE2
     by_cases hE : E2 = 0
     · have hmm2 := HB.out hE
       subst hE
       go_wp2_with fail
       refine hF.mono ?_
       rintro e w5 ⟨rfl, h5⟩
       rw [h5]
       exact ⟨rfl, rfl, hoff⟩
     · go_wp2_with fail
       refine hF.mono ?_
       rintro e w5 ⟨rfl, h5⟩
       rw [h5]
       exact ⟨rfl, rfl, hoff⟩
   · obtain ⟨hname, hgo, hmv⟩ := HM.out
     have hw32 := HMW.out
     clear HM HMW
     subst hmv
     have hne2 : (v.name == []) = false := by simpa using hname
     go_wp2_with fail
     refine (goes_calls ins.op _).mono ?_
     rintro e w3 ⟨rfl, h3⟩
     rw [h3, hgo]
     clear h3
     go_wp2_with fail
     refine hE3.mono ?_
     rintro e w4 ⟨rfl, hb4⟩
     have ki4 := blk_keep hb4 ki3
     have p4 : w4.cell? ⟨bi, 4, none⟩ = some (.int .i32 mw) := (blk_facts ki4).1 4
     have z4 := blk_size ki4
     have hF := fail_own B.b _ S.line 115 w4 (blk_keep hb4 k3) rfl
     have hoff := Asm.Off.viaSet (B := B) hbw hbi hb4
     obtain ⟨E2, hE2⟩ : ∃ E2, A.2 = E2 := ⟨_, rfl⟩
     rw [hE2] at HB ⊢
     clear hE2
     by_cases hE : E2 = 0
     · have hmm2 := HB.out hE
       subst hE
       go_wp2_with fail
       refine hF.mono ?_
       rintro e w5 ⟨rfl, h5⟩
       rw [h5]
       exact ⟨rfl, rfl, hoff⟩
     · go_wp2_with fail
       refine hF.mono ?_
       rintro e w5 ⟨rfl, h5⟩
       rw [h5]
       exact ⟨rfl, rfl, hoff⟩
end Go.Proofs.YtabmlbnnhhpaoaaGreatDoor
set_option maxHeartbeats 4000000
set_option maxRecDepth 100000
namespace Go.Proofs.YtabmlbnnhhpaoaaGreatDoor
open Go.RowKit Go.Shelf
theorem word1_bad (B : Asm.PB) (S : Asm.PS) (l : List Asm.Val) (hl : l.length ≤ 1000000) (hvg : ∀ v, v ∈ l → Asm.VGood v) (hpl : Asm.PlOk S) (er : Int) (her : Asm.wordsR S l = .error er) (X : Array Value) (w : World) (hP : Asm.Par B S w) (bl g cap : Nat) (cur : Array Value) (hlc : l.length ≤ cap) (hcm : cap ≤ maxLen)
 (kL : w.heap[bl]? = some (.cells #[.slice (some ⟨g, 0, none⟩) l.length cap] 228 (0, 0))) (kG : w.heap[g]? = some (.cells cur 195 (0, 0))) (hu : ∀ (j : Nat) (u : Value), (l.flatMap fun v => (Asm.valCells v).toList)[j]? = some u → cur[j]? = some u) :
 Calls Tryz.prog 139 #[.pointer (some ⟨B.b, 0, none⟩), .agg X, .pointer (some ⟨bl, 0, none⟩)] w (Asm.Bad B w er S.line) := by
 have dl := (blk_facts kL).1
 have l0 : w.cell? ⟨bl, 0, none⟩ = some (.slice (some ⟨g, 0, none⟩) l.length cap) := dl 0
 have zl := blk_size kL
 have zg := blk_size kG
 have zb := blk_size hP.own
 clear dl
 obtain ⟨i0, hinf, hz0, hz1, hz2⟩ := info_parts asm_info22
 have HER := Lib.hid her
 have HVG := Lib.hid hvg
 clear her hvg
 go_enter Tryz.func139, Tryz.ntmps139
 go_wp2_with fail
 go_loopw [6, 11] (fun v6 v11 wr => ∃ j : Nat, v11 = .int .i64 (j : Int) ∧ j ≤ l.length ∧ wr.ownsRow w.heap.size 23 1 v6 j (Asm.wordVals S (l.take j)) ∧ Hid (Asm.wordsR S (l.drop j) = .error er) ∧ Below w.heap.size w wr) (fun _ v11 _ => l.length - (intOf v11).toNat)
 case atStart => exact ⟨0, rfl, Nat.zero_le _, World.ownsRow_nil _ _ _ _, HER, below_alloc' (Below.refl _ _) _⟩
 case round =>
  obtain ⟨j, rfl, hj, hrow, HW, HB⟩ := hrel
  by_cases hlt : j < l.length
  · have hlj := List.getElem?_eq_getElem hlt
    have htk := Asm.wordVals_take S l j hlt
    have hW := HW.out
    rw [List.drop_eq_getElem_cons hlt, Asm.wordsR] at hW
    obtain ⟨v, hvj⟩ : ∃ v, l[j] = v := ⟨_, rfl⟩
    have hvm : v ∈ l := hvj ▸ List.getElem_mem hlt
    rw [hvj] at hlj htk hW
    have hP1 := hP.kept HB
    have kG1 := blk_keep HB kG
    have q0 : cur[j * 2]? = some (.string ⟨v.name.toArray⟩) := hu _ _ (flat2 (fun v => (Asm.valCells v).toList) (fun _ => rfl) l j 0 v hlj (by decide))
    have q1 : cur[j * 2 + 1]? = some (.int .i64 v.n) := hu _ _ (flat2 (fun v => (Asm.valCells v).toList) (fun _ => rfl) l j 1 v hlj (by decide))
    obtain ⟨dg, _⟩ := blk_facts kG1
    have p0 : wr.cell? ⟨g, j * 2, none⟩ = some (.string ⟨v.name.toArray⟩) := (dg _).trans q0
    have p1 : wr.cell? ⟨g, j * 2 + 1, none⟩ = some (.int .i64 v.n) := (dg _).trans q1
    have zg1 := blk_size kG1
    have hvgood := HVG.out v hvm
    have hbv : Below wr.heap.size wr (wr.alloc (.cells #[.string ⟨v.name.toArray⟩, .int .i64 v.n] 195)) := below_alloc' (Below.refl _ _) _
    clear dg q0 q1 HW hvm hlj
    cases hfr : Asm.fullR S v with
    | error er' =>
      rw [hfr] at hW
      dsimp only at hW
      injection hW with hW
      subst hW
      have hbd := full_bad B S v hvgood hpl er' hfr _ (hP1.kept hbv)
      clear hfr
      go_wp2_with fail
      refine hbd.mono ?_
      rintro e y1 ⟨rfl, ho⟩
      exact ⟨rfl, Asm.Bad.afterBelow ⟨(hbv.os).trans HB.os, hbv.tape.trans HB.tape, hbv.output.trans HB.output, Nat.le_trans HB.size hbv.size, fun q hq => (hbv.block q (Nat.lt_of_lt_of_le hq HB.size)).trans (HB.block q hq)⟩ ⟨rfl, ho⟩⟩
    | ok nn =>
      rw [hfr] at hW
      dsimp only at hW
      obtain ⟨hfo, hnn⟩ := Asm.fullR_ok hvgood.len hfr
      have hW2 : Asm.wordsR S (l.drop (j + 1)) = .error er := by
       cases hq : Asm.wordsR S (l.drop (j + 1)) with
       | ok r => rw [hq] at hW; cases hW
       | error e => rw [hq] at hW; exact hW
      have HW2 := Lib.hid hW2
      clear hW hW2 hfr hnn
      go_wp2_with fail
      refine (full_calls B S v hfo _ (hP1.kept hbv)).mono ?_
      rintro e y1 ⟨rfl, hy1⟩
      have hby := below_next hbv hy1
      obtain ⟨wd, hwd⟩ : ∃ wd, Asm.valOf S v % 4294967296 = wd := ⟨_, rfl⟩
      rw [hwd] at htk ⊢
      have hrow1 := (ownsRow_below' hrow hby).alloc (.cells #[.int .u32 wd] 23)
      have HB1 := below_alloc' (below_next HB hby) (.cells #[.int .u32 wd] 23)
      have hcn := cell_one_new y1 (.int .u32 wd) 23
      have hHH : w.heap.size ≤ (y1.alloc (.cells #[.int .u32 wd] 23)).heap.size := HB1.size
      go_wp2_with (at_builtin; refine wpList_append_own_at _ rfl _ _ 24 rfl w.heap.size 23 i0 _ 1 4 Tryz.underlying24 hinf hz0 hz1 hz2 rfl (by decide) _ _ _ rfl hrow1 ⟨y1.heap.size, 0, none⟩ 1 1 [.int .u32 wd] rfl rfl hcn (by simp [Value.oneCell']) (by simp [maxLen]; omega) (by omega) hHH ?_; intro v' w4 hrow5 hgrow hnil hblk; have HB5 := HB1.grown hgrow HB1.size (fun k e => (row_lt hrow1 k e).1))
      go_roundw
      case rel => exact ⟨j + 1, by go_num, by omega, by rw [htk]; exact hrow5, HW2, HB5⟩
      case measure => simp [intOf]; omega
  · have hje : j = l.length := by omega
    subst hje
    have hW := HW.out
    rw [List.drop_length] at hW
    cases hW
theorem li1_bad (B : Asm.PB) (S : Asm.PS) (v : Asm.Val) (d : Int) (hg : Asm.VGood v) (hp : Asm.PlOk S) (er : Int) (her : Asm.fullR S v = .error er) (X : Array Value) (w : World) (hP : Asm.Par B S w) (bv bd : Nat) (kV : w.heap[bv]? = some (.cells (Asm.valCells v) 195 (0, 0))) (kD : w.heap[bd]? = some (.cells #[.int .u8 d] 5 (0, 0))) :
 Calls Tryz.prog 137 #[.pointer (some ⟨B.b, 0, none⟩), .agg X, .pointer (some ⟨bv, 0, none⟩), .pointer (some ⟨bd, 0, none⟩)] w (Asm.Bad B w er S.line) := by
 obtain ⟨dv, _⟩ := blk_facts kV
 have v0 : w.cell? ⟨bv, 0, none⟩ = some (.string ⟨v.name.toArray⟩) := dv 0
 have v1 : w.cell? ⟨bv, 1, none⟩ = some (.int .i64 v.n) := dv 1
 have zv := blk_size kV
 have zd := blk_size kD
 have zb := blk_size hP.own
 clear dv
 have hbX : Below w.heap.size w (w.alloc (.cells X 82)) := below_alloc' (Below.refl _ _) _
 have hbd := full_bad B S v hg hp er her _ (hP.kept hbX)
 clear her
 go_enter Tryz.func137, Tryz.ntmps137
 go_wp2_with fail
 refine hbd.mono ?_
 rintro e y1 ⟨rfl, ho⟩
 exact ⟨rfl, Asm.Bad.afterBelow hbX ⟨rfl, ho⟩⟩
end Go.Proofs.YtabmlbnnhhpaoaaGreatDoor
namespace Go.Proofs.YtabmlbnnhhpaoaaGreatDoor
open Go.RowKit Go.Shelf
namespace Asm
def PGood (x : Piece) : Prop :=
 match x.kind with
 | .enc => InsOk x.ins ∧ VGood x.v ∧ 0 ≤ x.at_ ∧ x.at_ ≤ 4294967296
 | .word l => l ≠ [] ∧ l.length ≤ 1000000 ∧ ∀ v, v ∈ l → VGood v
 | .li => VGood x.v ∧ 0 ≤ x.ins.d ∧ x.ins.d ≤ 15
 | .zero => 0 ≤ x.v.n ∧ x.v.n ≤ 4096
theorem wordsR_ok {S : PS} : ∀ {l : List Val} {ws : List Int}, (∀ v ∈ l, v.name.length ≤ 1000000) → wordsR S l = .ok ws → (∀ v ∈ l, FullOk S v) ∧ ws = l.map fun v => valOf S v % 4294967296
 | [], ws, _, h => by rw [wordsR] at h; injection h with h; subst h; simp
 | v :: l, ws, hg, h => by
   rw [wordsR] at h
   cases h1 : fullR S v with
   | error e => rw [h1] at h; cases h
   | ok n =>
     rw [h1] at h
     dsimp only at h
     cases h2 : wordsR S l with
     | error e => rw [h2] at h; cases h
     | ok r =>
       rw [h2] at h
       injection h with h
       subst h
       obtain ⟨a, b⟩ := fullR_ok (hg v (by simp)) h1
       obtain ⟨c, d⟩ := wordsR_ok (fun u hu => hg u (by simp [hu])) h2
       refine ⟨fun u hu => ?_, by rw [b, d]; rfl⟩
       rcases List.mem_cons.1 hu with rfl | hu
       · exact a
       · exact c u hu
theorem wordsR_ran (S : PS) (k : Nat) (line : Int) : ∀ l, wordsR (ran S k line) l = wordsR S l
 | [] => rfl
 | v :: l => by
   rw [wordsR, wordsR, wordsR_ran S k line l]
   rfl
theorem pieceR_words {S : PS} {x : Piece} {ws : List Int} (hg : PGood x) (h : pieceR S x = .ok ws) : ws = wordsOf S x := by
 unfold pieceR at h
 unfold wordsOf
 unfold PGood at hg
 cases hq : x.kind with
 | enc =>
   rw [hq] at h
   dsimp only at h ⊢
   unfold encR at h
   split at h
   · cases h
   · split at h
     · cases h
     · injection h with h; exact h.symm
 | word l =>
   rw [hq] at h hg
   exact (wordsR_ok (fun v hv => (hg.2.2 v hv).len) h).2
 | li =>
   rw [hq] at h hg
   dsimp only at h ⊢
   cases h1 : fullR S x.v with
   | error e => rw [h1] at h; cases h
   | ok n =>
     rw [h1] at h
     injection h with h
     obtain ⟨_, b⟩ := fullR_ok hg.1.len h1
     rw [← h, b]
     unfold liW
     rw [show valOf S x.v % 4294967296 % 16384 = valOf S x.v % 16384 by omega]
 | zero =>
   rw [hq] at h
   injection h with h
   exact h.symm
theorem pieceR_good {S : PS} {x : Piece} {ws : List Int} (hg : PGood x) (hp : PlOk S) (h : pieceR S x = .ok ws) : PieceOk S x ∨ (x.kind = .zero ∧ x.v.n = 0) := by
 unfold pieceR at h
 unfold PGood at hg
 unfold PieceOk
 cases hq : x.kind with
 | enc =>
   rw [hq] at h hg
   dsimp only at h hg ⊢
   unfold encR at h
   split at h
   · cases h
   · rename_i h1
     split at h
     · cases h
     · rename_i h2
       have hr := valOf_range hg.2.1 hp
       exact .inl ⟨hg.1, hg.2.1.len, by simpa using h1, hg.2.2.1, hg.2.2.2, hr.1, hr.2, by omega, by omega, by omega⟩
 | word l =>
   rw [hq] at h hg
   exact .inl ⟨hg.1, hg.2.1, (wordsR_ok (fun v hv => (hg.2.2 v hv).len) h).1⟩
 | li =>
   rw [hq] at h hg
   dsimp only at h hg ⊢
   cases h1 : fullR S x.v with
   | error e => rw [h1] at h; cases h
   | ok n => exact .inl ⟨(fullR_ok hg.1.len h1).1, hg.2⟩
 | zero =>
   rw [hq] at hg
   dsimp only at hg ⊢
   by_cases h0 : x.v.n = 0
   · exact .inr ⟨rfl, h0⟩
   · exact .inl ⟨by omega, hg.2⟩
def PieceOut (B : PB) (S : PS) (k : Nat) (line : Int) (fs : List Nat) (V : World) : Except Int (List Int) → Ending → World → Prop
 | .ok ws, e, y => ∃ g c, e = .returned (.slice (some ⟨g, 0, none⟩) ws.length c) ∧ (∀ (j : Nat) (u : Value), (ws.map word32)[j]? = some u → y.cell? ((⟨g, 0, none⟩ : Addr).add j) = some u) ∧ V.heap.size ≤ g ∧ Off (· ∈ fs) V y ∧ Par B (ran S (k + 1) line) y
 | .error er, e, y => Bad B V er line e y
end Asm
theorem piece_any (B : Asm.PB) (S : Asm.PS) (k : Nat) (line : Int) (x : Asm.Piece) (hlt : k < S.pieces.length) (hx : S.pieces[k] = x) (hg : Asm.PGood x) (hp : Asm.PlOk S) (f : Nat × List Nat) (hf : B.fs[k]? = some f) (V : World) (hP : Asm.Par B (Asm.ran S k line) V) (hL : Isa.Laid V) (hgl : ∀ g, g ∈ f.2 → 0 < g ∧ 4 < g) :
 Calls Tryz.prog f.1 (#[.pointer (some ⟨B.b, 0, none⟩), .agg #[.int .i64 x.line, .int .i64 x.at_, Asm.fnVal f]] ++ Asm.capsOf f) V (Asm.PieceOut B S k line f.2 V (Asm.pieceR S x)) := by
 have hxk : (Asm.ran S k line).pieces[k]? = some x := (Asm.ran_at S k line hlt).trans (by rw [hx])
 have hfn := hP.fns k x f hxk hf
 have hm : f ∈ B.fs := List.mem_of_getElem? hf
 have hown : ∀ g, g ∈ f.2 → B.owns g := fun g h => .inr (.inr (.inr (.inr (.inr ⟨f, hm, h⟩))))
 have hp' : Asm.PlOk (Asm.ran S k line) := hp
 cases hr : Asm.pieceR S x with
 | ok ws =>
   have hw := Asm.pieceR_words hg hr
   rcases Asm.pieceR_good hg hp hr with hok | ⟨hq, h0⟩
   · refine (piece_calls B S k line x hlt hx hok f hf V hP hL hgl).mono ?_
     rintro e y2 ⟨g, c, h1, _, h2, h3, h4, h5⟩
     rw [hw]
     exact ⟨g, c, h1, h2, h3, h4, h5⟩
   · have hfn0 := hfn
     unfold Asm.FnIs at hfn
     rw [hq] at hfn
     obtain ⟨bn, rfl, kN⟩ := hfn
     have e1 : ws = [] := by rw [hw]; unfold Asm.wordsOf; rw [hq, h0]; rfl
     subst e1
     have hz := zero1_calls x.v.n (by omega) (by omega) (.pointer (some ⟨B.b, 0, none⟩)) #[.int .i64 x.line, .int .i64 x.at_, Asm.fnVal (140, [bn])] V bn kN
     refine hz.mono ?_
     rintro e y2 ⟨g, rfl, h3, hc, hb⟩
     have ho' : Asm.Off (· ∈ [bn]) V y2 := Asm.Off.of_below hb
     refine ⟨g, 0, by rw [h0]; rfl, fun j u hj => by simp at hj, h3, ho', ?_⟩
     have hq2 := hP.ranOne hxk hf (Asm.Piece.done S x) (Asm.done_same S x) ho' (by
      rw [Asm.done_zero S hq]
      exact hfn0.keep fun q _ cs t _ hk => blk_keep hb hk)
     rw [← Asm.ran_step S k line hlt x hx]
     exact hq2
 | error er =>
   unfold Asm.pieceR at hr
   unfold Asm.PGood at hg
   unfold Asm.FnIs at hfn
   cases hq : x.kind with
   | enc =>
     rw [hq] at hr hg hfn
     obtain ⟨bv, bi, rfl, kV, kI⟩ := hfn
     exact encoded1_bad B (Asm.ran S k line) x.line x.at_ _ x.ins x.v hg.1 hg.2.1 hp' hg.2.2.1 hg.2.2.2 er hr V hL hP bv bi (hown bi (by simp)) (hgl bi (by simp)).1 (hgl bi (by simp)).2 kV kI
   | word l =>
     rw [hq] at hr hg hfn
     obtain ⟨bl, g, cap, cur, rfl, h1, h2, kL, kG, hu⟩ := hfn
     exact word1_bad B (Asm.ran S k line) l hg.2.1 hg.2.2 hp' er ((Asm.wordsR_ran S k line l).trans hr) _ V hP bl g cap cur h1 h2 kL kG hu
   | li =>
     rw [hq] at hr hg hfn
     dsimp only at hr
     obtain ⟨bv, bd, rfl, kV, kD⟩ := hfn
     have hf2 : Asm.fullR S x.v = .error er := by
      cases h1 : Asm.fullR S x.v with
      | error e =>
        rw [h1] at hr
        injection hr with hr
        rw [hr]
      | ok n => rw [h1] at hr; cases hr
     exact li1_bad B (Asm.ran S k line) x.v x.ins.d hg.1 hp' er hf2 _ V hP bv bd kV kD
   | zero => rw [hq] at hr; cases hr
end Go.Proofs.YtabmlbnnhhpaoaaGreatDoor
