/- What this claim needs of AsmSeq, AsmSplit, Asm14, AsmRan, AsmLoop, AsmNext, AsmOut. -/
import Derived.Test.YtabmlbnnhhpaoaaGreatDoorEMAsmMark
import Derived.RangeFuncNested
import Derived.RangeFuncLeaves
import Derived.RangeFuncCalls
import Derived.OwnWalkIn
import Derived.TacticsInMore
import Derived.LoopNIn
import Derived.RecoverIn
import Derived.LoopIn
import Derived.Test.YtabmlbnnhhpaoaaGreatDoorEMAsmBase
import Derived.Test.YtabmlbnnhhpaoaaGreatDoorEMAsmIns
set_option linter.unusedSimpArgs false
set_option linter.unusedVariables false
set_option maxHeartbeats 1000000
namespace Go.Proofs.YtabmlbnnhhpaoaaGreatDoor
open Go.RowKit Go.Shelf
def Asm.SeqCell {α : Type} (F : Fence) (n : Nat) (P : Program) (g : Nat) (lb : Array Value) (encs : α → Array Value) (Kp : World → World → Prop) (xs : List α) (bs : Nat) (w : World) : Prop :=
 ∀ (l : Nat) (J : List α → World → Prop) (W : World), Below w.heap.size w W → AbidesFrom W.heap.size J → (∀ pre W1 v, J pre W1 → J pre (W1.setCell ⟨bs, 0, none⟩ v)) →
  (∀ pre x W1, J pre W1 → pre ++ [x] <+: xs → YieldAt F (n - 1) P l (encs x) W1 fun e W' => e = .returned (.bool true) ∧ J (pre ++ [x]) W' ∧ Kp W1 W') →
  J [] W →
  CallsIn F n P g (#[.func (.yield l) #[] #[]] ++ lb) W fun e W' => (∃ v, e = .returned v) ∧ J xs W'
theorem setCell_farG {w : World} {g k : Nat} {o : Obj} (h : w.heap[k]? = some o) (hne : k ≠ g) (i : Nat) (v : Value) : (w.setCell ⟨g, i, none⟩ v).heap[k]? = some o :=
 ((Asm.setCell_grown w g i v).block k (blk_size h) (fun e => hne (Option.some.inj e))).trans h
theorem wpIn_rangeFunc_cell {α : Type} {F : Fence} {n : Nat} {P : Program} {g : Operand} {ps : Array Tmp} {assign body : Code} {Q : Exit → Act → World → Prop} {a : Act} {w : World}
 (hro : F.round = none) (h1 : 1 ≤ n) {gf : Nat} {lb : Array Value} (hg : a.eval g = .func (.func gf) #[] lb) (hFg : F.fn gf) (eg : ∀ args w, (callFunc gf args).run P w = .ok (.enter gf args) w)
 {encs : α → Array Value} {Kp : World → World → Prop} {xs : List α} {bs : Nat} (hseq : Asm.SeqCell F (n - 1) P gf lb encs Kp xs bs w) (hbs : bs < w.heap.size)
 (hKt : ∀ {A B C : World}, Kp A B → Kp B C → Kp A C) (hKb : ∀ (W : World) (l : Nat) (o o' : Obj), w.heap.size ≤ l → W.heap[l]? = some o → o.isCells = false → o.isWalk = false → Kp W (W.putObj l o'))
 (hps : ∀ x, (encs x).size = ps.size) (I : List α → World → Prop) (hI : OwnFrom w.heap.size I) (hIs : ∀ pre W1 v, I pre W1 → I pre (W1.setCell ⟨bs, 0, none⟩ v)) (h0 : I [] w) (a₁ : α → Act)
 (hassign : ∀ (l : Nat) (x : α) (W : World) (K : Act → World → Prop), K (a₁ x) W →
  assign.wpIn (F.inRound l) (n - 1 - 1) P (Exit.then K (fun _ _ _ => False)) { tmps := (ps.zip (encs x)).foldl (fun t (p, v) => t.setIfInBounds p v) a.tmps, defers := [] } W)
 (hbody : ∀ (l : Nat) (pre : List α) (x : α) (W : World), I pre W → pre ++ [x] <+: xs → body.wpIn (F.inRound l) (n - 1 - 1) P (fun e _ W' => e = .normal ∧ KeepsFrom w.heap.size W W' ∧ Kp W W' ∧ I (pre ++ [x]) W') (a₁ x) W)
 (hdone : ∀ (D : Nat) (W : World), w.heap.size ≤ D → I xs W → W.heap[D]? = some (.deferred (some [])) → Q .normal { a with defers := { target := .collected D, args := #[] } :: a.defers } W) :
 (Code.rangeFunc g ps assign body).wpIn F n P Q a w := by
 refine wpIn_rangeFunc fun fn hfn => ?_
 rw [hro]
 obtain ⟨mk, hmk⟩ : ∃ mk : LoopState → Option Code → Obj, mk = fun st pe => .loop { state := st, pending := pe, fn, tmps := a.tmps, params := ps, assign, body, defers := w.heap.size } := ⟨_, rfl⟩
 obtain ⟨W1, hW1⟩ : ∃ W1, (w.alloc (.deferred (some []))).alloc (mk .ready none) = W1 := ⟨_, rfl⟩
 have sz1 : W1.heap.size = w.heap.size + 2 := by rw [← hW1, alloc_size, alloc_size]
 have L1 : W1.heap[w.heap.size + 1]? = some (mk .ready none) := by
  have h := heap_alloc_new (w.alloc (.deferred (some []))) (mk .ready none)
  rw [alloc_size, hW1] at h
  exact h
 have D1 : W1.heap[w.heap.size]? = some (.deferred (some [])) := hW1 ▸ blk_alloc _ (heap_alloc_new _ _)
 have B1 : Below w.heap.size w W1 := hW1 ▸ below_alloc' (below_alloc' (Below.refl _ _) _) _
 refine ⟨w.heap.size + 1, [{ target := .collected w.heap.size, args := #[] }], W1, { target := .fn (.func gf) lb, args := #[.func (.yield (w.heap.size + 1)) #[] #[]] }, W1, gf, #[.func (.yield (w.heap.size + 1)) #[] #[]] ++ lb, W1, ?_, ?_, ?_, ?_, fun _ => h1, ?_⟩
 · rw [← hW1, hmk]; exact run_enterLoop_outer _ _ _ _ _
 · simp only [resolve, hg]
   simp [go_sem]
 · intro f' hf'
   simp [Target.leads] at hf'
   subst hf'
   exact hFg
 · simp [invoke, go_sem, eg]
 · have own : ∀ {A : World} {row : Option Nat}, (∀ r, row = some r → W1.heap.size ≤ r ∧ ∃ o : Obj, A.heap[r]? = some o ∧ o.isWalk = true) → (∀ r, row = some r → w.heap.size ≤ r ∧ ∃ o : Obj, A.heap[r]? = some o ∧ o.isCells = false) :=
    fun h r e => by obtain ⟨k, o, ho, hw⟩ := h r e; exact ⟨by omega, o, ho, Obj.not_cells_of_walk hw⟩
   have low : ∀ {A B : World} {row : Option Nat} {k : Nat} {o : Obj}, A.grownBy B row → (∀ r, row = some r → W1.heap.size ≤ r ∧ ∃ o : Obj, A.heap[r]? = some o ∧ o.isWalk = true) → k < W1.heap.size → A.heap[k]? = some o → B.heap[k]? = some o :=
    fun h hr hk ho => (h.block _ (blk_size ho) (fun e => by have := (hr _ e.symm).1; omega)).trans ho
   refine (hseq (w.heap.size + 1) (fun pre W => I pre W ∧ W.heap[w.heap.size + 1]? = some (mk .ready none) ∧ W.heap[w.heap.size]? = some (.deferred (some []))) W1 B1
    (fun s A B row hs h hr => ⟨hI s A B row hs.1 h (own hr), low h hr (by omega) hs.2.1, low h hr (by omega) hs.2.2⟩)
    (fun pre W v hs => ⟨hIs pre W v hs.1, setCell_farG hs.2.1 (by omega) 0 v, setCell_farG hs.2.2 (by omega) 0 v⟩) ?_
    ⟨hW1 ▸ hI.alloc _ (hI.alloc _ h0), L1, D1⟩).mono ?_
   · rintro pre x W ⟨hi, hl, hd⟩ hpre
     have hy := run_yield (P := P) (args := encs x) (by rw [hmk] at hl; exact hl) (hps x)
     refine ⟨fn, _, assign, body, hy, roundIn_of_wpIn hfn (hassign _ x W _ ?_)⟩
     have hlt := blk_size hl
     refine ⟨_, run_beginRound (by rw [hmk] at hl; exact hl) rfl, ?_⟩
     obtain ⟨busy, hbusy⟩ : ∃ busy : Obj, busy = .loop { state := .busy, pending := none, fn, tmps := a.tmps, params := ps, assign, body, defers := w.heap.size } := ⟨_, rfl⟩
     rw [← hbusy]
     have l2 : (W.putObj (w.heap.size + 1) busy).heap[w.heap.size + 1]? = some busy := World.putObj_heap_same hlt
     have d2 : (W.putObj (w.heap.size + 1) busy).heap[w.heap.size]? = some (.deferred (some [])) := (World.putObj_heap_other (by omega)).trans hd
     have k2 : Kp W (W.putObj (w.heap.size + 1) busy) := hKb _ _ _ _ (by omega) hl (by rw [hmk]; rfl) (by rw [hmk]; rfl)
     refine wpIn_mono (hbody _ pre x _ (hI.putObj _ hi (by omega) hl (by rw [hmk]; rfl)) hpre) ?_
     rintro e a3 W3 ⟨rfl, kf, kp, i3⟩
     have l3 := kf.same _ _ (by omega) l2 (by rw [hbusy]; rfl)
     have d3 := kf.same _ _ (Nat.le_refl _) d2 rfl
     have hr := run_endRound (P := P) none (by rw [hbusy] at l3; exact l3)
     refine ⟨_, _, hr, rfl, ⟨hI.putObj _ i3 (by omega) l3 (by rw [hbusy]; rfl), ?_, (World.putObj_heap_other (by omega)).trans d3⟩, hKt k2 (hKt kp (hKb _ _ _ _ (by omega) l3 (by rw [hbusy]; rfl) (by rw [hbusy]; rfl)))⟩
     rw [hmk]
     exact World.putObj_heap_same (blk_size l3)
   · rintro e W2 ⟨⟨v, rfl⟩, hi, hl, hd⟩
     exact ⟨none, _, run_endLoop (P := P) (by rw [hmk] at hl; exact hl) (by simp), hdone _ _ (Nat.le_refl _) (hI.putObj _ hi (by omega) hl (by rw [hmk]; rfl)) ((World.putObj_heap_other (by omega)).trans hd)⟩
end Go.Proofs.YtabmlbnnhhpaoaaGreatDoor
set_option maxHeartbeats 4000000
set_option maxRecDepth 100000
namespace Go.Proofs.YtabmlbnnhhpaoaaGreatDoor
open Go.RowKit Go.Shelf
namespace Asm
def lines : List UInt8 → List (List UInt8)
 | [] => [[]]
 | c :: l => if c = 10 then [] :: lines l else (match lines l with | h :: t => (c :: h) :: t | [] => [[c]])
theorem lines_none : ∀ l : List UInt8, Lib.indexByte l 10 < 0 → lines l = [l]
 | [], _ => rfl
 | c :: l, h => by
  have hb := indexByte_lt l 10
  unfold Lib.indexByte at h
  unfold lines
  by_cases hc : c = 10
  · subst hc; simp at h
  · rw [if_neg hc]
    have h2 : Lib.indexByte l 10 < 0 := by
     split at h
     · omega
     · split at h
       · rename_i h3; have := eq_of_beq h3; omega
       · omega
    rw [lines_none l h2]
theorem lines_some : ∀ (l : List UInt8) (n : Nat), Lib.indexByte l 10 = (n : Int) → n < l.length ∧ lines l = l.take n :: lines (l.drop (n + 1))
 | [], n, h => by unfold Lib.indexByte at h; omega
 | c :: l, n, h => by
  have hb := indexByte_lt l 10
  unfold Lib.indexByte at h
  by_cases hc : c = 10
  · subst hc
    simp at h
    have : n = 0 := by omega
    subst this
    exact ⟨by simp, by simp [lines]⟩
  · have hcb : (c == 10) = false := by simpa using hc
    rw [hcb] at h
    simp only [Bool.false_eq_true, if_false] at h
    split at h
    · omega
    · rename_i h3
      have h4 : ¬ Lib.indexByte l 10 = -1 := fun e => h3 (by rw [e]; rfl)
      obtain ⟨m, rfl⟩ : ∃ m, n = m + 1 := ⟨n - 1, by omega⟩
      obtain ⟨h1, h2⟩ := lines_some l m (by omega)
      refine ⟨by simp; omega, ?_⟩
      conv => lhs; unfold lines
      rw [if_neg hc, h2]
      rfl
def leftAt (bs : Nat) (w : World) : Nat := match w.cell? ⟨bs, 0, none⟩ with | some (.string s) => s.size | _ => 0
def same3 (b1 b2 b3 : Nat) (W W' : World) : Prop := W'.heap[b1]? = W.heap[b1]? ∧ W'.heap[b2]? = W.heap[b2]? ∧ W'.heap[b3]? = W.heap[b3]?
end Asm
theorem split_seq (n : Nat) (hn : 1 ≤ n) (src : List UInt8) (hl : src.length ≤ 1000000) (b1 b2 b3 : Nat) (h12 : b1 ≠ b2) (h32 : b3 ≠ b2) (w : World)
 (k1 : w.heap[b1]? = some (.cells #[.string ⟨#[10]⟩] 9 (0, 0))) (k2 : w.heap[b2]? = some (.cells #[.string ⟨src.toArray⟩] 9 (0, 0))) (k3 : w.heap[b3]? = some (.cells #[.int .i64 0] 3 (0, 0))) :
 Asm.SeqCell Fence.wide n Tryz.prog 84 #[.pointer (some ⟨b1, 0, none⟩), .pointer (some ⟨b2, 0, none⟩), .pointer (some ⟨b3, 0, none⟩)] (fun x : List UInt8 => #[.string ⟨x.toArray⟩]) (Asm.same3 b1 b2 b3) (Asm.lines src) b2 w := by
 intro l J W hB hJ hJs hY h0
 have m1 := blk_keep hB k1
 have m2 := blk_keep hB k2
 have m3 := blk_keep hB k3
 obtain ⟨d1, f1⟩ := blk_facts m1
 have c1 : W.cell? ⟨b1, 0, none⟩ = some (.string ⟨#[10]⟩) := d1 0
 clear d1 f1
 refine callsIn_of_wp Tryz.func84 rfl trivial ?_ rfl
 simp only [Tryz.ntmps84, List.size_toArray, List.length_cons, List.length_nil, Nat.reduceAdd, Nat.reduceSub, Array.replicate_succ, Array.replicate_zero, List.push_toArray, List.append_toArray, List.nil_append, List.cons_append]
 gi_wp2_with fail
 gi_loopw [7] (fun _ wr => ∃ (pre : List (List UInt8)) (r : List UInt8), Asm.lines src = pre ++ Asm.lines r ∧ r.length ≤ 1000000 ∧ wr.heap[b1]? = some (.cells #[.string ⟨#[10]⟩] 9 (0, 0)) ∧ wr.heap[b2]? = some (.cells #[.string ⟨r.toArray⟩] 9 (0, 0)) ∧ wr.heap[b3]? = some (.cells #[.int .i64 0] 3 (0, 0)) ∧ J pre wr) (fun _ wr => Asm.leftAt b2 wr)
 case atStart => exact ⟨[], src, rfl, hl, m1, m2, m3, h0⟩
 case round =>
  obtain ⟨pre, r, hpr, hlr, n1, n2, n3, hj⟩ := hrel
  clear m1 m2 m3 c1
  obtain ⟨d1, _⟩ := blk_facts n1
  obtain ⟨d2, g2⟩ := blk_facts n2
  obtain ⟨d3, _⟩ := blk_facts n3
  have c1 : wr.cell? ⟨b1, 0, none⟩ = some (.string ⟨#[10]⟩) := d1 0
  have c2 : wr.cell? ⟨b2, 0, none⟩ = some (.string ⟨r.toArray⟩) := d2 0
  have c3 : wr.cell? ⟨b3, 0, none⟩ = some (.int .i64 0) := d3 0
  have f2 : wr.frozen? ⟨b2, 0, none⟩ = false := g2 0
  have z2 := blk_size n2
  have hix := Asm.indexByte_lt r 10
  have hc := Tryz.strings_Index_one ⟨r.toArray⟩ 10 wr
  rw [show (⟨r.toArray⟩ : ByteArray).data.toList = r from rfl] at hc
  have hsz : (⟨r.toArray⟩ : ByteArray).size = r.length := by simp [ByteArray.size]
  clear d1 d2 g2 d3
  obtain ⟨i, hi⟩ : ∃ i, Lib.indexByte r 10 = i := ⟨_, rfl⟩
  rw [hi] at hc hix
  by_cases hneg : i < 0
  · have hln := Asm.lines_none r (by omega)
    rw [hln] at hpr
    obtain ⟨fn, tmps, assign, body, hy, hR⟩ := hY pre r wr hj (by rw [hpr]; exact List.prefix_refl _)
    gi_wp2_with (refine ⟨trivial, ?_⟩; gi_at_call 86; refine (callsIn_wide.2 hc).mono ?_; rintro e w' ⟨rfl, rfl⟩)
    refine hR.mono ?_
    rintro e W3 ⟨rfl, hj3, hk3⟩
    gi_wp2
    go_end0
    exact ⟨⟨_, rfl⟩, by rw [hpr]; exact hj3⟩
  · obtain ⟨k, rfl⟩ : ∃ k : Nat, i = k := ⟨i.toNat, by omega⟩
    obtain ⟨hk, hln⟩ := Asm.lines_some r k hi
    obtain ⟨fn, tmps, assign, body, hy, hR⟩ := hY pre (r.take k) wr hj ⟨Asm.lines (r.drop (k + 1)), by rw [hpr, hln]; simp⟩
    have hx : (⟨(r.take k).toArray⟩ : ByteArray) = (⟨r.toArray⟩ : ByteArray).extract 0 k := by rw [Lib.extract_mk]; simp
    rw [hx] at hy
    gi_wp2_with (refine ⟨trivial, ?_⟩; gi_at_call 86; refine (callsIn_wide.2 hc).mono ?_; rintro e w' ⟨rfl, rfl⟩)
    refine hR.mono ?_
    rintro e W3 ⟨rfl, hj3, s1, s2, s3⟩
    have q1 := s1.trans n1
    have q2 := s2.trans n2
    have q3 := s3.trans n3
    obtain ⟨d1, _⟩ := blk_facts q1
    obtain ⟨d2, g2⟩ := blk_facts q2
    have e1 : W3.cell? ⟨b1, 0, none⟩ = some (.string ⟨#[10]⟩) := d1 0
    have e2 : W3.cell? ⟨b2, 0, none⟩ = some (.string ⟨r.toArray⟩) := d2 0
    have e3 : W3.frozen? ⟨b2, 0, none⟩ = false := g2 0
    have e4 := blk_size q2
    clear d1 d2 g2
    have hy' : (⟨r.toArray⟩ : ByteArray).extract (k + 1) r.length = ⟨(r.drop (k + 1)).toArray⟩ := by rw [Lib.extract_mk, List.take_of_length_le (by simp)]
    gi_wp2
    have r2 := setCell_row q2 0 (.string ⟨(r.drop (k + 1)).toArray⟩) (cs' := #[.string ⟨(r.drop (k + 1)).toArray⟩]) rfl
    refine ⟨⟨pre ++ [r.take k], r.drop (k + 1), by rw [hpr, hln]; simp, by simp; omega, setCell_farG q1 h12 0 _, r2, setCell_farG q3 h32 0 _, hJs _ _ _ hj3⟩, ?_⟩
    have u1 : (W3.setCell ⟨b2, 0, none⟩ (.string ⟨(r.drop (k + 1)).toArray⟩)).cell? ⟨b2, 0, none⟩ = some (.string ⟨(r.drop (k + 1)).toArray⟩) := (blk_facts r2).1 0
    unfold Asm.leftAt
    rw [u1, c2]
    simp [ByteArray.size]; omega
end Go.Proofs.YtabmlbnnhhpaoaaGreatDoor
set_option maxHeartbeats 2000000
set_option maxRecDepth 100000
namespace Go.Proofs.YtabmlbnnhhpaoaaGreatDoor
open Go.RowKit Go.Shelf
theorem split0_calls (src : List UInt8) (w : World) : Calls Tryz.prog 49 #[.string ⟨src.toArray⟩, .string ⟨#[10]⟩, .int .i64 0] w fun e w' =>
 e = .returned (.func (.func 84) #[] #[.pointer (some ⟨w.heap.size + 1, 0, none⟩), .pointer (some ⟨w.heap.size, 0, none⟩), .pointer (some ⟨w.heap.size + 1 + 1, 0, none⟩)]) ∧
 w' = ((w.alloc (.cells #[.string ⟨src.toArray⟩] 9)).alloc (.cells #[.string ⟨#[10]⟩] 9)).alloc (.cells #[.int .i64 0] 3) := by
 have hmf : ∀ (fn : Fn) (first cap : Array Value) (w : World), (Instr.makeFunc fn first cap).run Tryz.prog w = .ok (.func fn first cap) w := fun _ _ _ _ => rfl
 go_enter Tryz.func49, Tryz.ntmps49
 go_wp2_with fail
 go_ret
 exact ⟨rfl, rfl⟩
theorem splitseq_calls (src : List UInt8) (w : World) : Calls Tryz.prog 26 #[.string ⟨src.toArray⟩, .string ⟨#[10]⟩] w fun e w' =>
 e = .returned (.func (.func 84) #[] #[.pointer (some ⟨w.heap.size + 1, 0, none⟩), .pointer (some ⟨w.heap.size, 0, none⟩), .pointer (some ⟨w.heap.size + 1 + 1, 0, none⟩)]) ∧
 w' = ((w.alloc (.cells #[.string ⟨src.toArray⟩] 9)).alloc (.cells #[.string ⟨#[10]⟩] 9)).alloc (.cells #[.int .i64 0] 3) := by
 go_enter Tryz.func26, Tryz.ntmps26
 go_wp2_with fail
 refine (split0_calls src _).mono ?_
 rintro e w' ⟨rfl, rfl⟩
 go_wp2_with fail
 go_ret
 exact ⟨rfl, rfl⟩
theorem catch_idle (n : Nat) (a b c : Value) (w : World) :
 CallsDIn Fence.wide n Tryz.prog 25 #[a, b, c] .returning w fun e u' w' => e = .returned (.tuple #[]) ∧ u' = .returning ∧ Below w.heap.size w w' := by
 have hta : ∀ w : World, (Instr.typeAssert .nilIface 20 68 true).run Tryz.prog w = .ok (.tuple #[.agg #[.int .i64 0, .int .i64 0], .bool false]) w := fun w => by kernel_rfl
 refine callsDIn_of_wpSIn Tryz.func25 rfl trivial fun c₀ cs hu => ?_
 apply wpSIn_seq
 apply wpSIn_region
 simp [wpOpsSIn, go_sem, recoverD, hu, Tryz.ntmps25, Exit.thenS, hta]
 refine wpSIn_of_wpIn rfl ?_
 refine wpIn_wide.2 ?_
 go_wp2_with fail
 have hbl : Below w.heap.size w (w.alloc (.cells #[.int .i64 0, .int .i64 0] 68)) := below_alloc' (Below.refl _ _) _
 cases c₀
 simp_all [bodyPostS, results, Tryz.results25]
namespace Asm
def Keep (B : PB) (L : List (Nat × Obj)) (W : World) : Prop := ∀ p ∈ L, W.heap[p.1]? = some p.2 ∧ ¬ B.owns p.1
theorem Keep.step {B B' : PB} {L : List (Nat × Obj)} {W W' : World} (h : Keep B L W) (hs : Step B W B' W') : Keep B' L W' := fun p hp => hs.keep (h p hp).1 (h p hp).2
theorem Par.abides {B : PB} {S : PS} {W W' : World} {row : Option Nat} (h : Par B S W) (hg : W.grownBy W' row) (hr : ∀ r, row = some r → r ≠ B.mb ∧ ∃ o : Obj, W.heap[r]? = some o ∧ o.isCells = false) : Par B S W' := by
 have hot : ∀ {g : Nat} {cs : Array Value} {t : TypeId} {fr : Nat × Nat}, W.heap[g]? = some (.cells cs t fr) → W'.heap[g]? = some (.cells cs t fr) := fun {g cs t fr} hk => (hg.block g (blk_size hk) (fun e => by
  obtain ⟨_, o, ho, hc⟩ := hr g e.symm
  rw [hk] at ho
  cases ho
  cases hc)).trans hk
 have rowk : ∀ {base : Nat} {e : TypeId} {size : Nat} {v : Value} {n : Nat} {xs : List Value}, W.ownsRow base e size v n xs → W'.ownsRow base e size v n xs := fun {base e size v n xs} hw => hw.kept hg (by
  cases hv : v.ownBlock with
  | none => exact .inl rfl
  | some g =>
   refine .inr fun e2 => ?_
   obtain ⟨c, hc⟩ := row_type hw hv
   obtain ⟨_, o, ho, hc2⟩ := hr g e2.symm
   rw [hc] at ho
   cases ho
   cases hc2)
 exact ⟨hot h.own, h.toks.keep fun g cur hk => hot hk, h.map.kept hg (fun e => (hr B.mb e.symm).1 rfl), rowk h.pieces, h.fsl, fun j x f h1 h2 => by
  exact (h.fns j x f h1 h2).keep fun k _ cs t _ he => hot he, h.nodup, h.fbase, rowk h.labels, rowk h.fresh, h.b0, h.m0⟩
structure RI (w : World) (st : Nat → PS) (L : List (Nat × Obj)) (bs pb mb : Nat) (pre : List (List UInt8)) (W : World) : Prop where
 par : ∃ B, Par B (st pre.length) W ∧ B.b = pb ∧ B.mb = mb ∧ B.n0 = w.heap.size ∧ Keep B L W ∧ ¬ B.owns bs
 cell : ∃ cs, W.heap[bs]? = some (.cells cs 9 (0, 0))
 below : Below w.heap.size w W
theorem RI.own {w : World} {st : Nat → PS} {L : List (Nat × Obj)} {bs pb mb N : Nat} (hL : ∀ p ∈ L, ∃ cs t fr, p.2 = .cells cs t fr) (hm : mb < N) (hN : w.heap.size ≤ N) : OwnFrom N (RI w st L bs pb mb) := by
 intro pre W W' row h hg hr
 have hot : ∀ {g : Nat} {cs : Array Value} {t : TypeId} {fr : Nat × Nat}, W.heap[g]? = some (.cells cs t fr) → W'.heap[g]? = some (.cells cs t fr) := fun {g cs t fr} hk => (hg.block g (blk_size hk) (fun e => by
  obtain ⟨_, o, ho, hc⟩ := hr g e.symm
  rw [hk] at ho
  cases ho
  cases hc)).trans hk
 obtain ⟨B, h1, h2, h3, h4, h5, h6⟩ := h.par
 refine ⟨⟨B, h1.abides hg (fun r e => ⟨fun e2 => by have := (hr r e).1; omega, (hr r e).2⟩), h2, h3, h4, fun p hp => ?_, h6⟩, ?_, h.below.grown hg h.below.size (fun k e => Nat.le_trans hN (hr k e).1)⟩
 · obtain ⟨cs, t, fr, e⟩ := hL p hp
   obtain ⟨k1, k2⟩ := h5 p hp
   rw [e] at k1 ⊢
   exact ⟨hot k1, k2⟩
 · obtain ⟨cs, hc⟩ := h.cell
   exact ⟨cs, hot hc⟩
theorem RI.set {w : World} {st : Nat → PS} {L : List (Nat × Obj)} {bs pb mb : Nat} (hL : ∀ p ∈ L, p.1 ≠ bs) (hb : w.heap.size ≤ bs) {pre : List (List UInt8)} {W : World} (v : Value) (h : RI w st L bs pb mb pre W) : RI w st L bs pb mb pre (W.setCell ⟨bs, 0, none⟩ v) := by
 obtain ⟨B, h1, h2, h3, h4, h5, h6⟩ := h.par
 obtain ⟨cs, hc⟩ := h.cell
 exact ⟨⟨B, h1.setOther hc (by decide) h6 0 v, h2, h3, h4, fun p hp => ⟨setCell_farG (h5 p hp).1 (hL p hp) 0 v, (h5 p hp).2⟩, h6⟩, ⟨_, setCell_row hc 0 v rfl⟩, h.below.setCell (p := ⟨bs, 0, none⟩) hb v⟩
theorem RI.step {w : World} {st : Nat → PS} {L : List (Nat × Obj)} {bs pb mb : Nat} {pre : List (List UInt8)} {x : List UInt8} {W W' : World} {B B' : PB} (h : RI w st L bs pb mb pre W) (hP : Par B (st pre.length) W) (h2 : B.b = pb) (h3 : B.mb = mb) (h4 : B.n0 = w.heap.size) (h5 : Keep B L W) (h6 : ¬ B.owns bs)
 (hP' : Par B' (st (pre.length + 1)) W') (hs : Step B W B' W') : RI w st L bs pb mb (pre ++ [x]) W' := by
 obtain ⟨cs, hc⟩ := h.cell
 obtain ⟨k1, k2⟩ := hs.keep hc h6
 refine ⟨⟨B', by rw [List.length_append]; exact hP', hs.b.trans h2, hs.mb.trans h3, hs.n0.trans h4, h5.step hs, k2⟩, ⟨cs, k1⟩, ?_⟩
 exact h.below.trans (hs.below w.heap.size (fun g hg => h4 ▸ hP.base g hg) h.below.size)
theorem Step.keepsFrom {B B' : PB} {S : PS} {W W' : World} (hP : Par B S W) (hs : Step B W B' W') {N : Nat} (hm : B.mb < N) : KeepsFrom N W W' := by
 refine ⟨hs.off.size, fun k o hk ho hc => (hs.off.block k (blk_size ho) (fun hown => ?_)).trans ho⟩
 rcases hown with e | e | e | e | e | ⟨p, hp, hg⟩
 · rw [e, hP.own] at ho; cases ho; cases hc
 · omega
 · obtain ⟨c, h⟩ := row_type hP.pieces e; rw [h] at ho; cases ho; cases hc
 · obtain ⟨c, h⟩ := row_type hP.labels e; rw [h] at ho; cases ho; cases hc
 · obtain ⟨c, h⟩ := row_type hP.fresh e; rw [h] at ho; cases ho; cases hc
 · obtain ⟨c, t, h, _⟩ := hP.box hp hg
   rw [h] at ho; cases ho; cases hc
end Asm
end Go.Proofs.YtabmlbnnhhpaoaaGreatDoor
namespace Go.Proofs.YtabmlbnnhhpaoaaGreatDoor
open Go.RowKit Go.Shelf
namespace Asm
def Piece.done (S : PS) (x : Piece) : Piece :=
 match x.kind with
 | .enc => { x with ins := { x.ins with imm := numAt S x.at_ x.ins x.v } }
 | _ => x
theorem done_enc (S : PS) {x : Piece} (h : x.kind = .enc) : Piece.done S x = { x with ins := { x.ins with imm := numAt S x.at_ x.ins x.v } } := by unfold Piece.done; rw [h]
theorem done_word (S : PS) {x : Piece} {l : List Val} (h : x.kind = .word l) : Piece.done S x = x := by unfold Piece.done; rw [h]
theorem done_li (S : PS) {x : Piece} (h : x.kind = .li) : Piece.done S x = x := by unfold Piece.done; rw [h]
theorem done_zero (S : PS) {x : Piece} (h : x.kind = .zero) : Piece.done S x = x := by unfold Piece.done; rw [h]
theorem done_same (S : PS) (x : Piece) : (Piece.done S x).line = x.line ∧ (Piece.done S x).at_ = x.at_ := by
 unfold Piece.done; cases x.kind <;> exact ⟨rfl, rfl⟩
def ran (S : PS) (k : Nat) (line : Int) : PS := { S with line := line, toks := [], pieces := (S.pieces.take k).map (Piece.done S) ++ S.pieces.drop k }
structure EncOk (S : PS) (x : Piece) : Prop where
 ins : InsOk x.ins
 len : x.v.name.length ≤ 1000000
 val : valOk S x.v = true
 at0 : 0 ≤ x.at_
 at1 : x.at_ ≤ 4294967296
 v0 : -1099511627776 ≤ valOf S x.v
 v1 : valOf S x.v ≤ 1099511627776
 n0 : -2147483648 ≤ numAt S x.at_ x.ins x.v
 n1 : numAt S x.at_ x.ins x.v ≤ 2147483647
 enc : (Isa.enc x.ins.op x.ins.d x.ins.a x.ins.b (numAt S x.at_ x.ins x.v)).2 = 0
structure FullOk (S : PS) (v : Val) : Prop where
 len : v.name.length ≤ 1000000
 val : valOk S v = true
 v0 : -2147483648 ≤ valOf S v
 v1 : valOf S v ≤ 4294967295
def PieceOk (S : PS) (x : Piece) : Prop :=
 match x.kind with
 | .enc => EncOk S x
 | .word l => l ≠ [] ∧ l.length ≤ 1000000 ∧ ∀ v, v ∈ l → FullOk S v
 | .li => FullOk S x.v ∧ 0 ≤ x.ins.d ∧ x.ins.d ≤ 15
 | .zero => 0 < x.v.n ∧ x.v.n ≤ 4096
def wordsOf (S : PS) (x : Piece) : List Int :=
 match x.kind with
 | .enc => [wordAt S x.at_ x.ins x.v]
 | .word l => l.map fun v => valOf S v % 4294967296
 | .li => [(Isa.enc 23 x.ins.d 0 0 (valOf S x.v % 4294967296 / 16384)).1, (Isa.enc 16 x.ins.d x.ins.d 0 (valOf S x.v % 16384)).1]
 | .zero => List.replicate x.v.n.toNat 0
def word32 (n : Int) : Value := .int .u32 n
theorem ran_length (S : PS) (k : Nat) (line : Int) (hk : k ≤ S.pieces.length) : (ran S k line).pieces.length = S.pieces.length := by
 simp [ran]; omega
theorem ran_at (S : PS) (k : Nat) (line : Int) (hk : k < S.pieces.length) : (ran S k line).pieces[k]? = some S.pieces[k] := by
 unfold ran
 rw [List.getElem?_append_right (by simp; omega)]
 simp [Nat.min_eq_left (Nat.le_of_lt hk)]
theorem ran_next (S : PS) (k : Nat) (line line' : Int) (hk : k < S.pieces.length) : (ran S (k + 1) line').pieces = (ran S k line).pieces.set k (Piece.done S S.pieces[k]) := by
 unfold ran
 simp only
 have h1 : S.pieces.take (k + 1) = S.pieces.take k ++ [S.pieces[k]] := List.take_succ_eq_append_getElem hk
 have h2 : S.pieces.drop k = S.pieces[k] :: S.pieces.drop (k + 1) := List.drop_eq_getElem_cons hk
 rw [h1, h2, List.map_append, List.set_append_right _ _ (by simp; omega)]
 simp [Nat.min_eq_left (Nat.le_of_lt hk)]
 rw [h2]; rfl
theorem flat_apart : ∀ (l : List (Nat × List Nat)), (l.flatMap (·.2)).Nodup → ∀ (j k : Nat) (p q : Nat × List Nat), l[j]? = some p → l[k]? = some q → j < k → ∀ a, a ∈ p.2 → a ∈ q.2 → False
 | [], _, _, _, _, _, h, _, _, _, _, _ => by cases h
 | f :: l, hn, j, k, p, q, hp, hq, hjk, a, ha, hb => by
  rw [List.flatMap_cons, List.nodup_append] at hn
  obtain ⟨m, rfl⟩ : ∃ m, k = m + 1 := ⟨k - 1, by omega⟩
  have hq' : l[m]? = some q := by simpa using hq
  cases j with
  | zero =>
   simp at hp
   subst hp
   exact hn.2.2 a ha a (List.mem_flatMap.2 ⟨q, List.mem_of_getElem? hq', hb⟩) rfl
  | succ j => exact flat_apart l hn.2.1 j m p q (by simpa using hp) hq' (by omega) a ha hb
theorem Par.ranOne {B : PB} {S : PS} {w w' : World} (h : Par B S w) {k : Nat} {x : Piece} (hx : S.pieces[k]? = some x) {f : Nat × List Nat} (hf : B.fs[k]? = some f) (x' : Piece) (hxl : x'.line = x.line ∧ x'.at_ = x.at_) (ho : Off (· ∈ f.2) w w') (hfn : FnIs w' x' f) :
 Par B { S with pieces := S.pieces.set k x' } w' := by
 have hm : f ∈ B.fs := List.mem_of_getElem? hf
 have hbox := fun g hg => (h.fns k x _ hx hf).box (g := g) hg
 have hot : ∀ {g : Nat} {o : Obj}, w.heap[g]? = some o → g ∉ f.2 → w'.heap[g]? = some o := fun {g o} hg hne => (ho.block g (blk_size hg) hne).trans hg
 have hot2 : ∀ {g : Nat} {cs : Array Value} {t : TypeId} {fr : Nat × Nat}, w.heap[g]? = some (.cells cs t fr) → boxT t = false → w'.heap[g]? = some (.cells cs t fr) := fun {g cs t fr} hg hne => hot hg (fun e => by
  obtain ⟨c, t', hc, hb⟩ := hbox g e
  rw [hc] at hg
  injection (Option.some.inj hg) with _ q
  rw [q, hne] at hb; cases hb)
 have hblk : ∀ {v : Value} {base : Nat} {e : TypeId} {size n : Nat} {xs : List Value}, w.ownsRow base e size v n xs → boxT e = false → w'.ownsRow base e size v n xs := fun {v base e size n xs} hr hne => by
  refine ⟨hr.1, ?_⟩
  rcases hr.2 with h0 | ⟨g, cap, cur, h0, hb, hg, hrest⟩
  · exact .inl h0
  · exact .inr ⟨g, cap, cur, h0, hb, hot2 hg hne, hrest⟩
 have hk : k < S.pieces.length := (List.getElem?_eq_some_iff.1 hx).1
 have hmap : w'.ownsMap Tryz.prog 9 (plainElem (H := Unit) Tryz.prog 2) B.mb S.puts S.places := by
  obtain ⟨es, clock, hb, hrest⟩ := h.map
  exact ⟨es, clock, hot hb (fun e => by
   obtain ⟨c, t', hc, _⟩ := hbox _ e
   rw [hc] at hb; cases hb), hrest⟩
 refine ⟨hot2 h.own (by decide), h.toks.keep fun g cur hg => hot2 hg (by decide), hmap, ?_, by simp [h.fsl], ?_, h.nodup, h.fbase, hblk h.labels (by decide), hblk h.fresh (by decide), h.b0, h.m0⟩
 · have hz : ∀ (l : List Piece) (fs : List (Nat × List Nat)) (k : Nat) (x : Piece), x'.line = x.line ∧ x'.at_ = x.at_ → l[k]? = some x → ((l.set k x').zip fs).flatMap (fun x => pieceCells x.1 x.2) = (l.zip fs).flatMap (fun x => pieceCells x.1 x.2) := by
    intro l
    induction l with
    | nil => intro fs k x _ h; cases h
    | cons y l ih =>
     intro fs k x hq h
     cases fs with
     | nil => simp
     | cons f fs =>
      cases k with
      | zero => simp at h; subst h; simp [pieceCells, hq.1, hq.2]
      | succ k =>
       have := ih fs k x hq (by simpa using h)
       simp only [List.set_cons_succ, List.zip_cons_cons, List.flatMap_cons, this]
   show w'.ownsRow B.n0 82 3 B.vp (S.pieces.set k x').length _
   rw [List.length_set, hz _ _ _ _ hxl hx]
   exact hblk h.pieces (by decide)
 · intro j y q h1 h2
   by_cases hj : j = k
   · subst hj
     rw [hf] at h2
     cases h2
     have : y = x' := by
      have h1' : (S.pieces.set j x')[j]? = some y := h1
      rw [List.getElem?_set_self hk] at h1'
      exact (Option.some.inj h1').symm
     subst this
     exact hfn
   · have h1' : S.pieces[j]? = some y := by
      have h1'' : (S.pieces.set k x')[j]? = some y := h1
      rwa [List.getElem?_set_ne (fun e => hj e.symm)] at h1''
     refine (h.fns j y q h1' h2).keep fun g hg cs t _ he => hot he fun hmem => ?_
     rcases Nat.lt_or_gt_of_ne hj with hlt | hgt
     · exact flat_apart B.fs h.nodup j k _ _ h2 hf hlt g hg hmem
     · exact flat_apart B.fs h.nodup k j _ _ hf h2 hgt g hmem hg
end Asm
end Go.Proofs.YtabmlbnnhhpaoaaGreatDoor
namespace Go.Proofs.YtabmlbnnhhpaoaaGreatDoor
open Go.RowKit Go.Shelf
namespace Asm
theorem flat3 {α : Type} (f : α → List Value) (hf : ∀ x, (f x).length = 3) : ∀ (l : List α) (k i : Nat) (x : α), l[k]? = some x → i < 3 → (l.flatMap f)[k * 3 + i]? = (f x)[i]?
 | [], k, i, x, h, _ => by cases h
 | y :: l, 0, i, x, h, hi => by
  simp at h; subst h
  rw [List.flatMap_cons, List.getElem?_append_left (by rw [hf]; omega)]
  simp
 | y :: l, k + 1, i, x, h, hi => by
  rw [List.flatMap_cons, List.getElem?_append_right (by rw [hf]; omega), hf, show (k + 1) * 3 + i - 3 = k * 3 + i by omega]
  exact flat3 f hf l k i x (by simpa using h) hi
theorem row_cells {w : World} {base : Nat} {e : TypeId} {size : Nat} {v : Value} {n : Nat} {xs : List Value} (h : w.ownsRow base e size v n xs) (hn : 0 < n) :
 ∃ g cap, v = .slice (some ⟨g, 0, none⟩) n cap ∧ n ≤ cap ∧ cap ≤ maxLen ∧ g < w.heap.size ∧ ∀ i, i < n * size → w.cell? ⟨g, i, none⟩ = xs[i]? := by
 rcases h.2 with ⟨_, e0⟩ | ⟨g, cap, cur, rfl, hb, hg, h1, h2, h3, h4⟩
 · omega
 · refine ⟨g, cap, rfl, h1, h2, blk_size hg, fun i hi => ?_⟩
   rw [(blk_facts hg).1 i, ← h4, ← Array.getElem?_toList, List.getElem?_take, if_pos hi]
theorem Par.piece {B : PB} {S : PS} {w : World} (h : Par B S w) {k : Nat} {x : Piece} (hx : S.pieces[k]? = some x) :
 ∃ g cap f, B.vp = .slice (some ⟨g, 0, none⟩) S.pieces.length cap ∧ S.pieces.length ≤ cap ∧ cap ≤ maxLen ∧ g < w.heap.size ∧ B.fs[k]? = some f ∧
  w.cell? ⟨g, k * 3, none⟩ = some (.int .i64 x.line) ∧ w.cell? ⟨g, k * 3 + 1, none⟩ = some (.int .i64 x.at_) ∧ w.cell? ⟨g, k * 3 + 2, none⟩ = some (fnVal f) ∧ FnIs w x f := by
 have hk : k < S.pieces.length := (List.getElem?_eq_some_iff.1 hx).1
 obtain ⟨g, cap, e, h1, h2, h3, h4⟩ := row_cells h.pieces (by omega)
 have hk2 : k < B.fs.length := h.fsl ▸ hk
 have hf' : B.fs[k]? = some B.fs[k] := List.getElem?_eq_getElem hk2
 have hfn := h.fns k x B.fs[k] hx hf'
 have hz : (S.pieces.zip B.fs)[k]? = some (x, B.fs[k]) := by
  rw [List.getElem?_zip_eq_some]
  exact ⟨hx, hf'⟩
 have hc := fun i (hi : i < 3) => (h4 (k * 3 + i) (by omega)).trans (flat3 (fun x : Piece × (Nat × List Nat) => pieceCells x.1 x.2) (fun _ => rfl) _ k i _ hz hi)
 exact ⟨g, cap, _, e, h1, h2, h3, hf', hc 0 (by omega), hc 1 (by omega), hc 2 (by omega), hfn⟩
theorem Par.grownU32 {B : PB} {S : PS} {W W' : World} {row : Option Nat} (h : Par B S W) (hg : W.grownBy W' row) (hr : ∀ r, row = some r → ∃ cur, W.heap[r]? = some (.cells cur 23 (0, 0))) : Par B S W' := by
 have hot : ∀ {g : Nat} {cs : Array Value} {t : TypeId} {fr : Nat × Nat}, W.heap[g]? = some (.cells cs t fr) → t ≠ 23 → W'.heap[g]? = some (.cells cs t fr) := fun {g cs t fr} hk hne => (hg.block g (blk_size hk) (fun e => by
  obtain ⟨c, hc⟩ := hr g e.symm
  rw [hk] at hc
  injection (Option.some.inj hc) with _ q
  exact hne q)).trans hk
 have rowk : ∀ {base : Nat} {e : TypeId} {size : Nat} {v : Value} {n : Nat} {xs : List Value}, W.ownsRow base e size v n xs → e ≠ 23 → W'.ownsRow base e size v n xs := fun {base e size v n xs} hw hne => hw.kept hg (by
  cases hv : v.ownBlock with
  | none => exact .inl rfl
  | some g =>
   refine .inr fun e2 => ?_
   obtain ⟨c, hc⟩ := row_type hw hv
   obtain ⟨c2, hc2⟩ := hr g e2.symm
   rw [hc] at hc2
   injection (Option.some.inj hc2) with _ q
   exact hne q)
 have hmb : some B.mb ≠ row := fun e => by
  obtain ⟨es, clock, hb, _⟩ := h.map
  obtain ⟨c, hc⟩ := hr B.mb e.symm
  rw [hb] at hc; cases hc
 exact ⟨hot h.own (by decide), h.toks.keep fun g cur hk => hot hk (by decide), h.map.kept hg hmb, rowk h.pieces (by decide), h.fsl, fun j x f h1 h2 => by
  exact (h.fns j x f h1 h2).keep fun k _ cs t hb he => hot he (boxT_ne hb (by decide)), h.nodup, h.fbase, rowk h.labels (by decide), rowk h.fresh (by decide), h.b0, h.m0⟩
theorem ran_step (S : PS) (k : Nat) (line : Int) (hk : k < S.pieces.length) (x : Piece) (hx : S.pieces[k] = x) : ({ ran S k line with pieces := (ran S k line).pieces.set k (Piece.done S x) } : PS) = ran S (k + 1) line := by
 have h := ran_next S k line line hk
 rw [hx] at h
 rw [← h]
 rfl
def Boxes (w : World) (f : List Nat) : Prop := ∀ g, g ∈ f → ∃ cur t, w.heap[g]? = some (.cells cur t (0, 0)) ∧ boxT t = true
theorem Off.far {V y : World} {f : List Nat} (ho : Off (· ∈ f) V y) (kI : Boxes V f) {g : Nat} {cs : Array Value} {t : TypeId} {fr : Nat × Nat} (hg : V.heap[g]? = some (.cells cs t fr)) (hne : boxT t = false) : y.heap[g]? = some (.cells cs t fr) :=
 (ho.block g (blk_size hg) (fun e => by
  obtain ⟨c, t', hc, hb⟩ := kI g e
  rw [hc] at hg
  injection (Option.some.inj hg) with _ q
  rw [q, hne] at hb; cases hb)).trans hg
theorem Off.farRow {V y : World} {f : List Nat} (ho : Off (· ∈ f) V y) (kI : Boxes V f) {base : Nat} {e : TypeId} {size : Nat} {v : Value} {n : Nat} {xs : List Value} (hr : V.ownsRow base e size v n xs) (hne : boxT e = false) : y.ownsRow base e size v n xs := by
 refine ⟨hr.1, ?_⟩
 rcases hr.2 with h0 | ⟨g, cap, cur, h0, hb, hg, hrest⟩
 · exact .inl h0
 · exact .inr ⟨g, cap, cur, h0, hb, ho.far kI hg hne, hrest⟩
def wordsTo (S : PS) (k : Nat) : List Value := (S.pieces.take k).flatMap fun x => (wordsOf S x).map word32
theorem wordsTo_succ (S : PS) (k : Nat) (hk : k < S.pieces.length) : wordsTo S (k + 1) = wordsTo S k ++ (wordsOf S S.pieces[k]).map word32 := by
 unfold wordsTo
 rw [List.take_succ_eq_append_getElem hk, List.flatMap_append]
 simp
theorem wordsTo_le (S : PS) (h : ∀ x, x ∈ S.pieces → (wordsOf S x).length ≤ 1000000) (k : Nat) : (wordsTo S k).length ≤ k * 1000000 := by
 induction k with
 | zero => simp [wordsTo]
 | succ k ih =>
  by_cases hk : k < S.pieces.length
  · rw [wordsTo_succ S k hk, List.length_append, List.length_map]
    have := h _ (List.getElem_mem hk)
    omega
  · have : wordsTo S (k + 1) = wordsTo S k := by
     unfold wordsTo
     rw [List.take_of_length_le (by omega), List.take_of_length_le (by omega)]
    rw [this]
    exact Nat.le_trans ih (Nat.mul_le_mul_right _ (Nat.le_succ k))
structure LI (w : World) (S : PS) (B : PB) (O : Int) (k : Nat) (wr : World) : Prop where
 par : ∃ line, Par B (ran S k line) wr
 m : ∃ vW, wr.heap[w.heap.size]? = some (.cells #[.int .u32 O, vW, B.vl] 27 (0, 0)) ∧ wr.ownsRow w.heap.size 23 1 vW (wordsTo S k).length (wordsTo S k)
 e : wr.heap[w.heap.size + 1]? = some (.cells #[.int .i64 0] 35 (0, 0))
 l : wr.heap[w.heap.size + 1 + 1]? = some (.cells #[.int .i64 0] 3 (0, 0))
 v : wr.heap[w.heap.size + 1 + 1 + 1 + 1 + 1]? = some (.cells #[.pointer (some ⟨B.b, 0, none⟩)] 70 (0, 0))
 below : Below w.heap.size w wr
end Asm
end Go.Proofs.YtabmlbnnhhpaoaaGreatDoor
namespace Go.Proofs.YtabmlbnnhhpaoaaGreatDoor
open Go.RowKit Go.Shelf
namespace Asm
theorem LI.next {w : World} {S : PS} {B : PB} {O : Int} {k : Nat} {V y2 w6 : World} (hlt : k < S.pieces.length) {x : Piece} (hx : S.pieces[k] = x) {f : Nat × List Nat} {line : Int} (hP2 : Par B (ran S (k + 1) line) y2) (ho : Off (· ∈ f.2) V y2)
 (kIV : Boxes V f.2) {vv v6 : Value} (hWV : V.ownsRow w.heap.size 23 1 vv (wordsTo S k).length (wordsTo S k)) {nw : List Value} (hnw : nw = (wordsOf S x).map word32) {nl : Nat} (hnl : nl = nw.length) (hW6 : w6.ownsRow w.heap.size 23 1 v6 ((wordsTo S k).length + nl) (wordsTo S k ++ nw)) (hg : y2.grownBy w6 vv.ownBlock)
 (hmV : V.heap[w.heap.size]? = some (.cells #[.int .u32 O, vv, B.vl] 27 (0, 0))) (hm0 : ¬ B.owns w.heap.size) (heV : V.heap[w.heap.size + 1]? = some (.cells #[.int .i64 0] 35 (0, 0))) (hlV : V.heap[w.heap.size + 1 + 1]? = some (.cells #[.int .i64 0] 3 (0, 0))) (hvV : V.heap[w.heap.size + 1 + 1 + 1 + 1 + 1]? = some (.cells #[.pointer (some ⟨B.b, 0, none⟩)] 70 (0, 0))) (hbV : Below w.heap.size w V) (hgI : ∀ g, g ∈ f.2 → w.heap.size ≤ g) {D : Nat} (hD : V.heap[D]? = some (.deferred (some []))) :
 LI w S B O (k + 1) (w6.setCell ⟨w.heap.size, 1, none⟩ v6) ∧ (w6.setCell ⟨w.heap.size, 1, none⟩ v6).heap[D]? = some (.deferred (some [])) := by
 have hWy := ho.farRow kIV hWV (by decide)
 have hP6 : Par B (ran S (k + 1) line) w6 := hP2.grownU32 hg fun r hr => row_type hWy hr
 have far6 : ∀ {g : Nat} {cs : Array Value} {t : TypeId} {fr : Nat × Nat}, V.heap[g]? = some (.cells cs t fr) → boxT t = false → t ≠ 23 → w6.heap[g]? = some (.cells cs t fr) := fun {g cs t fr} hk h1 h2 => by
  have hy := ho.far kIV hk h1
  exact (hg.block g (blk_size hy) (rowNot hWy hy h2)).trans hy
 have hm6 := far6 hmV (by decide) (by decide)
 have by2 : Below w.heap.size w y2 := hbV.trans ⟨ho.os, ho.tape, ho.output, ho.size, fun j hj => ho.block j (by have := hbV.size; omega) (fun e => by have := hgI j e; omega)⟩
 have b6 : Below w.heap.size w w6 := by2.trans ⟨hg.os, hg.tape, hg.output, hg.size, fun j hj => hg.block j (by have := by2.size; omega) (fun e => by
  rcases hWy.2 with ⟨h0, _⟩ | ⟨g, cap, cur, h0, hb, _⟩
  · rw [h0] at e; simp [Value.ownBlock] at e
  · rw [h0] at e; simp [Value.ownBlock] at e; omega)⟩
 have hD6 : w6.heap[D]? = some (.deferred (some [])) := by
  have hDy : y2.heap[D]? = some (.deferred (some [])) := (ho.block D (blk_size hD) (fun e => by obtain ⟨c, t', hc, _⟩ := kIV D e; rw [hc] at hD; cases hD)).trans hD
  refine (hg.block D (blk_size hDy) (fun e => ?_)).trans hDy
  obtain ⟨c, hc⟩ := row_type hWy e.symm
  rw [hDy] at hc; cases hc
 refine ⟨⟨⟨line, hP6.setOther hm6 (by decide) hm0 1 v6⟩, ⟨v6, setCell_row hm6 1 v6 rfl, ?_⟩, setCell_far (far6 heV (by decide) (by decide)) (by omega) 1 v6, setCell_far (far6 hlV (by decide) (by decide)) (by omega) 1 v6, setCell_far (far6 hvV (by decide) (by decide)) (by omega) 1 v6, b6.setCell (p := ⟨w.heap.size, 1, none⟩) (Nat.le_refl _) v6⟩, setCell_far hD6 (fun e => by rw [e, hm6] at hD6; cases hD6) 1 v6⟩
 have hlen : (wordsTo S (k + 1)).length = (wordsTo S k).length + nl := by rw [wordsTo_succ S k hlt, hx, List.length_append, hnl, hnw]
 rw [hlen, wordsTo_succ S k hlt, hx, ← hnw]
 exact hW6.kept (setCell_grown w6 w.heap.size 1 v6) (by
  cases hv : v6.ownBlock with
  | none => exact .inl rfl
  | some g =>
   refine .inr fun e2 => ?_
   obtain ⟨c, hc⟩ := row_type hW6 hv
   rw [Option.some.inj e2, hm6] at hc
   injection (Option.some.inj hc) with _ q
   exact absurd q (by decide))
end Asm
end Go.Proofs.YtabmlbnnhhpaoaaGreatDoor
set_option maxHeartbeats 1000000
namespace Go.Proofs.YtabmlbnnhhpaoaaGreatDoor
open Go.RowKit Go.Shelf
attribute [local go_sem] Oper.semAt_some
theorem setCell_self {w : World} {g i : Nat} {t : TypeId} {fr : Nat × Nat} {cs : Array Value} {v : Value} (h : w.heap[g]? = some (.cells cs t fr)) (hv : cs[i]? = some v) : w.setCell ⟨g, i, none⟩ v = w := by
 have hh : (w.setCell ⟨g, i, none⟩ v).heap = w.heap := by
  apply Array.ext_getElem?
  intro k
  obtain ⟨h1, h2⟩ := Array.getElem?_eq_some_iff.1 h
  obtain ⟨h3, h4⟩ := Array.getElem?_eq_some_iff.1 hv
  by_cases hk : k = g
  · subst hk
    have hc : cs.setIfInBounds i v = cs := by
     apply Array.ext_getElem?
     intro j
     by_cases hj : j = i
     · subst hj; rw [Array.getElem?_setIfInBounds_self_of_lt h3, hv]
     · rw [Array.getElem?_setIfInBounds_ne (fun e => hj e.symm)]
    simp [World.setCell, Array.getElem?_modify, h, hc]
  · simp [World.setCell, Array.getElem?_modify, fun e : g = k => hk e.symm]
    intro e; exact absurd e.symm hk
 show ({ w with heap := (w.setCell ⟨g, i, none⟩ v).heap } : World) = w
 rw [hh]
theorem assemble_results (tmps : Array Value) (g ge gl : Nat) (h2 : tmps[2]? = some (.pointer (some ⟨g, 0, none⟩))) (h3 : tmps[3]? = some (.pointer (some ⟨ge, 0, none⟩))) (h4 : tmps[4]? = some (.pointer (some ⟨gl, 0, none⟩))) (O : Int) (vW vL : Value) (Y : World)
 (hm : Y.heap[g]? = some (.cells #[.int .u32 O, vW, vL] 27 (0, 0))) (he : Y.heap[ge]? = some (.cells #[.int .i64 0] 35 (0, 0))) (hl : Y.heap[gl]? = some (.cells #[.int .i64 0] 3 (0, 0))) :
 (results Tryz.f13 tmps).run Tryz.prog Y = .ok (.tuple #[.agg #[.int .u32 O, vW, vL], .int .i64 0, .int .i64 0]) Y := by
 obtain ⟨dm, _⟩ := blk_facts hm
 obtain ⟨de, _⟩ := blk_facts he
 obtain ⟨dl, _⟩ := blk_facts hl
 have m0 : Y.cell? ⟨g, 0, none⟩ = some (.int .u32 O) := dm 0
 have m1 : Y.cell? ⟨g, 1, none⟩ = some vW := dm 1
 have m2 : Y.cell? ⟨g, 2, none⟩ = some vL := dm 2
 have e0 : Y.cell? ⟨ge, 0, none⟩ = some (.int .i64 0) := de 0
 have l0 : Y.cell? ⟨gl, 0, none⟩ = some (.int .i64 0) := dl 0
 simp [results, Tryz.results13, go_sem, h2, h3, h4, m0, m1, m2, e0, l0]
theorem assemble_leave (R : Ending → World → Prop) (tmps : Array Value) (g ge gl D : Nat) (a b c : Value) (h2 : tmps[2]? = some (.pointer (some ⟨g, 0, none⟩))) (h3 : tmps[3]? = some (.pointer (some ⟨ge, 0, none⟩))) (h4 : tmps[4]? = some (.pointer (some ⟨gl, 0, none⟩))) (O : Int) (vW vL : Value) (Y : World)
 (hm : Y.heap[g]? = some (.cells #[.int .u32 O, vW, vL] 27 (0, 0))) (he : Y.heap[ge]? = some (.cells #[.int .i64 0] 35 (0, 0))) (hl : Y.heap[gl]? = some (.cells #[.int .i64 0] 3 (0, 0))) (hD : Y.heap[D]? = some (.deferred (some [])))
 (hR : ∀ Z, Below (Y.putObj D (.deferred none)).heap.size (Y.putObj D (.deferred none)) Z → R (.returned (.tuple #[.agg #[.int .u32 O, vW, vL], .int .i64 0, .int .i64 0])) Z) :
 bodyPostM Fence.wide 8 Tryz.prog Tryz.f13 R .ret { tmps := tmps, defers := [{ target := .collected D, args := #[] }, { target := .fn (.func 25) #[a, b, c], args := #[] }] } Y := by
 have n1 : ∀ {k : Nat} {cs : Array Value} {t : TypeId} {fr : Nat × Nat}, Y.heap[k]? = some (.cells cs t fr) → (Y.putObj D (.deferred none)).heap[k]? = some (.cells cs t fr) := fun {k cs t fr} hk =>
  (World.putObj_heap_other (fun e => by rw [e, hD] at hk; cases hk)).trans hk
 refine ⟨by simp, .inl ⟨_, _, rfl, run_takeDeferred hD, ⟨by simp, .inr ⟨fun _ => by decide, .func 25, #[a, b, c], 25, #[a, b, c], rfl, by kernel_rfl, fun _ _ => trivial, ?_⟩⟩⟩⟩
 refine (catch_idle 7 a b c (Y.putObj D (.deferred none))).mono ?_
 rintro e u' Z ⟨rfl, rfl, hZ⟩
 exact ⟨_, assemble_results tmps g ge gl h2 h3 h4 O vW vL Z (blk_keep hZ (n1 hm)) (blk_keep hZ (n1 he)) (blk_keep hZ (n1 hl)), hR Z hZ⟩
end Go.Proofs.YtabmlbnnhhpaoaaGreatDoor
