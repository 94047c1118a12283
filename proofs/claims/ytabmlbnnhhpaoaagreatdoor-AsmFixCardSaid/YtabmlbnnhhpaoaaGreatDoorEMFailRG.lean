/- What this claim needs of FailSeq, FailCatch, FailApp, FailSplit, FailR. -/
import Derived.Test.YtabmlbnnhhpaoaaGreatDoorEMAsmSplitG
import Derived.Test.YtabmlbnnhhpaoaaGreatDoorEMFailEG
import Derived.Deep.RegionLaw
import Derived.Test.YtabmlbnnhhpaoaaGreatDoorEMFailIG2
import Derived.Test.YtabmlbnnhhpaoaaGreatDoorEMFailQG
import Derived.Deep.RegionHeld3
set_option linter.unusedSimpArgs false
set_option linter.unusedVariables false
set_option maxHeartbeats 1000000
namespace Go.Proofs.YtabmlbnnhhpaoaaGreatDoor
open Go.RowKit Go.Shelf
def Asm.wpF (f0 : FuncId) (P : Program) (c : Code) (Q : Exit → Act → World → Prop) (a : Act) (w : World) : Prop :=
 ∀ (b : Frame) (k : List Item) (cs : List Frame), b.roundOf = none → b.fn = f0 →
  ∃ e a' w', Q e a' w' ∧ ArrivesIn (Machine.fenced P Fence.wide) P (lone (b.atR a (.code c :: k)) cs w) b k cs e a' w'
namespace Asm
variable {f0 : FuncId} {P : Program} {Q : Exit → Act → World → Prop} {a : Act} {w : World}
theorem wpF_of_wp {c : Code} (h : c.wp P Q a w) : wpF f0 P c Q a w := fun b k cs hro _ =>
 (wpIn_wide (n := 0)).2 h b k cs hro trivial (room_wide _)
theorem wpF_seq {x y : Code} (h : wpF f0 P x (Exit.then (wpF f0 P y Q) Q) a w) : wpF f0 P (Code.seq x y) Q a w := by
 intro b k cs hro hf
 have h0 : (lone (b.atR a (.code (.seq x y) :: k)) cs w).fenced P Fence.wide := fenced_calm trivial (room_wide (_ + 1 + 0)) rfl
 obtain ⟨e, a₁, w₁, hq, harr⟩ := h b (.code y :: k) cs hro hf
 cases e with
 | normal =>
   obtain ⟨e₂, a₂, w₂, hq₂, harr₂⟩ := hq b k cs hro hf
   exact ⟨e₂, a₂, w₂, hq₂, .of_steps (.head h0 stepR_seq harr) harr₂⟩
 | exit id => exact ⟨_, a₁, w₁, hq, .of_steps (.one h0 stepR_seq) (.pass (x := .code y) rfl (fun _ _ => .inl (by simp)) harr)⟩
 | goto l => exact ⟨_, a₁, w₁, hq, .of_steps (.one h0 stepR_seq) (.pass (x := .code y) rfl (fun _ _ => .inl (by simp)) harr)⟩
 | ret => exact ⟨_, a₁, w₁, hq, .of_steps (.one h0 stepR_seq) (.pass (x := .code y) rfl (fun _ _ => .inl (by simp)) harr)⟩
 | panic ch => exact ⟨_, a₁, w₁, hq, .of_steps (.one h0 stepR_seq) (.pass (x := .code y) rfl (fun _ _ => .inl (by simp)) harr)⟩
 | outgrown => exact ⟨_, a₁, w₁, hq, .of_steps (.one h0 stepR_seq) (.pass (x := .code y) rfl (fun _ _ => .inl (by simp)) harr)⟩
theorem wpF_block {id : Nat} {c : Code} (h : wpF f0 P c (fun e a' w' => (e = .normal ∨ ∃ ch, e = .panic ch) ∧ Q e a' w') a w) : wpF f0 P (Code.block id c) Q a w := by
 intro b k cs hro hf
 have h0 : (lone (b.atR a (.code (.block id c) :: k)) cs w).fenced P Fence.wide := fenced_calm trivial (room_wide (_ + 1 + 0)) rfl
 obtain ⟨e, a₁, w₁, ⟨he, hq⟩, harr⟩ := h b (.inBlock id :: k) cs hro hf
 rcases he with rfl | ⟨ch, rfl⟩
 · exact ⟨.normal, a₁, w₁, hq, .head h0 stepR_block (StepsIn.trans harr (.one (fenced_calm trivial (room_wide (_ + 1 + 0)) rfl) stepR_inBlock))⟩
 · obtain ⟨todo, hs⟩ := harr
   exact ⟨_, a₁, w₁, hq, .of_steps (.one h0 stepR_block) ⟨todo, hs⟩⟩
theorem round_or_panic {n l : Nat} {f : FuncId} {tmps : Array Value} {assign body : Code} {R : Ending → World → Prop} (hfn : ∃ fn, P.funcs[f]? = some fn)
 (h : assign.wpIn (Fence.wide.inRound l) n P (Exit.then (fun a₁ w₁ => ∃ w₂, (Instr.beginRound l).run P w₁ = .ok () w₂ ∧ body.wpIn (Fence.wide.inRound l) n P (fun e a₂ w₃ =>
  (e = .normal ∧ ∃ v w', (Instr.endRound l none).run P w₃ = .ok v w' ∧ R (.returned v) w') ∨ (∃ ch, e = .panic ch ∧ a₂.defers = [] ∧ R (.panicked ch) w₃)) a₁ w₂) (fun _ _ _ => False))
  { tmps := tmps, defers := [] } w) :
 RoundIn Fence.wide n P l f tmps assign body w R := by
 refine ⟨trivial, fun c cs hr => ?_⟩
 let b : Frame := { (default : Frame) with fn := f, kind := .normal, roundOf := some l }
 have hb0 : Frame.round l f tmps assign body .normal = b.atR { tmps := tmps, defers := [] } [.code assign, .beginRound, .code body] := by
  simp [Frame.round, Frame.atR, b]
 have hr' : (Fence.wide.inRound l).room ((c :: cs).length + 1 + n) := hr
 have hF' : (Fence.wide.inRound l).fn b.fn := trivial
 obtain ⟨e, a₁, w₁, hq, harr⟩ := h b [.beginRound, .code body] (c :: cs) rfl hF' hr'
 rw [← hb0] at harr
 cases e with
 | normal =>
   obtain ⟨w₂, hbr, hbody⟩ := hq
   have s1 : StepsIn (Machine.fenced P (Fence.wide.inRound l)) P (lone (b.atR a₁ [.beginRound, .code body]) (c :: cs) w₁) (lone (b.atR a₁ [.code body]) (c :: cs) w₂) :=
    .one (fenced_calm (fr := b.atR a₁ [.beginRound, .code body]) hF' hr' rfl) (stepR_beginRound rfl hbr)
   obtain ⟨e₂, a₂, w₃, hq₂, harr₂⟩ := hbody b [] (c :: cs) rfl hF' hr'
   rcases hq₂ with ⟨rfl, v, w₄, hend, hR⟩ | ⟨ch, rfl, hd, hR⟩
   · exact ⟨.returned v, w₄, hR, (StepsIn.trans harr s1).trans (StepsIn.trans harr₂ (.one (fenced_calm (fr := b.atR a₂ []) hF' hr' rfl) (stepR_round_end rfl rfl hend)))⟩
   · obtain ⟨todo, hs⟩ := harr₂
     have hlv : ({ b.atR a₂ todo with mode := .panicking ch } : Frame).leaving P w₃ (.panicked ch) := ⟨rfl, hd, hfn⟩
     exact ⟨.panicked ch, w₃, hR, (StepsIn.trans harr s1).trans (StepsIn.trans hs (.one (fenced_leaving (F := Fence.wide.inRound l) (n := n) hF' hr' hlv) (step_leave_panicked hlv)))⟩
 | exit id => exact hq.elim
 | goto t => exact hq.elim
 | ret => exact hq.elim
 | panic chain => exact hq.elim
 | outgrown => exact hq.elim
theorem wpF_rangeFunc {n : Nat} {g : Operand} {ps : Array Tmp} {assign body : Code}
 (h : ∃ (l : Nat) (mark : List Deferred) (w₁ : World) (d : Deferred) (w₁' : World) (f : FuncId) (args : Array Value) (w₂ : World),
  (Instr.enterLoop f0 a.tmps ps assign body none).run P w = .ok (l, mark) w₁ ∧
  (resolve a.eval (rangeCall g l) 0).run P w₁ = .ok d w₁' ∧
  (invoke d.target d.args).run P w₁' = .ok (.enter f args) w₂ ∧
  CallsIn Fence.wide n P f args w₂ (fun e w₃ => match e with
   | .returned _ => ∃ w₄, (Instr.endLoop l).run P w₃ = .ok none w₄ ∧ Q .normal { a with defers := mark ++ a.defers } w₄
   | .panicked ch => Q (.panic ch) { a with defers := mark ++ a.defers } w₃
   | .outgrown => False)) :
 wpF f0 P (Code.rangeFunc g ps assign body) Q a w := by
 intro b k cs hro hb
 obtain ⟨l, mark, w₁, d, w₁', f, args, w₂, he, hres, hinv, hcall⟩ := h
 rw [← hb, ← hro] at he
 have h0 : (lone (b.atR a (.code (.rangeFunc g ps assign body) :: k)) cs w).fenced P Fence.wide :=
  fenced_lone (.inl trivial) (fun f' hf' => trivial) (room_wide _)
 have henter := stepR_rangeFunc (P := P) (b := b) (a := a) (k := k) (cs := cs) (w := w) he hres hinv
 obtain ⟨e, w₃, fr, hR, hsteps, hfn, hleave⟩ := hcall.2 (b.atR { a with defers := mark ++ a.defers } (.inRangeFunc l :: k) :: cs) (room_wide _)
 cases e with
 | outgrown => exact hR.elim
 | returned v =>
   have hl : (lone fr (b.atR { a with defers := mark ++ a.defers } (.inRangeFunc l :: k) :: cs) w₃).fenced P Fence.wide := fenced_leaving (n := 0) trivial (room_wide _) hleave
   obtain ⟨w₄, hend, hj⟩ := hR
   refine ⟨.normal, _, w₄, hj, ?_⟩
   refine .head h0 henter (StepsIn.trans hsteps (.head hl ?_ (.one (fenced_calm (fr := b.atR { a with defers := mark ++ a.defers } (.endRangeFunc l :: k)) trivial (room_wide (_ + 1 + 0)) rfl) (stepR_endRangeFunc hend))))
   rw [← finish_atR_inRangeFunc l v]; exact step_leave_returned hleave
 | panicked chain =>
   have hl : (lone fr (b.atR { a with defers := mark ++ a.defers } (.inRangeFunc l :: k) :: cs) w₃).fenced P Fence.wide := fenced_leaving (n := 0) trivial (room_wide _) hleave
   refine ⟨.panic chain, _, w₃, hR, .inRangeFunc l :: k, .head h0 henter (StepsIn.trans hsteps (.one hl ?_))⟩
   rw [← Frame.raise_atR]; exact step_leave_panicked hleave
theorem calls_of_wpF {n : Nat} {fn : Func} {c : Code} {args : Array Value} {R : Ending → World → Prop} (hf : P.funcs[f0]? = some fn) (hb : fn.body = some c)
 (h : wpF f0 P c (bodyPostM Fence.wide n P fn R) { tmps := args ++ Array.replicate (fn.ntmps - args.size) undef, defers := [] } w) : Calls P f0 args w R := by
 refine (callsIn_wide (n := n)).1 ⟨trivial, fun cs hr => ?_⟩
 let b : Frame := { (default : Frame) with fn := f0, kind := .normal, roundOf := none }
 have henter : Frame.enter P f0 args .normal = b.atR { tmps := args ++ Array.replicate (fn.ntmps - args.size) undef, defers := [] } [.code c] := by
  simp [Frame.enter, Frame.atR, hf, hb, b]
 have hF : Fence.wide.fn f0 := trivial
 obtain ⟨e, a', w', hq, harr⟩ := h b [] cs rfl rfl
 rw [← henter] at harr
 cases e with
 | normal =>
   obtain ⟨e', w'', fr', hR, hs, hfn, hl⟩ := leaves_stepsInM a'.defers .returning w' { b.atR a' [] with mode := .returning } cs rfl rfl rfl hf rfl hF hr hq
   exact ⟨e', w'', fr', hR, ComesIn.of_steps (StepsIn.trans harr (.one (fenced_calm (fr := b.atR a' []) hF hr rfl) (stepR_end rfl))) hs, hfn, hl⟩
 | ret =>
   obtain ⟨todo, hs₀⟩ := harr.1 rfl
   obtain ⟨e', w'', fr', hR, hs, hfn, hl⟩ := leaves_stepsInM a'.defers .returning w' { b.atR a' todo with mode := .returning } cs rfl rfl rfl hf rfl hF hr hq
   exact ⟨e', w'', fr', hR, ComesIn.of_steps hs₀ hs, hfn, hl⟩
 | panic chain =>
   obtain ⟨todo, hs₀⟩ := harr
   obtain ⟨e', w'', fr', hR, hs, hfn, hl⟩ := leaves_stepsInM a'.defers (.panicking chain) w' { b.atR a' todo with mode := .panicking chain } cs rfl rfl rfl hf rfl hF hr hq
   exact ⟨e', w'', fr', hR, ComesIn.of_steps hs₀ hs, hfn, hl⟩
 | exit id => exact hq.elim
 | goto l => exact hq.elim
 | outgrown => exact ⟨.outgrown, w', b, hq, harr.resolve_left (by simp [b]), rfl, trivial⟩
def SeqAny {α : Type} (n : Nat) (P : Program) (g : Nat) (lb : Array Value) (encs : α → Array Value) (Kp : World → World → Prop) (xs : List α) (bs : Nat) (w : World) : Prop :=
 ∀ (l : Nat) (J : List α → World → Prop) (Jp : List PanicEntry → World → Prop) (W : World), Below w.heap.size w W → AbidesFrom W.heap.size J → (∀ pre W1 v, J pre W1 → J pre (W1.setCell ⟨bs, 0, none⟩ v)) →
  (∀ pre x W1, J pre W1 → pre ++ [x] <+: xs → YieldAt Fence.wide (n - 1) P l (encs x) W1 fun e W' => (e = .returned (.bool true) ∧ J (pre ++ [x]) W' ∧ Kp W1 W') ∨ (∃ ch, e = .panicked ch ∧ Jp ch W')) →
  J [] W →
  CallsIn Fence.wide n P g (#[.func (.yield l) #[] #[]] ++ lb) W fun e W' => ((∃ v, e = .returned v) ∧ J xs W') ∨ (∃ ch, e = .panicked ch ∧ Jp ch W')
end Asm
theorem wpF_range_any {α : Type} {f0 : FuncId} {n : Nat} {P : Program} {g : Operand} {ps : Array Tmp} {assign body : Code} {Q : Exit → Act → World → Prop} {a : Act} {w : World}
 (hf0 : ∃ fn, P.funcs[f0]? = some fn) {gf : Nat} {lb : Array Value} (hg : a.eval g = .func (.func gf) #[] lb) (eg : ∀ args w, (callFunc gf args).run P w = .ok (.enter gf args) w)
 {encs : α → Array Value} {Kp : World → World → Prop} {xs : List α} {bs : Nat} (hseq : Asm.SeqAny n P gf lb encs Kp xs bs w) (hbs : bs < w.heap.size)
 (hKt : ∀ {A B C : World}, Kp A B → Kp B C → Kp A C) (hKb : ∀ (W : World) (l : Nat) (o o' : Obj), w.heap.size ≤ l → W.heap[l]? = some o → o.isCells = false → o.isWalk = false → Kp W (W.putObj l o'))
 (hps : ∀ x, (encs x).size = ps.size) (I : List α → World → Prop) (Ip : List PanicEntry → World → Prop) (hI : OwnFrom w.heap.size I) (hIs : ∀ pre W1 v, I pre W1 → I pre (W1.setCell ⟨bs, 0, none⟩ v)) (h0 : I [] w) (a₁ : α → Act)
 (hassign : ∀ (l : Nat) (x : α) (W : World) (K : Act → World → Prop), K (a₁ x) W →
  assign.wpIn (Fence.wide.inRound l) (n - 1) P (Exit.then K (fun _ _ _ => False)) { tmps := (ps.zip (encs x)).foldl (fun t (p, v) => t.setIfInBounds p v) a.tmps, defers := [] } W)
 (hbody : ∀ (l : Nat) (pre : List α) (x : α) (W : World), I pre W → pre ++ [x] <+: xs → body.wpIn (Fence.wide.inRound l) (n - 1) P (fun e a' W' =>
  (e = .normal ∧ KeepsFrom w.heap.size W W' ∧ Kp W W' ∧ I (pre ++ [x]) W') ∨ (∃ ch, e = .panic ch ∧ a'.defers = [] ∧ KeepsFrom w.heap.size W W' ∧ Ip ch W')) (a₁ x) W)
 (hdone : ∀ (D : Nat) (W : World), w.heap.size ≤ D → I xs W → W.heap[D]? = some (.deferred (some [])) → Q .normal { a with defers := { target := .collected D, args := #[] } :: a.defers } W)
 (hpanic : ∀ (D : Nat) (ch : List PanicEntry) (W : World), w.heap.size ≤ D → Ip ch W → W.heap[D]? = some (.deferred (some [])) → Q (.panic ch) { a with defers := { target := .collected D, args := #[] } :: a.defers } W) :
 Asm.wpF f0 P (Code.rangeFunc g ps assign body) Q a w := by
 refine Asm.wpF_rangeFunc (n := n) ?_
 obtain ⟨mk, hmk⟩ : ∃ mk : LoopState → Option Code → Obj, mk = fun st pe => .loop { state := st, pending := pe, fn := f0, tmps := a.tmps, params := ps, assign, body, defers := w.heap.size } := ⟨_, rfl⟩
 obtain ⟨W1, hW1⟩ : ∃ W1, (w.alloc (.deferred (some []))).alloc (mk .ready none) = W1 := ⟨_, rfl⟩
 have sz1 : W1.heap.size = w.heap.size + 2 := by rw [← hW1, alloc_size, alloc_size]
 have L1 : W1.heap[w.heap.size + 1]? = some (mk .ready none) := by
  have h := heap_alloc_new (w.alloc (.deferred (some []))) (mk .ready none)
  rw [alloc_size, hW1] at h
  exact h
 have D1 : W1.heap[w.heap.size]? = some (.deferred (some [])) := hW1 ▸ blk_alloc _ (heap_alloc_new _ _)
 have B1 : Below w.heap.size w W1 := hW1 ▸ below_alloc' (below_alloc' (Below.refl _ _) _) _
 refine ⟨w.heap.size + 1, [{ target := .collected w.heap.size, args := #[] }], W1, { target := .fn (.func gf) lb, args := #[.func (.yield (w.heap.size + 1)) #[] #[]] }, W1, gf, #[.func (.yield (w.heap.size + 1)) #[] #[]] ++ lb, W1, ?_, ?_, ?_, ?_⟩
 · rw [← hW1, hmk]; exact run_enterLoop_outer _ _ _ _ _
 · simp only [resolve, hg]
   simp [go_sem]
 · simp [invoke, go_sem, eg]
 · have own : ∀ {A : World} {row : Option Nat}, (∀ r, row = some r → W1.heap.size ≤ r ∧ ∃ o : Obj, A.heap[r]? = some o ∧ o.isWalk = true) → (∀ r, row = some r → w.heap.size ≤ r ∧ ∃ o : Obj, A.heap[r]? = some o ∧ o.isCells = false) :=
    fun h r e => by obtain ⟨k, o, ho, hw⟩ := h r e; exact ⟨by omega, o, ho, Obj.not_cells_of_walk hw⟩
   have low : ∀ {A B : World} {row : Option Nat} {k : Nat} {o : Obj}, A.grownBy B row → (∀ r, row = some r → W1.heap.size ≤ r ∧ ∃ o : Obj, A.heap[r]? = some o ∧ o.isWalk = true) → k < W1.heap.size → A.heap[k]? = some o → B.heap[k]? = some o :=
    fun h hr hk ho => (h.block _ (blk_size ho) (fun e => by have := (hr _ e.symm).1; omega)).trans ho
   refine (hseq (w.heap.size + 1) (fun pre W => I pre W ∧ W.heap[w.heap.size + 1]? = some (mk .ready none) ∧ W.heap[w.heap.size]? = some (.deferred (some []))) (fun ch W => Ip ch W ∧ W.heap[w.heap.size]? = some (.deferred (some []))) W1 B1
    (fun s A B row hs h hr => ⟨hI s A B row hs.1 h (own hr), low h hr (by omega) hs.2.1, low h hr (by omega) hs.2.2⟩)
    (fun pre W v hs => ⟨hIs pre W v hs.1, setCell_farG hs.2.1 (by omega) 0 v, setCell_farG hs.2.2 (by omega) 0 v⟩) ?_
    ⟨hW1 ▸ hI.alloc _ (hI.alloc _ h0), L1, D1⟩).mono ?_
   · rintro pre x W ⟨hi, hl, hd⟩ hpre
     have hy := run_yield (P := P) (args := encs x) (by rw [hmk] at hl; exact hl) (hps x)
     refine ⟨f0, _, assign, body, hy, Asm.round_or_panic hf0 (hassign _ x W _ ?_)⟩
     have hlt := blk_size hl
     refine ⟨_, run_beginRound (by rw [hmk] at hl; exact hl) rfl, ?_⟩
     obtain ⟨busy, hbusy⟩ : ∃ busy : Obj, busy = .loop { state := .busy, pending := none, fn := f0, tmps := a.tmps, params := ps, assign, body, defers := w.heap.size } := ⟨_, rfl⟩
     rw [← hbusy]
     have l2 : (W.putObj (w.heap.size + 1) busy).heap[w.heap.size + 1]? = some busy := World.putObj_heap_same hlt
     have d2 : (W.putObj (w.heap.size + 1) busy).heap[w.heap.size]? = some (.deferred (some [])) := (World.putObj_heap_other (by omega)).trans hd
     have k2 : Kp W (W.putObj (w.heap.size + 1) busy) := hKb _ _ _ _ (by omega) hl (by rw [hmk]; rfl) (by rw [hmk]; rfl)
     refine wpIn_mono (hbody _ pre x _ (hI.putObj _ hi (by omega) hl (by rw [hmk]; rfl)) hpre) ?_
     rintro e a3 W3 (⟨rfl, kf, kp, i3⟩ | ⟨ch, rfl, hdf, kf, ip⟩)
     · have l3 := kf.same _ _ (by omega) l2 (by rw [hbusy]; rfl)
       have d3 := kf.same _ _ (Nat.le_refl _) d2 rfl
       have hr := run_endRound (P := P) none (by rw [hbusy] at l3; exact l3)
       refine .inl ⟨rfl, _, _, hr, .inl ⟨rfl, ⟨hI.putObj _ i3 (by omega) l3 (by rw [hbusy]; rfl), ?_, (World.putObj_heap_other (by omega)).trans d3⟩, hKt k2 (hKt kp (hKb _ _ _ _ (by omega) l3 (by rw [hbusy]; rfl) (by rw [hbusy]; rfl)))⟩⟩
       rw [hmk]
       exact World.putObj_heap_same (blk_size l3)
     · have d3 := kf.same _ _ (Nat.le_refl _) d2 rfl
       exact .inr ⟨ch, rfl, hdf, .inr ⟨ch, rfl, ip, d3⟩⟩
   · rintro e W2 (⟨⟨v, rfl⟩, hi, hl, hd⟩ | ⟨ch, rfl, ip, hd⟩)
     · exact ⟨_, run_endLoop (P := P) (by rw [hmk] at hl; exact hl) (by simp), hdone _ _ (Nat.le_refl _) (hI.putObj _ hi (by omega) hl (by rw [hmk]; rfl)) ((World.putObj_heap_other (by omega)).trans hd)⟩
     · exact hpanic _ ch _ (Nat.le_refl _) ip hd
end Go.Proofs.YtabmlbnnhhpaoaaGreatDoor
set_option maxHeartbeats 2000000
set_option maxRecDepth 100000
namespace Go.Proofs.YtabmlbnnhhpaoaaGreatDoor
open Go.RowKit Go.Shelf
attribute [local go_sem] Oper.semAt_some
theorem catch_panic (n : Nat) (g ge gl : Nat) (er line : Int) (O e0 l0 : Int) (vW vL : Value) (w : World) (hm : w.heap[g]? = some (.cells #[.int .u32 O, vW, vL] 27 (0, 0))) (he : w.heap[ge]? = some (.cells #[.int .i64 e0] 35 (0, 0))) (hl : w.heap[gl]? = some (.cells #[.int .i64 l0] 3 (0, 0))) :
 CallsDIn Fence.wide n Tryz.prog 25 #[.pointer (some ⟨g, 0, none⟩), .pointer (some ⟨ge, 0, none⟩), .pointer (some ⟨gl, 0, none⟩)] (.panicking (Asm.chain er line)) w fun e u' w' => e = .returned (.tuple #[]) ∧ u' = .panicking [{ v := Asm.wrongV er line, recovered := true }] ∧
  w'.heap[g]? = some (.cells #[.int .u32 0, .slice none 0 0, .slice none 0 0] 27 (0, 0)) ∧ w'.heap[ge]? = some (.cells #[.int .i64 er] 35 (0, 0)) ∧ w'.heap[gl]? = some (.cells #[.int .i64 line] 3 (0, 0)) ∧ Asm.Off (fun q => q = g ∨ q = ge ∨ q = gl) w w' := by
 have hta : ∀ w : World, (Instr.typeAssert (Asm.wrongV er line) 20 68 true).run Tryz.prog w = .ok (.tuple #[.agg #[.int .i64 er, .int .i64 line], .bool true]) w := fun w => by kernel_rfl
 have hge : g ≠ ge := fun e => by rw [e, he] at hm; injection (Option.some.inj hm) with _ q; exact absurd q (by decide)
 have hgl : g ≠ gl := fun e => by rw [e, hl] at hm; injection (Option.some.inj hm) with _ q; exact absurd q (by decide)
 have hel : ge ≠ gl := fun e => by rw [e, hl] at he; injection (Option.some.inj he) with _ q; exact absurd q (by decide)
 obtain ⟨W, hW⟩ : ∃ W, (w.alloc (.cells #[.int .i64 0, .int .i64 0] 68)) = W := ⟨_, rfl⟩
 refine callsDIn_of_wpSIn Tryz.func25 rfl trivial fun c₀ cs hu => ?_
 apply wpSIn_seq
 apply wpSIn_region
 simp [wpOpsSIn, go_sem, recoverD, hu, Tryz.ntmps25, Exit.thenS, hta, Asm.chain]
 refine wpSIn_of_wpIn rfl ?_
 refine wpIn_wide.2 ?_
 have kW : (w.alloc (.cells #[.int .i64 0, .int .i64 0] 68)).heap[w.heap.size]? = some (.cells #[.int .i64 0, .int .i64 0] 68 (0, 0)) := heap_alloc_new _ _
 obtain ⟨dm, fm⟩ := blk_facts hm
 obtain ⟨de, fe⟩ := blk_facts he
 obtain ⟨dl, fl⟩ := blk_facts hl
 have m0 : w.cell? ⟨g, 0, none⟩ = some (.int .u32 O) := dm 0
 have m1 : w.cell? ⟨g, 1, none⟩ = some vW := dm 1
 have m2 : w.cell? ⟨g, 2, none⟩ = some vL := dm 2
 have c0 : w.cell? ⟨ge, 0, none⟩ = some (.int .i64 e0) := de 0
 have c1 : w.cell? ⟨gl, 0, none⟩ = some (.int .i64 l0) := dl 0
 have gm0 := fm 0
 have gm1 := fm 1
 have gm2 := fm 2
 have ge0 := fe 0
 have gl0 := fl 0
 have zm := blk_size hm
 have ze := blk_size he
 have zl := blk_size hl
 clear dm fm de fe dl fl
 simp only [Nat.reduceAdd, Nat.reduceSub, Array.replicate_succ, Array.replicate_zero, List.push_toArray, List.append_toArray, List.nil_append, List.cons_append, List.setIfInBounds_toArray, List.set_cons_zero, List.set_cons_succ]
 refine wp_seq ?_
 go_wp2_with fail
 have bW : Below w.heap.size w (w.alloc (.cells #[.int .i64 er, .int .i64 line] 68)) := below_alloc' (Below.refl _ _) _
 have kw := heap_alloc_new w (.cells #[.int .i64 er, .int .i64 line] 68)
 have gW : g ≠ w.heap.size := by omega
 have geW : ge ≠ w.heap.size := by omega
 have glW : gl ≠ w.heap.size := by omega
 obtain ⟨b0, hb0⟩ : ∃ b0, w.heap.size = b0 := ⟨_, rfl⟩
 have HB0 := Lib.hid hb0
 rw [hb0] at kw gW geW glW ⊢
 have hm2 := blk_keep bW hm
 have he2 := blk_keep bW he
 have hl2 := blk_keep bW hl
 clear m0 m1 m2 c0 c1 gm0 gm1 gm2 ge0 gl0 zm ze zl kW hb0
 generalize w.alloc (.cells #[.int .i64 er, .int .i64 line] 68) = V at bW kw hm2 he2 hl2 ⊢
 obtain ⟨dm, fm⟩ := blk_facts hm2
 obtain ⟨de, fe⟩ := blk_facts he2
 obtain ⟨dl, fl⟩ := blk_facts hl2
 obtain ⟨dw, fw⟩ := blk_facts kw
 have m0 : V.drew.cell? ⟨g, 0, none⟩ = some (.int .u32 O) := dm 0
 have m0' : V.cell? ⟨g, 0, none⟩ = some (.int .u32 O) := dm 0
 have m1 : V.drew.cell? ⟨g, 1, none⟩ = some vW := dm 1
 have m1' : V.cell? ⟨g, 1, none⟩ = some vW := dm 1
 have m2 : V.drew.cell? ⟨g, 2, none⟩ = some vL := dm 2
 have m2' : V.cell? ⟨g, 2, none⟩ = some vL := dm 2
 have c0 : V.drew.cell? ⟨ge, 0, none⟩ = some (.int .i64 e0) := de 0
 have c0' : V.cell? ⟨ge, 0, none⟩ = some (.int .i64 e0) := de 0
 have c1 : V.drew.cell? ⟨gl, 0, none⟩ = some (.int .i64 l0) := dl 0
 have c1' : V.cell? ⟨gl, 0, none⟩ = some (.int .i64 l0) := dl 0
 have w0 : V.drew.cell? ⟨b0, 0, none⟩ = some (.int .i64 er) := dw 0
 have w0' : V.cell? ⟨b0, 0, none⟩ = some (.int .i64 er) := dw 0
 have w1 : V.drew.cell? ⟨b0, 1, none⟩ = some (.int .i64 line) := dw 1
 have w1' : V.cell? ⟨b0, 1, none⟩ = some (.int .i64 line) := dw 1
 have gm0 : V.drew.frozen? ⟨g, 0, none⟩ = false := fm 0
 have gm0' : V.frozen? ⟨g, 0, none⟩ = false := fm 0
 have gm1 : V.drew.frozen? ⟨g, 1, none⟩ = false := fm 1
 have gm1' : V.frozen? ⟨g, 1, none⟩ = false := fm 1
 have gm2 : V.drew.frozen? ⟨g, 2, none⟩ = false := fm 2
 have gm2' : V.frozen? ⟨g, 2, none⟩ = false := fm 2
 have ge0 : V.drew.frozen? ⟨ge, 0, none⟩ = false := fe 0
 have ge0' : V.frozen? ⟨ge, 0, none⟩ = false := fe 0
 have gl0 : V.drew.frozen? ⟨gl, 0, none⟩ = false := fl 0
 have gl0' : V.frozen? ⟨gl, 0, none⟩ = false := fl 0
 have zm := blk_size hm2
 have ze := blk_size he2
 have zl := blk_size hl2
 have zw := blk_size kw
 clear dm fm de fe dl fl dw fw
 go_region
 have h1 := setCell_row (setCell_row (setCell_row hm2 0 (.int .u32 0) (cs' := #[.int .u32 0, vW, vL]) rfl) 1 (.slice none 0 0) (cs' := #[.int .u32 0, .slice none 0 0, vL]) rfl) 2 (.slice none 0 0) (cs' := #[.int .u32 0, .slice none 0 0, .slice none 0 0]) rfl
 have h1e := setCell_far (setCell_far h1 hge 0 (.int .i64 er)) hgl 0 (.int .i64 line)
 have he3 := setCell_row (setCell_far (setCell_far (setCell_far he2 (fun e => hge e.symm) 0 (.int .u32 0)) (fun e => hge e.symm) 1 (.slice none 0 0)) (fun e => hge e.symm) 2 (.slice none 0 0)) 0 (.int .i64 er) (cs' := #[.int .i64 er]) rfl
 have he4 := setCell_far he3 hel 0 (.int .i64 line)
 have hl3 := setCell_row (setCell_far (setCell_far (setCell_far (setCell_far hl2 (fun e => hgl e.symm) 0 (.int .u32 0)) (fun e => hgl e.symm) 1 (.slice none 0 0)) (fun e => hgl e.symm) 2 (.slice none 0 0)) (fun e => hel e.symm) 0 (.int .i64 er)) 0 (.int .i64 line) (cs' := #[.int .i64 line]) rfl
 have ho : Asm.Off (fun q => q = g ∨ q = ge ∨ q = gl) w (((((V.setCell ⟨g, 0, none⟩ (.int .u32 0)).setCell ⟨g, 1, none⟩ (.slice none 0 0)).setCell ⟨g, 2, none⟩ (.slice none 0 0)).setCell ⟨ge, 0, none⟩ (.int .i64 er)).setCell ⟨gl, 0, none⟩ (.int .i64 line)).drew := by
  have st : ∀ {X : World} {q i : Nat} {v : Value}, q = g ∨ q = ge ∨ q = gl → Asm.Off (fun q => q = g ∨ q = ge ∨ q = gl) w X → Asm.Off (fun q => q = g ∨ q = ge ∨ q = gl) w (X.setCell ⟨q, i, none⟩ v) := fun {X q i v} hq h => by
   have hs := Asm.setCell_grown X q i v
   exact ⟨hs.os.trans h.os, hs.tape.trans h.tape, hs.output.trans h.output, Nat.le_trans h.size hs.size, fun k hk hn => (hs.block k (Nat.lt_of_lt_of_le hk h.size) (fun e => hn (by rw [Option.some.inj e]; exact hq))).trans (h.block k hk hn)⟩
  have hV : Asm.Off (fun q => q = g ∨ q = ge ∨ q = gl) w V := Asm.Off.of_below bW
  have h5 := st (q := gl) (i := 0) (v := .int .i64 line) (.inr (.inr rfl)) (st (q := ge) (i := 0) (v := .int .i64 er) (.inr (.inl rfl)) (st (q := g) (i := 2) (v := .slice none 0 0) (.inl rfl) (st (q := g) (i := 1) (v := .slice none 0 0) (.inl rfl) (st (q := g) (i := 0) (v := .int .u32 0) (.inl rfl) hV))))
  have hd := (fun X : World => (below_drewN' (Below.refl X.heap.size X) 1 : Below X.heap.size X X.drew)) (((((V.setCell ⟨g, 0, none⟩ (.int .u32 0)).setCell ⟨g, 1, none⟩ (.slice none 0 0)).setCell ⟨g, 2, none⟩ (.slice none 0 0)).setCell ⟨ge, 0, none⟩ (.int .i64 er)).setCell ⟨gl, 0, none⟩ (.int .i64 line))
  exact ⟨hd.os.trans h5.os, hd.tape.trans h5.tape, hd.output.trans h5.output, Nat.le_trans h5.size hd.size, fun k hk hn => (hd.block k (Nat.lt_of_lt_of_le hk h5.size)).trans (h5.block k hk hn)⟩
 generalize (((((V.setCell ⟨g, 0, none⟩ (.int .u32 0)).setCell ⟨g, 1, none⟩ (.slice none 0 0)).setCell ⟨g, 2, none⟩ (.slice none 0 0)).setCell ⟨ge, 0, none⟩ (.int .i64 er)).setCell ⟨gl, 0, none⟩ (.int .i64 line)) = Z at h1e he4 hl3 ho ⊢
 clear hm he hl hm2 he2 hl2 m0 m0' m1 m1' m2 m2' c0 c0' c1 c1' w0 w0' w1 w1' gm0 gm0' gm1 gm1' gm2 gm2' ge0 ge0' gl0 gl0' zm ze zl zw kw bW he3 h1 hW hta
 cases c₀
 exact ⟨rfl, _, rfl, .tuple #[], by simp [results, Tryz.results25], rfl, rfl, h1e, he4, hl3, ho⟩
end Go.Proofs.YtabmlbnnhhpaoaaGreatDoor
set_option maxHeartbeats 1000000
namespace Go.Proofs.YtabmlbnnhhpaoaaGreatDoor
open Go.RowKit Go.Shelf
attribute [local go_sem] Oper.semAt_some
theorem step_append_at {P : Program} (w : World) {ops : Array Oper} {o : Oper} {a : Act} {K : Act → World → Prop} {Q : Exit → Act → World → Prop} {E : Prop} (hgd : o.guard = none) (s x : Operand) (t : TypeId)
 (ho : o.op = .call { callee := .builtin .append, args := #[s, x], argTypes := #[t, t] })
 (base : Nat) (e : TypeId) (i : TypeInfo) (z : Value) (size bytes : Nat) (ht : P.underlying t = some (.slice e)) (hi : P.info? e = some i) (hz : i.zero = some z)
 (hsize : i.size = size) (hby : i.bytes = bytes) (hzs : z.cells.size = size) (hsz : 0 < size)
 (v : Value) (n : Nat) (xs : List Value) (hs : a.eval s = v) (hown : w.ownsRow base e size v n xs)
 (ad : Addr) (m c : Nat) (news : List Value) (hx : a.eval x = .slice (some ad) m c) (hl : news.length = m * size) (hnews : ∀ j u, news[j]? = some u → w.cell? (ad.add j) = some u) (h1 : ∀ u ∈ news, u.oneCell' = true)
 (h63 : n + m ≤ maxLen) (hbytes : (n + m) * bytes ≤ 140737488355328) (hbase : base ≤ w.heap.size)
 (h : ∀ v' w', w'.ownsRow base e size v' (n + m) (xs ++ news) → w.grownBy w' v.ownBlock → K (a.put o.dst v') w') :
 if Region.wanted o (yielded ops a.tmps) = true then Oper.wp P o a w K Q else E := by
 have hw : Region.wanted o (yielded ops a.tmps) = true := by simp [Region.wanted, hgd]
 rw [if_pos hw]
 obtain ⟨v', w', hr, h2, h3, _, _⟩ := run_append_own_at (P := P) w base t o.type e i z size bytes ht hi hz hsize hby hzs hsz v n xs hown ad m c news hl hnews h1 h63 hbytes hbase
 unfold Oper.wp execOp
 simp only [ho, resolve, invoke, builtin, Sem.run_bind, Sem.run_pure, Result.andThen_ok, List.map_toArray, List.map_cons, List.map_nil, hs, hx, hr]
 exact h v' w' h2 h3
theorem Asm.Par.freeD {B : Asm.PB} {S : Asm.PS} {w : World} (h : Asm.Par B S w) {D : Nat} {x : Option (List Deferred)} (hg : w.heap[D]? = some (.deferred x)) : ¬ B.owns D := by
 rintro (rfl | rfl | e | e | e | ⟨p, hp, hm⟩)
 · rw [h.own] at hg; cases hg
 · obtain ⟨es, clock, hb, _⟩ := h.map; rw [hb] at hg; cases hg
 · obtain ⟨c, hc⟩ := Asm.row_type h.pieces e; rw [hc] at hg; cases hg
 · obtain ⟨c, hc⟩ := Asm.row_type h.labels e; rw [hc] at hg; cases hg
 · obtain ⟨c, hc⟩ := Asm.row_type h.fresh e; rw [hc] at hg; cases hg
 · obtain ⟨c, t', hc, _⟩ := h.box hp hm; rw [hc] at hg; cases hg
theorem Asm.Off.keepsFrom {B : Asm.PB} {S : Asm.PS} {W W' : World} (hP : Asm.Par B S W) (ho : Asm.Off B.owns W W') {N : Nat} (hm : B.mb < N) : KeepsFrom N W W' := by
 refine ⟨ho.size, fun k o hk ho' hc => (ho.block k (blk_size ho') (fun hown => ?_)).trans ho'⟩
 rcases hown with e | e | e | e | e | ⟨p, hp, hg⟩
 · rw [e, hP.own] at ho'; cases ho'; cases hc
 · omega
 · obtain ⟨c, h⟩ := Asm.row_type hP.pieces e; rw [h] at ho'; cases ho'; cases hc
 · obtain ⟨c, h⟩ := Asm.row_type hP.labels e; rw [h] at ho'; cases ho'; cases hc
 · obtain ⟨c, h⟩ := Asm.row_type hP.fresh e; rw [h] at ho'; cases ho'; cases hc
 · obtain ⟨c, t, h, _⟩ := hP.box hp hg
   rw [h] at ho'; cases ho'; cases hc
theorem assemble_results2 (tmps : Array Value) (g ge gl : Nat) (h2 : tmps[2]? = some (.pointer (some ⟨g, 0, none⟩))) (h3 : tmps[3]? = some (.pointer (some ⟨ge, 0, none⟩))) (h4 : tmps[4]? = some (.pointer (some ⟨gl, 0, none⟩))) (O er line : Int) (vW vL : Value) (Y : World)
 (hm : Y.heap[g]? = some (.cells #[.int .u32 O, vW, vL] 27 (0, 0))) (he : Y.heap[ge]? = some (.cells #[.int .i64 er] 35 (0, 0))) (hl : Y.heap[gl]? = some (.cells #[.int .i64 line] 3 (0, 0))) :
 (results Tryz.f13 tmps).run Tryz.prog Y = .ok (.tuple #[.agg #[.int .u32 O, vW, vL], .int .i64 er, .int .i64 line]) Y := by
 obtain ⟨dm, _⟩ := blk_facts hm
 obtain ⟨de, _⟩ := blk_facts he
 obtain ⟨dl, _⟩ := blk_facts hl
 have m0 : Y.cell? ⟨g, 0, none⟩ = some (.int .u32 O) := dm 0
 have m1 : Y.cell? ⟨g, 1, none⟩ = some vW := dm 1
 have m2 : Y.cell? ⟨g, 2, none⟩ = some vL := dm 2
 have e0 : Y.cell? ⟨ge, 0, none⟩ = some (.int .i64 er) := de 0
 have l0 : Y.cell? ⟨gl, 0, none⟩ = some (.int .i64 line) := dl 0
 simp [results, Tryz.results13, go_sem, h2, h3, h4, m0, m1, m2, e0, l0]
theorem assemble_panic (R : Ending → World → Prop) (tmps : Array Value) (g ge gl D : Nat) (h2 : tmps[2]? = some (.pointer (some ⟨g, 0, none⟩))) (h3 : tmps[3]? = some (.pointer (some ⟨ge, 0, none⟩))) (h4 : tmps[4]? = some (.pointer (some ⟨gl, 0, none⟩))) (er line O e0 l0 : Int) (vW vL : Value) (Y : World)
 (hm : Y.heap[g]? = some (.cells #[.int .u32 O, vW, vL] 27 (0, 0))) (he : Y.heap[ge]? = some (.cells #[.int .i64 e0] 35 (0, 0))) (hl : Y.heap[gl]? = some (.cells #[.int .i64 l0] 3 (0, 0))) (hD : Y.heap[D]? = some (.deferred (some [])))
 (hR : ∀ Z, Asm.Off (fun q => q = g ∨ q = ge ∨ q = gl) (Y.putObj D (.deferred none)) Z → R (.returned (.tuple #[.agg #[.int .u32 0, .slice none 0 0, .slice none 0 0], .int .i64 er, .int .i64 line])) Z) :
 bodyPostM Fence.wide 8 Tryz.prog Tryz.f13 R (.panic (Asm.chain er line)) { tmps := tmps, defers := [{ target := .collected D, args := #[] }, { target := .fn (.func 25) #[.pointer (some ⟨g, 0, none⟩), .pointer (some ⟨ge, 0, none⟩), .pointer (some ⟨gl, 0, none⟩)], args := #[] }] } Y := by
 have n1 : ∀ {k : Nat} {cs : Array Value} {t : TypeId} {fr : Nat × Nat}, Y.heap[k]? = some (.cells cs t fr) → (Y.putObj D (.deferred none)).heap[k]? = some (.cells cs t fr) := fun {k cs t fr} hk =>
  (World.putObj_heap_other (fun e => by rw [e, hD] at hk; cases hk)).trans hk
 refine ⟨by simp, .inl ⟨_, _, rfl, run_takeDeferred hD, ⟨by simp, .inr ⟨fun _ => by decide, .func 25, #[.pointer (some ⟨g, 0, none⟩), .pointer (some ⟨ge, 0, none⟩), .pointer (some ⟨gl, 0, none⟩)], 25, #[.pointer (some ⟨g, 0, none⟩), .pointer (some ⟨ge, 0, none⟩), .pointer (some ⟨gl, 0, none⟩)], rfl, by kernel_rfl, fun _ _ => trivial, ?_⟩⟩⟩⟩
 refine (catch_panic 7 g ge gl er line O e0 l0 vW vL (Y.putObj D (.deferred none)) (n1 hm) (n1 he) (n1 hl)).mono ?_
 rintro e u' Z ⟨rfl, rfl, k1, k2, k3, ho⟩
 exact ⟨_, assemble_results2 tmps g ge gl h2 h3 h4 0 er line _ _ Z k1 k2 k3, hR Z ho⟩
end Go.Proofs.YtabmlbnnhhpaoaaGreatDoor
set_option maxHeartbeats 4000000
set_option maxRecDepth 100000
namespace Go.Proofs.YtabmlbnnhhpaoaaGreatDoor
open Go.RowKit Go.Shelf
theorem split_any (n : Nat) (hn : 1 ≤ n) (src : List UInt8) (hl : src.length ≤ 1000000) (b1 b2 b3 : Nat) (h12 : b1 ≠ b2) (h32 : b3 ≠ b2) (w : World)
 (k1 : w.heap[b1]? = some (.cells #[.string ⟨#[10]⟩] 9 (0, 0))) (k2 : w.heap[b2]? = some (.cells #[.string ⟨src.toArray⟩] 9 (0, 0))) (k3 : w.heap[b3]? = some (.cells #[.int .i64 0] 3 (0, 0))) :
 Asm.SeqAny n Tryz.prog 84 #[.pointer (some ⟨b1, 0, none⟩), .pointer (some ⟨b2, 0, none⟩), .pointer (some ⟨b3, 0, none⟩)] (fun x : List UInt8 => #[.string ⟨x.toArray⟩]) (Asm.same3 b1 b2 b3) (Asm.lines src) b2 w := by
 intro l J Jp W hB hJ hJs hY h0
 have m1 := blk_keep hB k1
 have m2 := blk_keep hB k2
 have m3 := blk_keep hB k3
 obtain ⟨d1, f1⟩ := blk_facts m1
 have c1 : W.cell? ⟨b1, 0, none⟩ = some (.string ⟨#[10]⟩) := d1 0
 clear d1 f1
 refine callsIn_of_wp Tryz.func84 rfl trivial ?_ rfl
 simp only [Tryz.ntmps84, List.size_toArray, List.length_cons, List.length_nil, Nat.reduceAdd, Nat.reduceSub, Array.replicate_succ, Array.replicate_zero, List.push_toArray, List.append_toArray, List.nil_append, List.cons_append]
 gi_wp2_with fail
 gi_loopw [7] (fun _ wr => ∃ (pre : List (List UInt8)) (r : List UInt8), Asm.lines src = pre ++ Asm.lines r ∧ r.length ≤ 1000000 ∧ wr.heap[b1]? = some (.cells #[.string ⟨#[10]⟩] 9 (0, 0)) ∧ wr.heap[b2]? = some (.cells #[.string ⟨r.toArray⟩] 9 (0, 0)) ∧ wr.heap[b3]? = some (.cells #[.int .i64 0] 3 (0, 0)) ∧ J pre wr) (fun _ wr => Asm.leftAt b2 wr)
 case atStart => exact ⟨[], src, rfl, hl, m1, m2, m3, h0⟩
 case round =>
  obtain ⟨pre, r, hpr, hlr, n1, n2, n3, hj⟩ := hrel
  clear m1 m2 m3 c1
  obtain ⟨d1, _⟩ := blk_facts n1
  obtain ⟨d2, g2⟩ := blk_facts n2
  obtain ⟨d3, _⟩ := blk_facts n3
  have c1 : wr.cell? ⟨b1, 0, none⟩ = some (.string ⟨#[10]⟩) := d1 0
  have c2 : wr.cell? ⟨b2, 0, none⟩ = some (.string ⟨r.toArray⟩) := d2 0
  have c3 : wr.cell? ⟨b3, 0, none⟩ = some (.int .i64 0) := d3 0
  have f2 : wr.frozen? ⟨b2, 0, none⟩ = false := g2 0
  have z2 := blk_size n2
  have hix := Asm.indexByte_lt r 10
  have hc := Tryz.strings_Index_one ⟨r.toArray⟩ 10 wr
  rw [show (⟨r.toArray⟩ : ByteArray).data.toList = r from rfl] at hc
  have hsz : (⟨r.toArray⟩ : ByteArray).size = r.length := by simp [ByteArray.size]
  clear d1 d2 g2 d3
  obtain ⟨i, hi⟩ : ∃ i, Lib.indexByte r 10 = i := ⟨_, rfl⟩
  rw [hi] at hc hix
  by_cases hneg : i < 0
  · have hln := Asm.lines_none r (by omega)
    rw [hln] at hpr
    obtain ⟨fn, tmps, assign, body, hy, hR⟩ := hY pre r wr hj (by rw [hpr]; exact List.prefix_refl _)
    gi_wp2_with (refine ⟨trivial, ?_⟩; gi_at_call 86; refine (callsIn_wide.2 hc).mono ?_; rintro e w' ⟨rfl, rfl⟩)
    refine hR.mono ?_
    rintro e W3 (⟨rfl, hj3, hk3⟩ | ⟨ch, rfl, hp⟩)
    rotate_left
    · exact ⟨rfl, .inr ⟨ch, rfl, hp⟩⟩
    gi_wp2
    go_end0
    exact .inl ⟨⟨_, rfl⟩, by rw [hpr]; exact hj3⟩
  · obtain ⟨k, rfl⟩ : ∃ k : Nat, i = k := ⟨i.toNat, by omega⟩
    obtain ⟨hk, hln⟩ := Asm.lines_some r k hi
    obtain ⟨fn, tmps, assign, body, hy, hR⟩ := hY pre (r.take k) wr hj ⟨Asm.lines (r.drop (k + 1)), by rw [hpr, hln]; simp⟩
    have hx : (⟨(r.take k).toArray⟩ : ByteArray) = (⟨r.toArray⟩ : ByteArray).extract 0 k := by rw [Lib.extract_mk]; simp
    rw [hx] at hy
    gi_wp2_with (refine ⟨trivial, ?_⟩; gi_at_call 86; refine (callsIn_wide.2 hc).mono ?_; rintro e w' ⟨rfl, rfl⟩)
    refine hR.mono ?_
    rintro e W3 (⟨rfl, hj3, s1, s2, s3⟩ | ⟨ch, rfl, hp⟩)
    rotate_left
    · exact ⟨rfl, .inr ⟨ch, rfl, hp⟩⟩
    have q1 := s1.trans n1
    have q2 := s2.trans n2
    have q3 := s3.trans n3
    obtain ⟨d1, _⟩ := blk_facts q1
    obtain ⟨d2, g2⟩ := blk_facts q2
    have e1 : W3.cell? ⟨b1, 0, none⟩ = some (.string ⟨#[10]⟩) := d1 0
    have e2 : W3.cell? ⟨b2, 0, none⟩ = some (.string ⟨r.toArray⟩) := d2 0
    have e3 : W3.frozen? ⟨b2, 0, none⟩ = false := g2 0
    have e4 := blk_size q2
    clear d1 d2 g2
    have hy' : (⟨r.toArray⟩ : ByteArray).extract (k + 1) r.length = ⟨(r.drop (k + 1)).toArray⟩ := by rw [Lib.extract_mk, List.take_of_length_le (by simp)]
    gi_wp2
    have r2 := setCell_row q2 0 (.string ⟨(r.drop (k + 1)).toArray⟩) (cs' := #[.string ⟨(r.drop (k + 1)).toArray⟩]) rfl
    refine ⟨⟨pre ++ [r.take k], r.drop (k + 1), by rw [hpr, hln]; simp, by simp; omega, setCell_farG q1 h12 0 _, r2, setCell_farG q3 h32 0 _, hJs _ _ _ hj3⟩, ?_⟩
    have u1 : (W3.setCell ⟨b2, 0, none⟩ (.string ⟨(r.drop (k + 1)).toArray⟩)).cell? ⟨b2, 0, none⟩ = some (.string ⟨(r.drop (k + 1)).toArray⟩) := (blk_facts r2).1 0
    unfold Asm.leftAt
    rw [u1, c2]
    simp [ByteArray.size]; omega
end Go.Proofs.YtabmlbnnhhpaoaaGreatDoor
set_option maxHeartbeats 8000000
set_option maxRecDepth 100000
namespace Go.Proofs.YtabmlbnnhhpaoaaGreatDoor
open Go.RowKit Go.Shelf
attribute [local go_sem] Oper.semAt_some
namespace Asm
def start : PS := ⟨0, [], 0, false, 0, [], [], .map [], 0, []⟩
def linesR (S : PS) : List (List UInt8) → Except (Int × Int) PS
 | [] => .ok S
 | s :: l =>
   match oneR S s with
   | .error er => .error (er, S.line + 1)
   | .ok T => linesR T l
def piecesR (S : PS) : List Piece → Except (Int × Int) (List Int)
 | [] => .ok []
 | x :: l =>
   match pieceR S x with
   | .error er => .error (er, x.line)
   | .ok ws =>
     match piecesR S l with
     | .error e => .error e
     | .ok r => .ok (ws ++ r)
def asmR (src : List UInt8) : Except (Int × Int) (Int × List Int × List (List UInt8 × Int)) :=
 match linesR start (lines src) with
 | .error e => .error e
 | .ok S =>
   match piecesR S S.pieces with
   | .error e => .error e
   | .ok ws => .ok (S.origin % 4294967296, ws, S.labels)
theorem linesR_append (S : PS) : ∀ (a b : List (List UInt8)), linesR S (a ++ b) = (match linesR S a with | .error e => .error e | .ok T => linesR T b) := by
 intro a
 induction a generalizing S with
 | nil => intro b; rfl
 | cons s a ih =>
   intro b
   rw [List.cons_append, linesR, linesR]
   cases oneR S s with
   | error e => rfl
   | ok T => exact ih T b
structure Sane (src : List UInt8) : Prop where
 bnd : ∀ pre x, pre ++ [x] <+: lines src → ∀ S, linesR start pre = .ok S → Bnd3 S (x.length + 1) ∧ x.length ≤ 100000
 last : ∀ S, linesR start (lines src) = .ok S → S.toks = [] ∧ Bnd S ∧ PlOk S ∧ ∀ x ∈ S.pieces, PGood x
theorem PGood.small {S : PS} {x : Piece} (h : PGood x) : (wordsOf S x).length ≤ 1000000 := by
 unfold PGood at h
 unfold wordsOf
 cases hq : x.kind with
 | enc => simp
 | word l => rw [hq] at h; simpa using h.2.1
 | li => simp
 | zero => rw [hq] at h; have := h.2; simp only [List.length_replicate]; omega
def stOf (src : List UInt8) (k : Nat) : PS := match linesR start ((lines src).take k) with | .ok S => S | .error _ => start
def AsmOut (w : World) : Except (Int × Int) (Int × List Int × List (List UInt8 × Int)) → Ending → World → Prop
 | .ok (o, ws, ls), e, w' => ∃ vW vL, e = .returned (.tuple #[.agg #[.int .u32 o, vW, vL], .int .i64 0, .int .i64 0]) ∧ w'.ownsRow w.heap.size 23 1 vW ws.length (ws.map word32) ∧ w'.ownsRow w.heap.size 42 2 vL ls.length (ls.flatMap labelCells)
 | .error (er, line), e, w' => e = .returned (.tuple #[.agg #[.int .u32 0, .slice none 0 0, .slice none 0 0], .int .i64 er, .int .i64 line])
def RJ (src : List UInt8) (w : World) (L : List (Nat × Obj)) (bs pb mb : Nat) (pre : List (List UInt8)) (W : World) : Prop :=
 RI w (stOf src) L bs pb mb pre W ∧ linesR start pre = .ok (stOf src pre.length)
def RP (src : List UInt8) (w : World) (ch : List PanicEntry) (W : World) : Prop :=
 ∃ er line, ch = chain er line ∧ linesR start (lines src) = .error (er, line) ∧ W.heap[w.heap.size]? = some (.cells #[.int .u32 0, .slice none 0 0, .slice none 0 0] 27 (0, 0)) ∧ W.heap[w.heap.size + 1]? = some (.cells #[.int .i64 0] 35 (0, 0)) ∧ W.heap[w.heap.size + 1 + 1]? = some (.cells #[.int .i64 0] 3 (0, 0)) ∧ Below w.heap.size w W
theorem stOf_take {src : List UInt8} {pre : List (List UInt8)} (h : pre <+: lines src) {S : PS} (hl : linesR start pre = .ok S) : stOf src pre.length = S := by
 unfold stOf
 rw [List.prefix_iff_eq_take.1 h] at hl
 rw [hl]
theorem piecesR_step {S : PS} {k : Nat} (hk : k < S.pieces.length) {x : Piece} (hx : S.pieces[k] = x) : piecesR S (S.pieces.drop k) = (match pieceR S x with | .error er => .error (er, x.line) | .ok ws => match piecesR S (S.pieces.drop (k + 1)) with | .error e => .error e | .ok r => .ok (ws ++ r)) := by
 rw [List.drop_eq_getElem_cons hk, hx, piecesR]
def PanicOnly (w : World) (RES : Except (Int × Int) (Int × List Int × List (List UInt8 × Int))) (D : Nat) : Exit → Act → World → Prop
 | .panic ch, a, y => (∃ er line O vW vL, ch = chain er line ∧ RES = .error (er, line) ∧ y.heap[w.heap.size]? = some (.cells #[.int .u32 O, vW, vL] 27 (0, 0)) ∧ y.heap[w.heap.size + 1]? = some (.cells #[.int .i64 0] 35 (0, 0)) ∧ y.heap[w.heap.size + 1 + 1]? = some (.cells #[.int .i64 0] 3 (0, 0)) ∧ y.heap[D]? = some (.deferred (some [])) ∧ Below w.heap.size w y) ∧
  a.tmps[2]? = some (.pointer (some ⟨w.heap.size, 0, none⟩)) ∧ a.tmps[3]? = some (.pointer (some ⟨w.heap.size + 1, 0, none⟩)) ∧ a.tmps[4]? = some (.pointer (some ⟨w.heap.size + 1 + 1, 0, none⟩)) ∧
  a.defers = [{ target := .collected D, args := #[] }, { target := .fn (.func 25) #[.pointer (some ⟨w.heap.size, 0, none⟩), .pointer (some ⟨w.heap.size + 1, 0, none⟩), .pointer (some ⟨w.heap.size + 1 + 1, 0, none⟩)], args := #[] }]
 | _, _, _ => False
theorem PanicOnly.unput {w : World} {RES : Except (Int × Int) (Int × List Int × List (List UInt8 × Int))} {D : Nat} {ch : List PanicEntry} {a : Act} {t : Nat} {v : Value} {y : World} (ht : t ≠ 2 ∧ t ≠ 3 ∧ t ≠ 4) (h : PanicOnly w RES D (.panic ch) (a.put (some t) v) y) : PanicOnly w RES D (.panic ch) a y := by
 obtain ⟨h1, t2, t3, t4, hd⟩ := h
 simp only [Act.put] at t2 t3 t4 hd
 rw [Array.getElem?_setIfInBounds_ne (by omega)] at t2 t3 t4
 exact ⟨h1, t2, t3, t4, hd⟩
theorem pm_leave {w : World} {RES : Except (Int × Int) (Int × List Int × List (List UInt8 × Int))} {D : Nat} (hD : w.heap.size ≤ D) (ch : List PanicEntry) (a : Act) (y : World) (h : PanicOnly w RES D (.panic ch) a y) :
 bodyPostM Fence.wide 8 Tryz.prog Tryz.f13 (fun e w' => AsmOut w RES e w' ∧ Below w.heap.size w w') (.panic ch) a y := by
 obtain ⟨⟨er, line, O, vW, vL, rfl, hr, km, ke, kl, kd, hb⟩, t2, t3, t4, hdf⟩ := h
 obtain ⟨tmps, defers⟩ := a
 dsimp only at t2 t3 t4 hdf
 subst hdf
 refine assemble_panic _ _ w.heap.size (w.heap.size + 1) (w.heap.size + 1 + 1) D t2 t3 t4 er line O 0 0 vW vL y km ke kl kd (fun Z9 hZ9 => ⟨by rw [hr]; exact rfl, ?_⟩)
 have hpo : Below w.heap.size w (y.putObj D (.deferred none)) := hb.trans ⟨rfl, rfl, rfl, by simp, fun j hj => World.putObj_heap_other (by omega)⟩
 exact hpo.trans ⟨hZ9.os, hZ9.tape, hZ9.output, hZ9.size, fun j hj => hZ9.block j (by have := hpo.size; omega) (by rintro (e | e | e) <;> omega)⟩
def comb (S : PS) (k : Nat) : Except (Int × Int) (Int × List Int × List (List UInt8 × Int)) :=
 match piecesR S (S.pieces.drop k) with
 | .error e => .error e
 | .ok r => .ok (S.origin % 4294967296, (S.pieces.take k).flatMap (wordsOf S) ++ r, S.labels)
theorem comb_start {src : List UInt8} {S : PS} (h : linesR start (lines src) = .ok S) : asmR src = comb S 0 := by
 unfold asmR comb
 rw [h]
 simp only [List.drop_zero, List.take_zero, List.flatMap_nil, List.nil_append]
theorem comb_bad {S : PS} {k : Nat} (hk : k < S.pieces.length) {x : Piece} (hx : S.pieces[k] = x) {er : Int} (h : pieceR S x = .error er) : comb S k = .error (er, x.line) := by
 unfold comb
 rw [piecesR_step hk hx, h]
theorem comb_next {S : PS} {k : Nat} (hk : k < S.pieces.length) {x : Piece} (hx : S.pieces[k] = x) (h : pieceR S x = .ok (wordsOf S x)) : comb S k = comb S (k + 1) := by
 unfold comb
 rw [piecesR_step hk hx, h]
 dsimp only
 cases piecesR S (S.pieces.drop (k + 1)) with
 | error e => rfl
 | ok r =>
   dsimp only
   rw [List.take_succ_eq_append_getElem hk, hx, List.flatMap_append, List.append_assoc]
   simp
theorem comb_end (S : PS) : comb S S.pieces.length = .ok (S.origin % 4294967296, S.pieces.flatMap (wordsOf S), S.labels) := by
 unfold comb
 rw [List.drop_length, List.take_length, piecesR]
 simp
theorem wordsTo_all (S : PS) : wordsTo S S.pieces.length = (S.pieces.flatMap (wordsOf S)).map word32 := by
 unfold wordsTo
 rw [List.take_length, List.map_flatMap]
end Asm
theorem assemble_any (src : List UInt8) (hlen : src.length ≤ 20000) (hsane : Asm.Sane src) (w : World) (hL : Isa.Laid w) :
 Calls Tryz.prog 13 #[.string ⟨src.toArray⟩] w fun e w' => Asm.AsmOut w (Asm.asmR src) e w' ∧ Below w.heap.size w w' := by
 have h0 : Asm.stOf src 0 = Asm.start := by unfold Asm.stOf; rw [List.take_zero]; rfl
 obtain ⟨RES, hRES⟩ : ∃ RES, Asm.asmR src = RES := ⟨_, rfl⟩
 rw [hRES]
 have HRES := Lib.hid hRES
 clear hRES
 have hmf : ∀ (fn : Fn) (first cap : Array Value) (w : World), (Instr.makeFunc fn first cap).run Tryz.prog w = .ok (.func fn first cap) w := fun _ _ _ _ => rfl
 have hmm := @run_makeMap Tryz.prog
 have hsf : ∀ (a : Addr) (fn : Fn) (first cap : Array Value) (m : Mode) (w : World), (store a (.func fn first cap) m).run Tryz.prog w = stored Tryz.prog w a (.func fn first cap) m := fun a _ _ _ m w => run_store Tryz.prog w a _ m rfl
 have hsz : (⟨src.toArray⟩ : ByteArray).size = src.length := by simp [ByteArray.size]
 refine Asm.calls_of_wpF (n := 8) Tryz.func13 rfl ?_
 simp only [Tryz.ntmps13, List.size_toArray, List.length_cons, List.length_nil, Nat.reduceAdd, Nat.reduceSub, Array.replicate_succ, Array.replicate_zero, List.push_toArray, List.append_toArray, List.nil_append, List.cons_append]
 refine Asm.wpF_seq (Asm.wpF_of_wp ?_)
 go_wp2_with fail
 refine Asm.wpF_seq (Asm.wpF_of_wp ?_)
 go_wp2_with fail
 refine Asm.wpF_seq (Asm.wpF_of_wp ?_)
 go_wp2_with fail
 refine Asm.wpF_seq (Asm.wpF_of_wp ?_)
 go_wp2_with fail
 refine Asm.wpF_seq (Asm.wpF_seq (Asm.wpF_of_wp ?_))
 go_wp2_with fail
 refine (splitseq_calls src _).mono ?_
 rintro e W9 ⟨rfl, rfl⟩
 have hh0 := heap_alloc_new w (.cells #[.int .u32 0, .slice none 0 0, .slice none 0 0] 27)
 have F0 := (blk_alloc (.cells #[.int .i64 0] 3) (blk_alloc (.cells #[.string ⟨#[10]⟩] 9) (blk_alloc (.cells #[.string ⟨src.toArray⟩] 9) (blk_alloc (.cells #[.pointer (some ⟨w.heap.size + 1 + 1 + 1 + 1, 0, none⟩)] 70) (blk_alloc (.cells #[.int .i64 0, .slice none 0 0, .int .i64 0, .bool false, .int .i64 0, .slice none 0 0, .slice none 0 0, .map (some (w.heap.size + 1 + 1 + 1)), .slice none 0 0] 75) (blk_alloc (.map #[] 0) (blk_alloc (.cells #[.int .i64 0] 3) (blk_alloc (.cells #[.int .i64 0] 35) hh0))))))))
 clear hh0
 have hh1 := heap_alloc_new (w.alloc (.cells #[.int .u32 0, .slice none 0 0, .slice none 0 0] 27)) (.cells #[.int .i64 0] 35)
 rw [alloc_size] at hh1
 have F1 := (blk_alloc (.cells #[.int .i64 0] 3) (blk_alloc (.cells #[.string ⟨#[10]⟩] 9) (blk_alloc (.cells #[.string ⟨src.toArray⟩] 9) (blk_alloc (.cells #[.pointer (some ⟨w.heap.size + 1 + 1 + 1 + 1, 0, none⟩)] 70) (blk_alloc (.cells #[.int .i64 0, .slice none 0 0, .int .i64 0, .bool false, .int .i64 0, .slice none 0 0, .slice none 0 0, .map (some (w.heap.size + 1 + 1 + 1)), .slice none 0 0] 75) (blk_alloc (.map #[] 0) (blk_alloc (.cells #[.int .i64 0] 3) hh1)))))))
 clear hh1
 have hh2 := heap_alloc_new ((w.alloc (.cells #[.int .u32 0, .slice none 0 0, .slice none 0 0] 27)).alloc (.cells #[.int .i64 0] 35)) (.cells #[.int .i64 0] 3)
 rw [alloc_size, alloc_size] at hh2
 have F2 := (blk_alloc (.cells #[.int .i64 0] 3) (blk_alloc (.cells #[.string ⟨#[10]⟩] 9) (blk_alloc (.cells #[.string ⟨src.toArray⟩] 9) (blk_alloc (.cells #[.pointer (some ⟨w.heap.size + 1 + 1 + 1 + 1, 0, none⟩)] 70) (blk_alloc (.cells #[.int .i64 0, .slice none 0 0, .int .i64 0, .bool false, .int .i64 0, .slice none 0 0, .slice none 0 0, .map (some (w.heap.size + 1 + 1 + 1)), .slice none 0 0] 75) (blk_alloc (.map #[] 0) hh2))))))
 clear hh2
 have hh3 := heap_alloc_new (((w.alloc (.cells #[.int .u32 0, .slice none 0 0, .slice none 0 0] 27)).alloc (.cells #[.int .i64 0] 35)).alloc (.cells #[.int .i64 0] 3)) (.map #[] 0)
 rw [alloc_size, alloc_size, alloc_size] at hh3
 have F3 := (blk_alloc (.cells #[.int .i64 0] 3) (blk_alloc (.cells #[.string ⟨#[10]⟩] 9) (blk_alloc (.cells #[.string ⟨src.toArray⟩] 9) (blk_alloc (.cells #[.pointer (some ⟨w.heap.size + 1 + 1 + 1 + 1, 0, none⟩)] 70) (blk_alloc (.cells #[.int .i64 0, .slice none 0 0, .int .i64 0, .bool false, .int .i64 0, .slice none 0 0, .slice none 0 0, .map (some (w.heap.size + 1 + 1 + 1)), .slice none 0 0] 75) hh3)))))
 clear hh3
 have hh4 := heap_alloc_new ((((w.alloc (.cells #[.int .u32 0, .slice none 0 0, .slice none 0 0] 27)).alloc (.cells #[.int .i64 0] 35)).alloc (.cells #[.int .i64 0] 3)).alloc (.map #[] 0)) (.cells #[.int .i64 0, .slice none 0 0, .int .i64 0, .bool false, .int .i64 0, .slice none 0 0, .slice none 0 0, .map (some (w.heap.size + 1 + 1 + 1)), .slice none 0 0] 75)
 rw [alloc_size, alloc_size, alloc_size, alloc_size] at hh4
 have F4 := (blk_alloc (.cells #[.int .i64 0] 3) (blk_alloc (.cells #[.string ⟨#[10]⟩] 9) (blk_alloc (.cells #[.string ⟨src.toArray⟩] 9) (blk_alloc (.cells #[.pointer (some ⟨w.heap.size + 1 + 1 + 1 + 1, 0, none⟩)] 70) hh4))))
 clear hh4
 have hh5 := heap_alloc_new (((((w.alloc (.cells #[.int .u32 0, .slice none 0 0, .slice none 0 0] 27)).alloc (.cells #[.int .i64 0] 35)).alloc (.cells #[.int .i64 0] 3)).alloc (.map #[] 0)).alloc (.cells #[.int .i64 0, .slice none 0 0, .int .i64 0, .bool false, .int .i64 0, .slice none 0 0, .slice none 0 0, .map (some (w.heap.size + 1 + 1 + 1)), .slice none 0 0] 75)) (.cells #[.pointer (some ⟨w.heap.size + 1 + 1 + 1 + 1, 0, none⟩)] 70)
 rw [alloc_size, alloc_size, alloc_size, alloc_size, alloc_size] at hh5
 have F5 := (blk_alloc (.cells #[.int .i64 0] 3) (blk_alloc (.cells #[.string ⟨#[10]⟩] 9) (blk_alloc (.cells #[.string ⟨src.toArray⟩] 9) hh5)))
 clear hh5
 have hh6 := heap_alloc_new ((((((w.alloc (.cells #[.int .u32 0, .slice none 0 0, .slice none 0 0] 27)).alloc (.cells #[.int .i64 0] 35)).alloc (.cells #[.int .i64 0] 3)).alloc (.map #[] 0)).alloc (.cells #[.int .i64 0, .slice none 0 0, .int .i64 0, .bool false, .int .i64 0, .slice none 0 0, .slice none 0 0, .map (some (w.heap.size + 1 + 1 + 1)), .slice none 0 0] 75)).alloc (.cells #[.pointer (some ⟨w.heap.size + 1 + 1 + 1 + 1, 0, none⟩)] 70)) (.cells #[.string ⟨src.toArray⟩] 9)
 rw [alloc_size, alloc_size, alloc_size, alloc_size, alloc_size, alloc_size] at hh6
 have F6 := (blk_alloc (.cells #[.int .i64 0] 3) (blk_alloc (.cells #[.string ⟨#[10]⟩] 9) hh6))
 clear hh6
 have hh7 := heap_alloc_new (((((((w.alloc (.cells #[.int .u32 0, .slice none 0 0, .slice none 0 0] 27)).alloc (.cells #[.int .i64 0] 35)).alloc (.cells #[.int .i64 0] 3)).alloc (.map #[] 0)).alloc (.cells #[.int .i64 0, .slice none 0 0, .int .i64 0, .bool false, .int .i64 0, .slice none 0 0, .slice none 0 0, .map (some (w.heap.size + 1 + 1 + 1)), .slice none 0 0] 75)).alloc (.cells #[.pointer (some ⟨w.heap.size + 1 + 1 + 1 + 1, 0, none⟩)] 70)).alloc (.cells #[.string ⟨src.toArray⟩] 9)) (.cells #[.string ⟨#[10]⟩] 9)
 rw [alloc_size, alloc_size, alloc_size, alloc_size, alloc_size, alloc_size, alloc_size] at hh7
 have F7 := (blk_alloc (.cells #[.int .i64 0] 3) hh7)
 clear hh7
 have hh8 := heap_alloc_new ((((((((w.alloc (.cells #[.int .u32 0, .slice none 0 0, .slice none 0 0] 27)).alloc (.cells #[.int .i64 0] 35)).alloc (.cells #[.int .i64 0] 3)).alloc (.map #[] 0)).alloc (.cells #[.int .i64 0, .slice none 0 0, .int .i64 0, .bool false, .int .i64 0, .slice none 0 0, .slice none 0 0, .map (some (w.heap.size + 1 + 1 + 1)), .slice none 0 0] 75)).alloc (.cells #[.pointer (some ⟨w.heap.size + 1 + 1 + 1 + 1, 0, none⟩)] 70)).alloc (.cells #[.string ⟨src.toArray⟩] 9)).alloc (.cells #[.string ⟨#[10]⟩] 9)) (.cells #[.int .i64 0] 3)
 rw [alloc_size, alloc_size, alloc_size, alloc_size, alloc_size, alloc_size, alloc_size, alloc_size] at hh8
 have F8 := hh8
 clear hh8
 have hmap := (World.ownsMap_made (((w.alloc (.cells #[.int .u32 0, .slice none 0 0, .slice none 0 0] 27)).alloc (.cells #[.int .i64 0] 35)).alloc (.cells #[.int .i64 0] 3)) Tryz.prog 9 (plainElem (H := Unit) Tryz.prog 2))
 have Fm := (((((hmap.alloc (.cells #[.int .i64 0, .slice none 0 0, .int .i64 0, .bool false, .int .i64 0, .slice none 0 0, .slice none 0 0, .map (some (w.heap.size + 1 + 1 + 1)), .slice none 0 0] 75)).alloc (.cells #[.pointer (some ⟨w.heap.size + 1 + 1 + 1 + 1, 0, none⟩)] 70)).alloc (.cells #[.string ⟨src.toArray⟩] 9)).alloc (.cells #[.string ⟨#[10]⟩] 9)).alloc (.cells #[.int .i64 0] 3))
 rw [alloc_size, alloc_size, alloc_size] at Fm
 clear hmap
 have hsz9 : ((((((((((w.alloc (.cells #[.int .u32 0, .slice none 0 0, .slice none 0 0] 27)).alloc (.cells #[.int .i64 0] 35)).alloc (.cells #[.int .i64 0] 3)).alloc (.map #[] 0)).alloc (.cells #[.int .i64 0, .slice none 0 0, .int .i64 0, .bool false, .int .i64 0, .slice none 0 0, .slice none 0 0, .map (some (w.heap.size + 1 + 1 + 1)), .slice none 0 0] 75)).alloc (.cells #[.pointer (some ⟨w.heap.size + 1 + 1 + 1 + 1, 0, none⟩)] 70)).alloc (.cells #[.string ⟨src.toArray⟩] 9)).alloc (.cells #[.string ⟨#[10]⟩] 9)).alloc (.cells #[.int .i64 0] 3)) : World).heap.size = w.heap.size + 1 + 1 + 1 + 1 + 1 + 1 + 1 + 1 + 1 := by simp only [alloc_size]
 have hB9 : Below w.heap.size w (((((((((w.alloc (.cells #[.int .u32 0, .slice none 0 0, .slice none 0 0] 27)).alloc (.cells #[.int .i64 0] 35)).alloc (.cells #[.int .i64 0] 3)).alloc (.map #[] 0)).alloc (.cells #[.int .i64 0, .slice none 0 0, .int .i64 0, .bool false, .int .i64 0, .slice none 0 0, .slice none 0 0, .map (some (w.heap.size + 1 + 1 + 1)), .slice none 0 0] 75)).alloc (.cells #[.pointer (some ⟨w.heap.size + 1 + 1 + 1 + 1, 0, none⟩)] 70)).alloc (.cells #[.string ⟨src.toArray⟩] 9)).alloc (.cells #[.string ⟨#[10]⟩] 9)).alloc (.cells #[.int .i64 0] 3)) := below_alloc' (below_alloc' (below_alloc' (below_alloc' (below_alloc' (below_alloc' (below_alloc' (below_alloc' (below_alloc' (Below.refl _ _) _) _) _) _) _) _) _) _) _
 generalize (((((((((w.alloc (.cells #[.int .u32 0, .slice none 0 0, .slice none 0 0] 27)).alloc (.cells #[.int .i64 0] 35)).alloc (.cells #[.int .i64 0] 3)).alloc (.map #[] 0)).alloc (.cells #[.int .i64 0, .slice none 0 0, .int .i64 0, .bool false, .int .i64 0, .slice none 0 0, .slice none 0 0, .map (some (w.heap.size + 1 + 1 + 1)), .slice none 0 0] 75)).alloc (.cells #[.pointer (some ⟨w.heap.size + 1 + 1 + 1 + 1, 0, none⟩)] 70)).alloc (.cells #[.string ⟨src.toArray⟩] 9)).alloc (.cells #[.string ⟨#[10]⟩] 9)).alloc (.cells #[.int .i64 0] 3)) = W at F0 F1 F2 F3 F4 F5 F6 F7 F8 Fm hsz9 hB9 ⊢
 have hP0 : Asm.Par ⟨w.heap.size, w.heap.size + 1 + 1 + 1 + 1, w.heap.size + 1 + 1 + 1, .slice none 0 0, .slice none 0 0, .slice none 0 0, .slice none 0 0, []⟩ (Asm.stOf src 0) W := by
  rw [h0]
  exact ⟨F4, ⟨none, 0, rfl, by simp [Asm.start], by decide, fun h => absurd rfl h⟩, Fm, World.ownsRow_nil _ _ _ _, rfl, (fun j x f h1 h2 => by simp [Asm.start] at h1), List.nodup_nil, (fun p hp => by cases hp), World.ownsRow_nil _ _ _ _, World.ownsRow_nil _ _ _ _, by show w.heap.size ≤ w.heap.size + 1 + 1 + 1 + 1; omega, by show w.heap.size ≤ w.heap.size + 1 + 1 + 1; omega⟩
 obtain ⟨L, hLd⟩ : ∃ L : List (Nat × Obj), L = [(w.heap.size, (.cells #[.int .u32 0, .slice none 0 0, .slice none 0 0] 27)), (w.heap.size + 1, (.cells #[.int .i64 0] 35)), (w.heap.size + 1 + 1, (.cells #[.int .i64 0] 3)), (w.heap.size + 1 + 1 + 1 + 1 + 1, (.cells #[.pointer (some ⟨w.heap.size + 1 + 1 + 1 + 1, 0, none⟩)] 70)), (w.heap.size + 1 + 1 + 1 + 1 + 1 + 1 + 1, (.cells #[.string ⟨#[10]⟩] 9)), (w.heap.size + 1 + 1 + 1 + 1 + 1 + 1 + 1 + 1, (.cells #[.int .i64 0] 3))] := ⟨_, rfl⟩
 have hLc : ∀ p ∈ L, ∃ cs t fr, p.2 = .cells cs t fr := by rw [hLd]; intro p hp; simp at hp; rcases hp with rfl | rfl | rfl | rfl | rfl | rfl <;> exact ⟨_, _, _, rfl⟩
 have hLb : ∀ p ∈ L, p.1 ≠ w.heap.size + 1 + 1 + 1 + 1 + 1 + 1 := by rw [hLd]; intro p hp; simp at hp; rcases hp with rfl | rfl | rfl | rfl | rfl | rfl <;> (simp only [ne_eq]; omega)
 have hno : ∀ g, g ≠ w.heap.size + 1 + 1 + 1 + 1 → g ≠ w.heap.size + 1 + 1 + 1 → ¬ Asm.PB.owns ⟨w.heap.size, w.heap.size + 1 + 1 + 1 + 1, w.heap.size + 1 + 1 + 1, .slice none 0 0, .slice none 0 0, .slice none 0 0, .slice none 0 0, []⟩ g := by
  rintro g h4 h3 (e | e | e | e | e | ⟨p, hp, _⟩)
  · exact h4 e
  · exact h3 e
  · simp [Value.ownBlock] at e
  · simp [Value.ownBlock] at e
  · simp [Value.ownBlock] at e
  · cases hp
 have hK0 : Asm.Keep ⟨w.heap.size, w.heap.size + 1 + 1 + 1 + 1, w.heap.size + 1 + 1 + 1, .slice none 0 0, .slice none 0 0, .slice none 0 0, .slice none 0 0, []⟩ L W := by
  rw [hLd]; intro p hp; simp at hp
  rcases hp with rfl | rfl | rfl | rfl | rfl | rfl
  · exact ⟨F0, hno _ (by omega) (by omega)⟩
  · exact ⟨F1, hno _ (by omega) (by omega)⟩
  · exact ⟨F2, hno _ (by omega) (by omega)⟩
  · exact ⟨F5, hno _ (by omega) (by omega)⟩
  · exact ⟨F7, hno _ (by omega) (by omega)⟩
  · exact ⟨F8, hno _ (by omega) (by omega)⟩
 have hI0 : Asm.RI w (Asm.stOf src) L (w.heap.size + 1 + 1 + 1 + 1 + 1 + 1) (w.heap.size + 1 + 1 + 1 + 1) (w.heap.size + 1 + 1 + 1) [] W := ⟨⟨_, hP0, rfl, rfl, rfl, hK0, hno _ (by omega) (by omega)⟩, ⟨_, F6⟩, hB9⟩
 have hseq := split_any 7 (by omega) src (by omega) (w.heap.size + 1 + 1 + 1 + 1 + 1 + 1 + 1) (w.heap.size + 1 + 1 + 1 + 1 + 1 + 1) (w.heap.size + 1 + 1 + 1 + 1 + 1 + 1 + 1 + 1) (by omega) (by omega) W F7 F6 F8
 simp only [alloc_size]
 go_wp2_with fail
 refine Asm.wpF_block ?_
 refine wpF_range_any (n := 7) ⟨_, Tryz.func13⟩ (gf := 84) (lb := #[.pointer (some ⟨w.heap.size + 1 + 1 + 1 + 1 + 1 + 1 + 1, 0, none⟩), .pointer (some ⟨w.heap.size + 1 + 1 + 1 + 1 + 1 + 1, 0, none⟩), .pointer (some ⟨w.heap.size + 1 + 1 + 1 + 1 + 1 + 1 + 1 + 1, 0, none⟩)]) rfl (enters_of Tryz.func84 (by kernel_rfl) rfl) hseq (by omega)
  (fun h k => ⟨k.1.trans h.1, k.2.1.trans h.2.1, k.2.2.trans h.2.2⟩) (fun W' l o o' hl _ _ _ => ⟨World.putObj_heap_other (by omega), World.putObj_heap_other (by omega), World.putObj_heap_other (by omega)⟩) (fun _ => rfl)
  (Asm.RJ src w L (w.heap.size + 1 + 1 + 1 + 1 + 1 + 1) (w.heap.size + 1 + 1 + 1 + 1) (w.heap.size + 1 + 1 + 1)) (Asm.RP src w) (fun pre A C row h hg hr => ⟨Asm.RI.own hLc (by omega) (by omega) pre A C row h.1 hg hr, h.2⟩) (fun pre W1 v h => ⟨h.1.set hLb (by omega) v, h.2⟩) ⟨hI0, by show _ = Except.ok (Asm.stOf src 0); rw [h0]; rfl⟩
  (fun x => { tmps := #[.string ⟨src.toArray⟩, undef, .pointer (some ⟨w.heap.size, 0, none⟩), .pointer (some ⟨w.heap.size + 1, 0, none⟩), .pointer (some ⟨w.heap.size + 1 + 1, 0, none⟩), .pointer (some ⟨w.heap.size + 1 + 1 + 1 + 1 + 1, 0, none⟩), .string ⟨x.toArray⟩, undef, undef, .string ⟨src.toArray⟩, .int .i64 (src.length : Int), .bool (decide ((20000 : Int) < (src.length : Int))), undef,
   .func (.func 25) #[] #[.pointer (some ⟨w.heap.size, 0, none⟩), .pointer (some ⟨w.heap.size + 1, 0, none⟩), .pointer (some ⟨w.heap.size + 1 + 1, 0, none⟩)], .map (some (w.heap.size + 1 + 1 + 1)),
   .agg #[.int .i64 0, .slice none 0 0, .int .i64 0, .bool false, .int .i64 0, .slice none 0 0, .slice none 0 0, .map (some (w.heap.size + 1 + 1 + 1)), .slice none 0 0], .pointer (some ⟨w.heap.size + 1 + 1 + 1 + 1, 0, none⟩), .string ⟨src.toArray⟩,
   .func (.func 84) #[] #[.pointer (some ⟨w.heap.size + 1 + 1 + 1 + 1 + 1 + 1 + 1, 0, none⟩), .pointer (some ⟨w.heap.size + 1 + 1 + 1 + 1 + 1 + 1, 0, none⟩), .pointer (some ⟨w.heap.size + 1 + 1 + 1 + 1 + 1 + 1 + 1 + 1, 0, none⟩)], .string ⟨x.toArray⟩, undef, undef, undef, undef, undef, undef, undef, undef, undef, undef, undef, undef, undef, undef, undef, undef, undef, undef, undef, undef, undef, undef, undef, undef, undef, undef, undef, undef, undef, undef, undef, undef, undef, undef, undef, undef, undef, undef], defers := [] }) ?assign ?body ?done ?panic
 case assign =>
  intro l x W K hK
  gi_wp2
  exact hK
 case body =>
  intro l pre x W1 hI hpre
  obtain ⟨hI, hgood⟩ := hI
  obtain ⟨B, h1, h2, h3, h4, h5, h6⟩ := hI.par
  obtain ⟨hbx, hxl⟩ := hsane.bnd pre x hpre _ hgood
  have hc := one_any x (x.length + 1) (Nat.le_refl _) hxl B _ hbx W1 h1
  rw [h2] at hc
  have hv := (h5 (w.heap.size + 1 + 1 + 1 + 1 + 1, (.cells #[.pointer (some ⟨w.heap.size + 1 + 1 + 1 + 1, 0, none⟩)] 70)) (by rw [hLd]; simp)).1
  have cv : W1.cell? ⟨w.heap.size + 1 + 1 + 1 + 1 + 1, 0, none⟩ = some (.pointer (some ⟨w.heap.size + 1 + 1 + 1 + 1, 0, none⟩)) := (blk_facts hv).1 0
  have HG := Lib.hid hgood
  clear hgood
  cases hR : Asm.oneR (Asm.stOf src pre.length) x with
  | ok T =>
    rw [hR] at hc
    have hgl : Asm.linesR Asm.start (pre ++ [x]) = .ok T := by rw [Asm.linesR_append, HG.out]; dsimp only; rw [Asm.linesR, hR]; rfl
    have hst2 := Asm.stOf_take hpre hgl
    have hst3 : Asm.stOf src (pre.length + 1) = T := by rw [List.length_append] at hst2; exact hst2
    have HGL := Lib.hid hgl
    have HS2 := Lib.hid hst2
    have HS3 := Lib.hid hst3
    clear hgl hst2 hst3 hR
    gi_wp2_with (refine ⟨trivial, ?_⟩; gi_at_call 27; refine (CallsIn.inRound l (callsIn_wide.2 hc)).mono ?_; rintro e W2 ⟨rfl, B2, hP2, hs2⟩)
    have kept : ∀ p ∈ L, W2.heap[p.1]? = W1.heap[p.1]? := fun p hp => (hs2.keep (h5 p hp).1 (h5 p hp).2).1.trans (h5 p hp).1.symm
    obtain ⟨cs, hcs⟩ := hI.cell
    have hri : Asm.RI w (Asm.stOf src) L (w.heap.size + 1 + 1 + 1 + 1 + 1 + 1) (w.heap.size + 1 + 1 + 1 + 1) (w.heap.size + 1 + 1 + 1) (pre ++ [x]) W2 := hI.step h1 h2 h3 h4 h5 h6 (by rw [HS3.out]; exact hP2) hs2
    have hrj : Asm.RJ src w L (w.heap.size + 1 + 1 + 1 + 1 + 1 + 1) (w.heap.size + 1 + 1 + 1 + 1) (w.heap.size + 1 + 1 + 1) (pre ++ [x]) W2 := ⟨hri, by rw [HS2.out]; exact HGL.out⟩
    have hkp : Asm.same3 (w.heap.size + 1 + 1 + 1 + 1 + 1 + 1 + 1) (w.heap.size + 1 + 1 + 1 + 1 + 1 + 1) (w.heap.size + 1 + 1 + 1 + 1 + 1 + 1 + 1 + 1) W1 W2 := ⟨kept (w.heap.size + 1 + 1 + 1 + 1 + 1 + 1 + 1, (.cells #[.string ⟨#[10]⟩] 9)) (by rw [hLd]; simp), (hs2.keep hcs h6).1.trans hcs.symm, kept (w.heap.size + 1 + 1 + 1 + 1 + 1 + 1 + 1 + 1, (.cells #[.int .i64 0] 3)) (by rw [hLd]; simp)⟩
    rw [← hLd]
    exact ⟨Asm.Step.keepsFrom h1 hs2 (by omega), hkp, hrj⟩
  | error er =>
    rw [hR] at hc
    have hgl : Asm.linesR Asm.start (Asm.lines src) = .error (er, (Asm.stOf src pre.length).line + 1) := by
     obtain ⟨r, hr⟩ := hpre
     rw [← hr, List.append_assoc, Asm.linesR_append, HG.out]
     dsimp only
     rw [List.singleton_append, Asm.linesR, hR]
    have HGL := Lib.hid hgl
    clear hgl hR
    gi_wp2_with (refine ⟨trivial, ?_⟩; gi_at_call 27; refine (CallsIn.inRound l (callsIn_wide.2 hc)).mono ?_; rintro e W2 ⟨rfl, ho⟩)
    have kept : ∀ p ∈ L, W2.heap[p.1]? = some p.2 := fun p hp => (ho.block p.1 (blk_size (h5 p hp).1) (h5 p hp).2).trans (h5 p hp).1
    have hbl : Below w.heap.size w W2 := hI.below.trans ⟨ho.os, ho.tape, ho.output, ho.size, fun j hj => ho.block j (by have := hI.below.size; omega) (fun e => by have := h1.base j e; omega)⟩
    have hrp : Asm.RP src w (Asm.chain er ((Asm.stOf src pre.length).line + 1)) W2 := ⟨_, _, rfl, HGL.out, kept (w.heap.size, (.cells #[.int .u32 0, .slice none 0 0, .slice none 0 0] 27)) (by rw [hLd]; simp), kept (w.heap.size + 1, (.cells #[.int .i64 0] 35)) (by rw [hLd]; simp), kept (w.heap.size + 1 + 1, (.cells #[.int .i64 0] 3)) (by rw [hLd]; simp), hbl⟩
    exact ⟨Asm.Off.keepsFrom h1 ho (by omega), hrp⟩
 case done =>
  intro D W1 hD hI hdf
  obtain ⟨hI, hgood⟩ := hI
  obtain ⟨B, h1, h2, h3, h4, h5, h6⟩ := hI.par
  obtain ⟨S, hS⟩ : ∃ S, Asm.stOf src (Asm.lines src).length = S := ⟨_, rfl⟩
  rw [hS] at h1 hgood
  obtain ⟨hSt, hb, hpl, hpg⟩ := hsane.last S hgood
  have HC : Hid (RES = Asm.comb S 0) := Lib.hid (by rw [← HRES.out]; exact Asm.comb_start hgood)
  clear hgood hS
  refine ⟨.inl rfl, ?_⟩
  show Asm.wpF _ _ _ _ _ _
  refine Asm.wpF_of_wp ?_
  have km := (h5 (w.heap.size, (.cells #[.int .u32 0, .slice none 0 0, .slice none 0 0] 27)) (by rw [hLd]; simp))
  have ke := (h5 (w.heap.size + 1, (.cells #[.int .i64 0] 35)) (by rw [hLd]; simp))
  have kl := (h5 (w.heap.size + 1 + 1, (.cells #[.int .i64 0] 3)) (by rw [hLd]; simp))
  have kv := (h5 (w.heap.size + 1 + 1 + 1 + 1 + 1, (.cells #[.pointer (some ⟨w.heap.size + 1 + 1 + 1 + 1, 0, none⟩)] 70)) (by rw [hLd]; simp))
  have hbel := hI.below
  clear h5 h6 hI hseq hI0 hK0 hno hLb hLc hLd F0 F1 F2 F3 F4 F5 F6 F7 F8 Fm
  obtain ⟨dm, gm⟩ := blk_facts km.1
  have cv : W1.cell? ⟨w.heap.size + 1 + 1 + 1 + 1 + 1, 0, none⟩ = some (.pointer (some ⟨w.heap.size + 1 + 1 + 1 + 1, 0, none⟩)) := (blk_facts kv.1).1 0
  have co : W1.cell? ⟨w.heap.size + 1 + 1 + 1 + 1, 2, none⟩ = some (.int .i64 S.origin) := by have h := (blk_facts h1.own).1 2; rw [h2] at h; exact h
  have cl : W1.cell? ⟨w.heap.size + 1 + 1 + 1 + 1, 6, none⟩ = some B.vl := by have h := (blk_facts h1.own).1 6; rw [h2] at h; exact h
  have cp : W1.cell? ⟨w.heap.size + 1 + 1 + 1 + 1, 5, none⟩ = some B.vp := by have h := (blk_facts h1.own).1 5; rw [h2] at h; exact h
  have zp : w.heap.size + 1 + 1 + 1 + 1 < W1.heap.size := h2 ▸ blk_size h1.own
  have m0 : W1.cell? ⟨w.heap.size, 0, none⟩ = some (.int .u32 0) := dm 0
  have m1 : W1.cell? ⟨w.heap.size, 1, none⟩ = some (.slice none 0 0) := dm 1
  have m2 : W1.cell? ⟨w.heap.size, 2, none⟩ = some (.slice none 0 0) := dm 2
  have zm := blk_size km.1
  have cvd : W1.drew.cell? ⟨w.heap.size + 1 + 1 + 1 + 1 + 1, 0, none⟩ = some (.pointer (some ⟨w.heap.size + 1 + 1 + 1 + 1, 0, none⟩)) := cv
  have cod : W1.drew.cell? ⟨w.heap.size + 1 + 1 + 1 + 1, 2, none⟩ = some (.int .i64 S.origin) := co
  have cld : W1.drew.cell? ⟨w.heap.size + 1 + 1 + 1 + 1, 6, none⟩ = some B.vl := cl
  obtain ⟨lp, lc, hvl⟩ := Asm.row_slice h1.labels
  rw [hvl] at cl cld
  dsimp only
  go_wp2_with fail
  go_region
  have hvp' := Asm.row_slice h1.pieces
  obtain ⟨pp, pc, hvp⟩ := hvp'
  rw [hvp] at cp
  have hn0 : B.n0 = w.heap.size := h4
  obtain ⟨O, hO⟩ : ∃ O, S.origin % 4294967296 = O := ⟨_, rfl⟩
  rw [hO]
  have hP3 := ((h1.setOther km.1 (by decide) km.2 0 (.int .u32 O)).setOther (setCell_row km.1 0 (.int .u32 O) (cs' := #[.int .u32 O, .slice none 0 0, .slice none 0 0]) rfl) (by decide) km.2 1 (.slice none 0 0)).setOther (setCell_row (setCell_row km.1 0 (.int .u32 O) (cs' := #[.int .u32 O, .slice none 0 0, .slice none 0 0]) rfl) 1 (.slice none 0 0) (cs' := #[.int .u32 O, .slice none 0 0, .slice none 0 0]) rfl) (by decide) km.2 2 (.slice lp S.labels.length lc)
  have Lm := setCell_row (setCell_row (setCell_row km.1 0 (.int .u32 O) (cs' := #[.int .u32 O, .slice none 0 0, .slice none 0 0]) rfl) 1 (.slice none 0 0) (cs' := #[.int .u32 O, .slice none 0 0, .slice none 0 0]) rfl) 2 (.slice lp S.labels.length lc) (cs' := #[.int .u32 O, .slice none 0 0, .slice lp S.labels.length lc]) rfl
  have far3 : ∀ {g : Nat} {o : Obj}, W1.heap[g]? = some o → g ≠ w.heap.size → (((W1.setCell ⟨w.heap.size, 0, none⟩ (.int .u32 O)).setCell ⟨w.heap.size, 1, none⟩ (.slice none 0 0)).setCell ⟨w.heap.size, 2, none⟩ (.slice lp S.labels.length lc)).heap[g]? = some o := fun hg hne => setCell_far (setCell_far (setCell_far hg hne 0 _) hne 1 _) hne 2 _
  have Le := far3 ke.1 (by omega)
  have Ll := far3 kl.1 (by omega)
  have Lv := far3 kv.1 (by omega)
  have Lb := ((hbel.setCell (p := ⟨w.heap.size, 0, none⟩) (Nat.le_refl _) (.int .u32 O)).setCell (p := ⟨w.heap.size, 1, none⟩) (Nat.le_refl _) (.slice none 0 0)).setCell (p := ⟨w.heap.size, 2, none⟩) (Nat.le_refl _) (.slice lp S.labels.length lc)
  have Ld := far3 (g := D) hdf (by omega)
  have cp3 : (((W1.setCell ⟨w.heap.size, 0, none⟩ (.int .u32 O)).setCell ⟨w.heap.size, 1, none⟩ (.slice none 0 0)).setCell ⟨w.heap.size, 2, none⟩ (.slice lp S.labels.length lc)).cell? ⟨w.heap.size + 1 + 1 + 1 + 1, 5, none⟩ = some (.slice pp S.pieces.length pc) := by have h := (blk_facts hP3.own).1 5; rw [h2] at h; exact h.trans (by rw [← hvp]; rfl)
  have cv3 : (((W1.setCell ⟨w.heap.size, 0, none⟩ (.int .u32 O)).setCell ⟨w.heap.size, 1, none⟩ (.slice none 0 0)).setCell ⟨w.heap.size, 2, none⟩ (.slice lp S.labels.length lc)).cell? ⟨w.heap.size + 1 + 1 + 1 + 1 + 1, 0, none⟩ = some (.pointer (some ⟨w.heap.size + 1 + 1 + 1 + 1, 0, none⟩)) := (blk_facts Lv).1 0
  clear far3
  generalize ((W1.setCell ⟨w.heap.size, 0, none⟩ (.int .u32 O)).setCell ⟨w.heap.size, 1, none⟩ (.slice none 0 0)).setCell ⟨w.heap.size, 2, none⟩ (.slice lp S.labels.length lc) = Z0 at hP3 Lm Le Ll Lv Lb Ld cp3 cv3 ⊢
  have hzd : Below Z0.heap.size Z0 Z0.drew := below_drewN' (Below.refl _ _) 1
  obtain ⟨Z, hZ⟩ : ∃ Z, Z0.drew = Z := ⟨_, rfl⟩
  have cpz : Z.cell? ⟨w.heap.size + 1 + 1 + 1 + 1, 5, none⟩ = some (.slice pp S.pieces.length pc) := hZ ▸ cp3
  have cvz : Z.cell? ⟨w.heap.size + 1 + 1 + 1 + 1 + 1, 0, none⟩ = some (.pointer (some ⟨w.heap.size + 1 + 1 + 1 + 1, 0, none⟩)) := hZ ▸ cv3
  have hran : Asm.ran S 0 S.line = S := by
   have e1 : (S.pieces.take 0).map (Asm.Piece.done S) ++ S.pieces.drop 0 = S.pieces := by simp
   unfold Asm.ran
   rw [e1, ← hSt]
  have hLI : Asm.LI w S B O 0 Z := by
   rw [hZ] at hzd
   refine ⟨⟨S.line, hran ▸ hP3.kept hzd⟩, ⟨.slice none 0 0, by rw [hvl]; exact blk_keep hzd Lm, World.ownsRow_nil _ _ _ _⟩, blk_keep hzd Le, blk_keep hzd Ll, by rw [h2]; exact blk_keep hzd Lv, Lb.trans (hzd.mono Lb.size)⟩
  have zpz : w.heap.size + 1 + 1 + 1 + 1 < Z.heap.size := by have := hLI.below.size; obtain ⟨ln, hq⟩ := hLI.par; exact h2 ▸ blk_size hq.own
  have Ldz : Z.heap[D]? = some (.deferred (some [])) := by rw [← hZ]; exact Ld
  rw [hZ]
  go_wp2_with fail
  clear cpz cvz zpz cp3 cv3 hP3 Lm Le Ll Lv Lb Ld hzd hZ hran cvd cod cld cv co cl cp m0 m1 m2 dm gm zm zp h1 h3
  have ho0 := km.2
  have ho1 := ke.2
  have ho2 := kl.2
  have ho5 := kv.2
  clear km ke kl kv
  go_loopw [38] (fun v wr => ∃ k : Nat, v = .int .i64 k ∧ k ≤ S.pieces.length ∧ Asm.LI w S B O k wr ∧ wr.heap[D]? = some (.deferred (some [])) ∧ Hid (RES = Asm.comb S k)) (fun v _ => S.pieces.length - (intOf v).toNat)
  case atStart => exact ⟨0, rfl, Nat.zero_le _, hLI, Ldz, HC⟩
  case round =>
   clear hLI Ldz HC
   obtain ⟨k, rfl, hk, hLI, Ldz, HC⟩ := hrel
   obtain ⟨line, hP⟩ := hLI.par
   obtain ⟨vW, hm, hW⟩ := hLI.m
   have hplb := hb.pieces
   obtain ⟨nk, hnk⟩ : ∃ nk, (Asm.wordsTo S k).length = nk := ⟨_, rfl⟩
   rw [hnk] at hW
   obtain ⟨wp, wc, rfl⟩ := Asm.row_slice hW
   obtain ⟨dm, gm⟩ := blk_facts hm
   obtain ⟨dv, _⟩ := blk_facts hLI.v
   obtain ⟨db, gb⟩ := blk_facts hP.own
   have cv : wr.cell? ⟨w.heap.size + 1 + 1 + 1 + 1 + 1, 0, none⟩ = some (.pointer (some ⟨w.heap.size + 1 + 1 + 1 + 1, 0, none⟩)) := by have h := dv 0; rw [h2] at h; exact h
   have zv := blk_size hLI.v
   have zm := blk_size hm
   have m0 : wr.cell? ⟨w.heap.size, 0, none⟩ = some (.int .u32 O) := dm 0
   have m1 : wr.cell? ⟨w.heap.size, 1, none⟩ = some (.slice wp nk wc) := dm 1
   have m2 : wr.cell? ⟨w.heap.size, 2, none⟩ = some B.vl := dm 2
   have gm1 : wr.frozen? ⟨w.heap.size, 1, none⟩ = false := gm 1
   have cb0 : wr.cell? ⟨w.heap.size + 1 + 1 + 1 + 1, 0, none⟩ = some (.int .i64 line) := by have h := db 0; rw [h2] at h; exact h
   have gb0 : wr.frozen? ⟨w.heap.size + 1 + 1 + 1 + 1, 0, none⟩ = false := by have h := gb 0; rw [h2] at h; exact h
   have zb : w.heap.size + 1 + 1 + 1 + 1 < wr.heap.size := h2 ▸ blk_size hP.own
   clear dm gm dv db gb
   by_cases hlt : k < S.pieces.length
   · obtain ⟨g, cap, f, hgv, hg1, hg2, hg3, hfs, p0, p1, p2, hfn⟩ := hP.piece (Asm.ran_at S k line hlt)
     rw [Asm.ran_length S k line hk] at hgv hg1
     rw [hvp] at hgv
     injection hgv with q1 q2 q3
     subst q1
     subst q3
     obtain ⟨x, hx⟩ : ∃ x, S.pieces[k] = x := ⟨_, rfl⟩
     rw [hx] at p0 p1 hfn
     obtain ⟨fn, hfn1⟩ : ∃ fn, f.1 = fn := ⟨_, rfl⟩
     obtain ⟨caps, hcaps⟩ : ∃ caps, Asm.capsOf f = caps := ⟨_, rfl⟩
     have hF : Asm.fnVal f = .func (.func fn) #[] caps := by unfold Asm.fnVal; rw [hfn1, hcaps]
     rw [hF] at p2
     have hcf : ∀ (xs : Array Value) (w' : World), (callFunc fn xs).run Tryz.prog w' = .ok (.enter fn xs) w' := fun xs w' => hfn1 ▸ hfn.enters xs w'
     have hxm : x ∈ S.pieces := hx ▸ List.getElem_mem hlt
     have hok := hpg x hxm
     have sg := Asm.setCell_grown wr (w.heap.size + 1 + 1 + 1 + 1) 0 (.int .i64 x.line)
     have hPx : Asm.Par B (Asm.ran S k x.line) (wr.setCell ⟨w.heap.size + 1 + 1 + 1 + 1, 0, none⟩ (.int .i64 x.line)) := by
      have h : Asm.Par B (Asm.ran S k x.line) (wr.setCell ⟨B.b, 0, none⟩ (.int .i64 x.line)) := (hP.set 0 (.int .i64 x.line) B.vt x.line [] (Asm.ran S k line).origin (Asm.ran S k line).placed (Asm.ran S k line).count rfl hP.toks).1
      rw [h2] at h
      exact h
     have bV : Below (wr.setCell ⟨w.heap.size + 1 + 1 + 1 + 1, 0, none⟩ (.int .i64 x.line)).heap.size (wr.setCell ⟨w.heap.size + 1 + 1 + 1 + 1, 0, none⟩ (.int .i64 x.line)) ((wr.setCell ⟨w.heap.size + 1 + 1 + 1 + 1, 0, none⟩ (.int .i64 x.line)).alloc (.cells #[.int .i64 x.line, .int .i64 x.at_, (.func (.func fn) #[] caps)] 82)) := below_alloc' (Below.refl _ _) _
     have toV : ∀ {g : Nat} {o : Obj}, wr.heap[g]? = some o → g ≠ w.heap.size + 1 + 1 + 1 + 1 → ((wr.setCell ⟨w.heap.size + 1 + 1 + 1 + 1, 0, none⟩ (.int .i64 x.line)).alloc (.cells #[.int .i64 x.line, .int .i64 x.at_, (.func (.func fn) #[] caps)] 82)).heap[g]? = some o := fun hg hne => blk_keep bV (setCell_far hg hne 0 _)
     have hPV := hPx.kept bV
     have kIV : Asm.Boxes ((wr.setCell ⟨w.heap.size + 1 + 1 + 1 + 1, 0, none⟩ (.int .i64 x.line)).alloc (.cells #[.int .i64 x.line, .int .i64 x.at_, (.func (.func fn) #[] caps)] 82)) f.2 := fun q hq => by
      obtain ⟨c, t, hc, hb⟩ := hfn.box hq
      exact ⟨c, t, toV hc (fun e => by rw [e, ← h2, hP.own] at hc; injection (Option.some.inj hc) with _ q; exact Asm.boxT_ne hb (by decide) q.symm), hb⟩
     have hmV := toV hm (by omega)
     have heV := toV hLI.e (by omega)
     have hlV := toV hLI.l (by omega)
     have hvV := toV hLI.v (by omega)
     have hdV := toV Ldz (by omega)
     have hWV : ((wr.setCell ⟨w.heap.size + 1 + 1 + 1 + 1, 0, none⟩ (.int .i64 x.line)).alloc (.cells #[.int .i64 x.line, .int .i64 x.at_, (.func (.func fn) #[] caps)] 82)).ownsRow w.heap.size 23 1 (.slice wp nk wc) nk (Asm.wordsTo S k) := ownsRow_below' (hW.kept sg (.inr fun e => by
      obtain ⟨c, hc⟩ := Asm.row_type hW e
      rw [← h2, hP.own] at hc
      injection (Option.some.inj hc) with _ q
      exact absurd q (by decide))) bV
     have hbV : Below w.heap.size w ((wr.setCell ⟨w.heap.size + 1 + 1 + 1 + 1, 0, none⟩ (.int .i64 x.line)).alloc (.cells #[.int .i64 x.line, .int .i64 x.at_, (.func (.func fn) #[] caps)] 82)) := (hLI.below.setCell (p := ⟨w.heap.size + 1 + 1 + 1 + 1, 0, none⟩) (by show w.heap.size ≤ w.heap.size + 1 + 1 + 1 + 1; omega) _).trans (bV.mono (by have := sg.size; have := hLI.below.size; omega))
     have hLV : Isa.Laid ((wr.setCell ⟨w.heap.size + 1 + 1 + 1 + 1, 0, none⟩ (.int .i64 x.line)).alloc (.cells #[.int .i64 x.line, .int .i64 x.at_, (.func (.func fn) #[] caps)] 82)) := hL.below hbV
     have hgI : ∀ q, q ∈ f.2 → w.heap.size ≤ q := fun q hq => by
      have := hP.fbase _ (List.mem_of_getElem? hfs) q hq
      omega
     have hlay := hL.lt
     have htab : 4 < w.heap.size := by obtain ⟨u, gr, h⟩ := hL.tab; exact blk_size h
     have henc := fun (Y : World) (hY : Below ((wr.setCell ⟨w.heap.size + 1 + 1 + 1 + 1, 0, none⟩ (.int .i64 x.line)).alloc (.cells #[.int .i64 x.line, .int .i64 x.at_, (.func (.func fn) #[] caps)] 82)).heap.size ((wr.setCell ⟨w.heap.size + 1 + 1 + 1 + 1, 0, none⟩ (.int .i64 x.line)).alloc (.cells #[.int .i64 x.line, .int .i64 x.at_, (.func (.func fn) #[] caps)] 82)) Y) => piece_any B S k x.line x hlt hx hok hpl f hfs Y (hPV.kept hY) (hLV.below hY) (fun q hq => ⟨by have := hgI q hq; omega, by have := hgI q hq; omega⟩)
     rw [hfn1, hcaps, hF, h2] at henc
     obtain ⟨i0, hinf, hz0, hz1, hz2⟩ := info_parts asm_info22
     go_wp2_with fail
     have hxV : ((wr.setCell ⟨w.heap.size + 1 + 1 + 1 + 1, 0, none⟩ (.int .i64 x.line)).alloc (.cells #[.int .i64 x.line, .int .i64 x.at_, (.func (.func fn) #[] caps)] 82)).heap[wr.heap.size]? = some (.cells #[.int .i64 x.line, .int .i64 x.at_, (.func (.func fn) #[] caps)] 82 (0, 0)) := by have h := heap_alloc_new (wr.setCell ⟨w.heap.size + 1 + 1 + 1 + 1, 0, none⟩ (.int .i64 x.line)) (.cells #[.int .i64 x.line, .int .i64 x.at_, (.func (.func fn) #[] caps)] 82); rw [show (wr.setCell ⟨w.heap.size + 1 + 1 + 1 + 1, 0, none⟩ (.int .i64 x.line)).heap.size = wr.heap.size by simp] at h; exact h
     generalize hV : ((wr.setCell ⟨w.heap.size + 1 + 1 + 1 + 1, 0, none⟩ (.int .i64 x.line)).alloc (.cells #[.int .i64 x.line, .int .i64 x.at_, (.func (.func fn) #[] caps)] 82)) = V at hxV hPV kIV hmV heV hlV hvV hdV hWV hbV hLV henc bV ⊢
     clear hV bV sg toV
     have kx : True := trivial
     obtain ⟨dmV, _⟩ := blk_facts hmV
     have n1 : V.cell? ⟨w.heap.size, 1, none⟩ = some (.slice wp nk wc) := dmV 1
     have n1d : V.drew.cell? ⟨w.heap.size, 1, none⟩ = some (.slice wp nk wc) := n1
     have nv : V.cell? ⟨w.heap.size + 1 + 1 + 1 + 1 + 1, 0, none⟩ = some (.pointer (some ⟨w.heap.size + 1 + 1 + 1 + 1, 0, none⟩)) := by have h := (blk_facts hvV).1 0; rw [h2] at h; exact h
     have nvd : V.drew.cell? ⟨w.heap.size + 1 + 1 + 1 + 1 + 1, 0, none⟩ = some (.pointer (some ⟨w.heap.size + 1 + 1 + 1 + 1, 0, none⟩)) := nv
     obtain ⟨dxV, _⟩ := blk_facts hxV
     have x0 : V.cell? ⟨wr.heap.size, 0, none⟩ = some (.int .i64 x.line) := dxV 0
     have x1 : V.cell? ⟨wr.heap.size, 1, none⟩ = some (.int .i64 x.at_) := dxV 1
     have x2 : V.cell? ⟨wr.heap.size, 2, none⟩ = some (.func (.func fn) #[] caps) := dxV 2
     have x0d : V.drew.cell? ⟨wr.heap.size, 0, none⟩ = some (.int .i64 x.line) := x0
     have x1d : V.drew.cell? ⟨wr.heap.size, 1, none⟩ = some (.int .i64 x.at_) := x1
     have x2d : V.drew.cell? ⟨wr.heap.size, 2, none⟩ = some (.func (.func fn) #[] caps) := x2
     clear dmV dxV
     have hVd : Below V.heap.size V V.drew := below_drewN' (Below.refl _ _) 1
     have hencD := henc V.drew hVd
     clear henc
     have hnkl : nk ≤ k * 1000000 := hnk ▸ Asm.wordsTo_le S (fun y hy => (hpg y hy).small) k
     have hnol : (Asm.wordsOf S x).length ≤ 1000000 := hok.small (S := S)
     have hk63 : nk + (Asm.wordsOf S x).length ≤ maxLen := by unfold maxLen; omega
     have hk64 : (nk + (Asm.wordsOf S x).length) * 4 ≤ 140737488355328 := by omega
     have hnX : wr.heap.size ≠ w.heap.size := by omega
     have hnV : w.heap.size + 1 + 1 + 1 + 1 + 1 ≠ w.heap.size := by omega
     have hvV' := hvV
     rw [h2] at hvV'
     cases hpr : Asm.pieceR S x with
     | error er =>
       rw [hpr] at hencD
       have hcb := Asm.comb_bad hlt hx hpr
       have HC2 : Hid (RES = .error (er, x.line)) := Lib.hid (HC.out.trans hcb)
       clear hcb hpr HC
       refine Code.wp_mono (Q := Asm.PanicOnly w RES D) (fun e a y h => ?_) ?_
       · cases e with
         | panic ch => exact Asm.pm_leave (by omega) ch a y h
         | _ => exact h.elim
       refine wp_region_held_drew (S := fun w' => w'.cell? ⟨wr.heap.size, 0, none⟩ = some (.int .i64 x.line) ∧ w'.cell? ⟨wr.heap.size, 1, none⟩ = some (.int .i64 x.at_) ∧ w'.cell? ⟨wr.heap.size, 2, none⟩ = some (.func (.func fn) #[] caps) ∧ w'.cell? ⟨w.heap.size + 1 + 1 + 1 + 1 + 1, 0, none⟩ = some (.pointer (some ⟨w.heap.size + 1 + 1 + 1 + 1, 0, none⟩))) (by kernel_rfl) ⟨x0d, x1d, x2d, nvd⟩ (fun hHeld => ?_)
       refine wpAnyH_take (i := 0) (v := ?bv0) rfl (by kernel_rfl) (by kernel_rfl) (by kernel_rfl) (fun _ _ _ h => Asm.PanicOnly.unput (by decide) h) (Or.inl ⟨by rfl, ?bhy0⟩) (by assumption) ?brest0
       case bhy0 => (intro w' hSw; (try dsimp only at hSw); go_simp; (try with_reducible rfl))
       try simp only [Act.put, List.setIfInBounds_toArray, List.set_cons_zero, List.set_cons_succ]
       refine wpAnyH_take (i := 2) (v := ?bv2) rfl (by kernel_rfl) (by kernel_rfl) (by kernel_rfl) (fun _ _ _ h => Asm.PanicOnly.unput (by decide) h) (Or.inl ⟨by rfl, ?bhy2⟩) (by assumption) ?brest2
       case bhy2 => (intro w' hSw; (try dsimp only at hSw); go_simp; (try with_reducible rfl))
       try simp only [Act.put, List.setIfInBounds_toArray, List.set_cons_zero, List.set_cons_succ]
       refine wpAnyH_take (i := 3) (v := ?bv3) rfl (by kernel_rfl) (by kernel_rfl) (by kernel_rfl) (fun _ _ _ h => Asm.PanicOnly.unput (by decide) h) (Or.inl ⟨by rfl, ?bhy3⟩) (by assumption) ?brest3
       case bhy3 => (intro w' hSw; (try dsimp only at hSw); go_simp; (try with_reducible rfl))
       try simp only [Act.put, List.setIfInBounds_toArray, List.set_cons_zero, List.set_cons_succ]
       refine wpAnyH_take (i := 4) (v := ?bv4) rfl (by kernel_rfl) (by kernel_rfl) (by kernel_rfl) (fun _ _ _ h => Asm.PanicOnly.unput (by decide) h) (Or.inl ⟨by rfl, ?bhy4⟩) (by assumption) ?brest4
       case bhy4 => (intro w' hSw; (try dsimp only at hSw); go_simp; (try with_reducible rfl))
       try simp only [Act.put, List.setIfInBounds_toArray, List.set_cons_zero, List.set_cons_succ]
       refine wpAnyH_take (i := 5) (v := ?bv5) rfl (by kernel_rfl) (by kernel_rfl) (by kernel_rfl) (fun _ _ _ h => Asm.PanicOnly.unput (by decide) h) (Or.inl ⟨by rfl, ?bhy5⟩) (by assumption) ?brest5
       case bhy5 => (intro w' hSw; (try dsimp only at hSw); go_simp; (try with_reducible rfl))
       try simp only [Act.put, List.setIfInBounds_toArray, List.set_cons_zero, List.set_cons_succ]
       refine wpAnyH_ready (rs := [1, 6]) (by kernel_rfl) (by simp) ?_
       refine AllReadyH.cons rfl (fun K hK => ?_) ?_
       · skip
         go_simp
         refine hK.out _ _ (by assumption) (fun hHeld => ?_)
         clear hK K
         try simp only [Act.put, List.setIfInBounds_toArray, List.set_cons_zero, List.set_cons_succ]
         refine wpAnyH_ready (rs := [6]) (by kernel_rfl) (by simp) ?_
         refine AllReadyH.cons rfl (fun K hK => ?_) AllReadyH.nil
         go_simp
         refine hencD.mono ?_
         rintro e y2 ⟨rfl, ho2x⟩
         have kb : ∀ {q : Nat} {o : Obj}, V.heap[q]? = some o → ¬ B.owns q → y2.heap[q]? = some o := fun {q o} hq hn => (ho2x.block q (blk_size hq) hn).trans hq
         have hbx : Below w.heap.size w y2 := hbV.trans ⟨ho2x.os, ho2x.tape, ho2x.output, ho2x.size, fun j hj => ho2x.block j (by show j < V.heap.size; have := hbV.size; omega) (fun e => by have := hPV.base j e; rw [h4] at this; omega)⟩
         exact ⟨⟨er, x.line, O, _, _, rfl, HC2.out, kb hmV ho0, kb heV ho1, kb hlV ho2, kb hdV (hPV.freeD hdV), hbx⟩, rfl, rfl, rfl, rfl⟩
       · skip
         refine AllReadyH.cons rfl (fun K hK => ?_) AllReadyH.nil
         go_simp
         refine hencD.mono ?_
         rintro e y2 ⟨rfl, ho2x⟩
         have kb : ∀ {q : Nat} {o : Obj}, V.heap[q]? = some o → ¬ B.owns q → y2.heap[q]? = some o := fun {q o} hq hn => (ho2x.block q (blk_size hq) hn).trans hq
         have hbx : Below w.heap.size w y2 := hbV.trans ⟨ho2x.os, ho2x.tape, ho2x.output, ho2x.size, fun j hj => ho2x.block j (by show j < V.heap.size; have := hbV.size; omega) (fun e => by have := hPV.base j e; rw [h4] at this; omega)⟩
         exact ⟨⟨er, x.line, O, _, _, rfl, HC2.out, kb hmV ho0, kb heV ho1, kb hlV ho2, kb hdV (hPV.freeD hdV), hbx⟩, rfl, rfl, rfl, rfl⟩
     | ok ws =>
       obtain rfl := Asm.pieceR_words hok hpr
       rw [hpr] at hencD
       have HC2 : Hid (RES = Asm.comb S (k + 1)) := Lib.hid (HC.out.trans (Asm.comb_next hlt hx hpr))
       clear hpr HC
       refine wp_region_noPanic ?_
       refine wp_region_held_drew (S := fun w' => w'.cell? ⟨wr.heap.size, 0, none⟩ = some (.int .i64 x.line) ∧ w'.cell? ⟨wr.heap.size, 1, none⟩ = some (.int .i64 x.at_) ∧ w'.cell? ⟨wr.heap.size, 2, none⟩ = some (.func (.func fn) #[] caps) ∧ w'.cell? ⟨w.heap.size + 1 + 1 + 1 + 1 + 1, 0, none⟩ = some (.pointer (some ⟨w.heap.size + 1 + 1 + 1 + 1, 0, none⟩))) (by kernel_rfl) ⟨x0d, x1d, x2d, nvd⟩ (fun hHeld => ?_)
       refine wpAnyH_take (i := 0) (v := ?v0) rfl (by kernel_rfl) (by kernel_rfl) (by kernel_rfl) (fun _ _ _ h => h) (Or.inl ⟨by rfl, ?hy0⟩) (by assumption) ?rest0
       case hy0 => (intro w' hSw; (try dsimp only at hSw); go_simp; (try with_reducible rfl))
       try simp only [Act.put, List.setIfInBounds_toArray, List.set_cons_zero, List.set_cons_succ]
       refine wpAnyH_take (i := 2) (v := ?v2) rfl (by kernel_rfl) (by kernel_rfl) (by kernel_rfl) (fun _ _ _ h => h) (Or.inl ⟨by rfl, ?hy2⟩) (by assumption) ?rest2
       case hy2 => (intro w' hSw; (try dsimp only at hSw); go_simp; (try with_reducible rfl))
       try simp only [Act.put, List.setIfInBounds_toArray, List.set_cons_zero, List.set_cons_succ]
       refine wpAnyH_take (i := 3) (v := ?v3) rfl (by kernel_rfl) (by kernel_rfl) (by kernel_rfl) (fun _ _ _ h => h) (Or.inl ⟨by rfl, ?hy3⟩) (by assumption) ?rest3
       case hy3 => (intro w' hSw; (try dsimp only at hSw); go_simp; (try with_reducible rfl))
       try simp only [Act.put, List.setIfInBounds_toArray, List.set_cons_zero, List.set_cons_succ]
       refine wpAnyH_take (i := 4) (v := ?v4) rfl (by kernel_rfl) (by kernel_rfl) (by kernel_rfl) (fun _ _ _ h => h) (Or.inl ⟨by rfl, ?hy4⟩) (by assumption) ?rest4
       case hy4 => (intro w' hSw; (try dsimp only at hSw); go_simp; (try with_reducible rfl))
       try simp only [Act.put, List.setIfInBounds_toArray, List.set_cons_zero, List.set_cons_succ]
       refine wpAnyH_take (i := 5) (v := ?v5) rfl (by kernel_rfl) (by kernel_rfl) (by kernel_rfl) (fun _ _ _ h => h) (Or.inl ⟨by rfl, ?hy5⟩) (by assumption) ?rest5
       case hy5 => (intro w' hSw; (try dsimp only at hSw); go_simp; (try with_reducible rfl))
       try simp only [Act.put, List.setIfInBounds_toArray, List.set_cons_zero, List.set_cons_succ]
       refine wpAnyH_ready (rs := [1, 6]) (by kernel_rfl) (by simp) ?_
       refine AllReadyH.cons rfl (fun K hK => ?_) ?_
       · skip
         go_simp
         refine hK.out _ _ (by assumption) (fun hHeld => ?_)
         clear hK K
         try simp only [Act.put, List.setIfInBounds_toArray, List.set_cons_zero, List.set_cons_succ]
         refine wpAnyH_ready (rs := [6]) (by kernel_rfl) (by simp) ?_
         refine AllReadyH.cons rfl (fun K hK => ?_) AllReadyH.nil
         go_simp
         refine hencD.mono ?_
         rintro e y2 ⟨g2, c2, rfl, hc2, hg2, ho2, hP2⟩
         have ho2' : Asm.Off (· ∈ f.2) V y2 := ⟨ho2.os, ho2.tape, ho2.output, ho2.size, ho2.block⟩
         have hWy := ho2'.farRow kIV hWV (by decide)
         have hmy := ho2'.far kIV hmV (by decide)
         have hxy := ho2'.far kIV hxV (by decide)
         have hvy := ho2'.far kIV hvV' (by decide)
         have n1y : y2.cell? ⟨w.heap.size, 1, none⟩ = some (.slice wp nk wc) := (blk_facts hmy).1 1
         have x0y : y2.cell? ⟨wr.heap.size, 0, none⟩ = some (.int .i64 x.line) := (blk_facts hxy).1 0
         have x1y : y2.cell? ⟨wr.heap.size, 1, none⟩ = some (.int .i64 x.at_) := (blk_facts hxy).1 1
         have x2y : y2.cell? ⟨wr.heap.size, 2, none⟩ = some (.func (.func fn) #[] caps) := (blk_facts hxy).1 2
         have nvy : y2.cell? ⟨w.heap.size + 1 + 1 + 1 + 1 + 1, 0, none⟩ = some (.pointer (some ⟨w.heap.size + 1 + 1 + 1 + 1, 0, none⟩)) := (blk_facts hvy).1 0
         go_wp2_with fail
         refine hK.out _ _ ⟨x0y, x1y, x2y, nvy⟩ (fun hHeld => ?_)
         clear hK K
         try simp only [Act.put, List.setIfInBounds_toArray, List.set_cons_zero, List.set_cons_succ]
         refine wpAnyH_ready (rs := [7]) (by kernel_rfl) (by simp) ?_
         refine AllReadyH.cons rfl (fun K hK => ?_) AllReadyH.nil
         refine step_append_at _ rfl _ _ 24 rfl w.heap.size 23 i0 _ 1 4 Tryz.underlying24 hinf hz0 hz1 hz2 rfl (by decide) _ _ _ rfl hWy ⟨g2, 0, none⟩ (Asm.wordsOf S x).length c2 ((Asm.wordsOf S x).map Asm.word32) rfl (by rw [List.length_map, Nat.mul_one]) hc2 (by intro u hu; obtain ⟨q, _, rfl⟩ := List.mem_map.1 hu; rfl) hk63 hk64 (Nat.le_of_lt (blk_size hmy)) ?_
         intro v6 w6 hrow6 hgr6
         obtain ⟨p6, cap6, hv6⟩ := Asm.row_slice hrow6
         subst hv6
         have k6 := (hgr6.block w.heap.size (blk_size hmy) (Asm.rowNot hWy hmy (by decide))).trans hmy
         have kx6 := (hgr6.block wr.heap.size (blk_size hxy) (Asm.rowNot hWy hxy (by decide))).trans hxy
         have kv6 := (hgr6.block _ (blk_size hvy) (Asm.rowNot hWy hvy (by decide))).trans hvy
         have n1z : w6.cell? ⟨w.heap.size, 1, none⟩ = some (.slice wp nk wc) := (blk_facts k6).1 1
         have f1z : w6.frozen? ⟨w.heap.size, 1, none⟩ = false := (blk_facts k6).2 1
         have x0z : w6.cell? ⟨wr.heap.size, 0, none⟩ = some (.int .i64 x.line) := (blk_facts kx6).1 0
         have x1z : w6.cell? ⟨wr.heap.size, 1, none⟩ = some (.int .i64 x.at_) := (blk_facts kx6).1 1
         have x2z : w6.cell? ⟨wr.heap.size, 2, none⟩ = some (.func (.func fn) #[] caps) := (blk_facts kx6).1 2
         have nvz : w6.cell? ⟨w.heap.size + 1 + 1 + 1 + 1 + 1, 0, none⟩ = some (.pointer (some ⟨w.heap.size + 1 + 1 + 1 + 1, 0, none⟩)) := (blk_facts kv6).1 0
         refine hK.out _ _ ⟨x0z, x1z, x2z, nvz⟩ (fun hHeld => ?_)
         clear hK K
         try simp only [Act.put, List.setIfInBounds_toArray, List.set_cons_zero, List.set_cons_succ]
         refine wpAnyH_take (i := 8) (v := ?v8) rfl (by kernel_rfl) (by kernel_rfl) (by kernel_rfl) (fun _ _ _ h => h) (Or.inl ⟨by rfl, ?hy8⟩) (by assumption) ?rest8
         case hy8 => (intro w' hSw; (try dsimp only at hSw); go_simp; (try with_reducible rfl))
         try simp only [Act.put, List.setIfInBounds_toArray, List.set_cons_zero, List.set_cons_succ]
         refine wpAnyH_ready (rs := [9]) (by kernel_rfl) (by simp) ?_
         refine AllReadyH.cons rfl (fun K hK => ?_) AllReadyH.nil
         go_simp
         refine hK.out _ _ ⟨(blk_facts (setCell_far kx6 hnX 1 _)).1 0, (blk_facts (setCell_far kx6 hnX 1 _)).1 1, (blk_facts (setCell_far kx6 hnX 1 _)).1 2, (blk_facts (setCell_far kv6 hnV 1 _)).1 0⟩ (fun hHeld => ?_)
         clear hK K
         try simp only [Act.put, List.setIfInBounds_toArray, List.set_cons_zero, List.set_cons_succ]
         refine wpAnyH_done (by kernel_rfl) ?_ _
         refine NoPanic.normal ?_
         clear hencD
         subst hnk
         have hnx := Asm.LI.next hlt hx hP2 ho2' kIV hWV rfl (by rw [List.length_map]) hrow6 hgr6 hmV ho0 heV hlV hvV hbV hgI hdV
         go_wp2_with fail
         go_roundw
         case rel => exact ⟨k + 1, by go_num, by omega, hnx.1, hnx.2, HC2⟩
         case measure => simp [intOf]; omega
       · skip
         refine AllReadyH.cons rfl (fun K hK => ?_) AllReadyH.nil
         go_simp
         refine hencD.mono ?_
         rintro e y2 ⟨g2, c2, rfl, hc2, hg2, ho2, hP2⟩
         have ho2' : Asm.Off (· ∈ f.2) V y2 := ⟨ho2.os, ho2.tape, ho2.output, ho2.size, ho2.block⟩
         have hWy := ho2'.farRow kIV hWV (by decide)
         have hmy := ho2'.far kIV hmV (by decide)
         have hxy := ho2'.far kIV hxV (by decide)
         have hvy := ho2'.far kIV hvV' (by decide)
         have n1y : y2.cell? ⟨w.heap.size, 1, none⟩ = some (.slice wp nk wc) := (blk_facts hmy).1 1
         have x0y : y2.cell? ⟨wr.heap.size, 0, none⟩ = some (.int .i64 x.line) := (blk_facts hxy).1 0
         have x1y : y2.cell? ⟨wr.heap.size, 1, none⟩ = some (.int .i64 x.at_) := (blk_facts hxy).1 1
         have x2y : y2.cell? ⟨wr.heap.size, 2, none⟩ = some (.func (.func fn) #[] caps) := (blk_facts hxy).1 2
         have nvy : y2.cell? ⟨w.heap.size + 1 + 1 + 1 + 1 + 1, 0, none⟩ = some (.pointer (some ⟨w.heap.size + 1 + 1 + 1 + 1, 0, none⟩)) := (blk_facts hvy).1 0
         go_wp2_with fail
         refine hK.out _ _ ⟨x0y, x1y, x2y, nvy⟩ (fun hHeld => ?_)
         clear hK K
         try simp only [Act.put, List.setIfInBounds_toArray, List.set_cons_zero, List.set_cons_succ]
         refine wpAnyH_ready (rs := [1]) (by kernel_rfl) (by simp) ?_
         refine AllReadyH.cons rfl (fun K hK => ?_) AllReadyH.nil
         go_simp
         refine hK.out _ _ (by assumption) (fun hHeld => ?_)
         clear hK K
         try simp only [Act.put, List.setIfInBounds_toArray, List.set_cons_zero, List.set_cons_succ]
         refine wpAnyH_ready (rs := [7]) (by kernel_rfl) (by simp) ?_
         refine AllReadyH.cons rfl (fun K hK => ?_) AllReadyH.nil
         refine step_append_at _ rfl _ _ 24 rfl w.heap.size 23 i0 _ 1 4 Tryz.underlying24 hinf hz0 hz1 hz2 rfl (by decide) _ _ _ rfl hWy ⟨g2, 0, none⟩ (Asm.wordsOf S x).length c2 ((Asm.wordsOf S x).map Asm.word32) rfl (by rw [List.length_map, Nat.mul_one]) hc2 (by intro u hu; obtain ⟨q, _, rfl⟩ := List.mem_map.1 hu; rfl) hk63 hk64 (Nat.le_of_lt (blk_size hmy)) ?_
         intro v6 w6 hrow6 hgr6
         obtain ⟨p6, cap6, hv6⟩ := Asm.row_slice hrow6
         subst hv6
         have k6 := (hgr6.block w.heap.size (blk_size hmy) (Asm.rowNot hWy hmy (by decide))).trans hmy
         have kx6 := (hgr6.block wr.heap.size (blk_size hxy) (Asm.rowNot hWy hxy (by decide))).trans hxy
         have kv6 := (hgr6.block _ (blk_size hvy) (Asm.rowNot hWy hvy (by decide))).trans hvy
         have n1z : w6.cell? ⟨w.heap.size, 1, none⟩ = some (.slice wp nk wc) := (blk_facts k6).1 1
         have f1z : w6.frozen? ⟨w.heap.size, 1, none⟩ = false := (blk_facts k6).2 1
         have x0z : w6.cell? ⟨wr.heap.size, 0, none⟩ = some (.int .i64 x.line) := (blk_facts kx6).1 0
         have x1z : w6.cell? ⟨wr.heap.size, 1, none⟩ = some (.int .i64 x.at_) := (blk_facts kx6).1 1
         have x2z : w6.cell? ⟨wr.heap.size, 2, none⟩ = some (.func (.func fn) #[] caps) := (blk_facts kx6).1 2
         have nvz : w6.cell? ⟨w.heap.size + 1 + 1 + 1 + 1 + 1, 0, none⟩ = some (.pointer (some ⟨w.heap.size + 1 + 1 + 1 + 1, 0, none⟩)) := (blk_facts kv6).1 0
         refine hK.out _ _ ⟨x0z, x1z, x2z, nvz⟩ (fun hHeld => ?_)
         clear hK K
         try simp only [Act.put, List.setIfInBounds_toArray, List.set_cons_zero, List.set_cons_succ]
         refine wpAnyH_take (i := 8) (v := ?v8b) rfl (by kernel_rfl) (by kernel_rfl) (by kernel_rfl) (fun _ _ _ h => h) (Or.inl ⟨by rfl, ?hy8b⟩) (by assumption) ?rest8b
         case hy8b => (intro w' hSw; (try dsimp only at hSw); go_simp; (try with_reducible rfl))
         try simp only [Act.put, List.setIfInBounds_toArray, List.set_cons_zero, List.set_cons_succ]
         refine wpAnyH_ready (rs := [9]) (by kernel_rfl) (by simp) ?_
         refine AllReadyH.cons rfl (fun K hK => ?_) AllReadyH.nil
         go_simp
         refine hK.out _ _ ⟨(blk_facts (setCell_far kx6 hnX 1 _)).1 0, (blk_facts (setCell_far kx6 hnX 1 _)).1 1, (blk_facts (setCell_far kx6 hnX 1 _)).1 2, (blk_facts (setCell_far kv6 hnV 1 _)).1 0⟩ (fun hHeld => ?_)
         clear hK K
         try simp only [Act.put, List.setIfInBounds_toArray, List.set_cons_zero, List.set_cons_succ]
         refine wpAnyH_done (by kernel_rfl) ?_ _
         refine NoPanic.normal ?_
         clear hencD
         subst hnk
         have hnx := Asm.LI.next hlt hx hP2 ho2' kIV hWV rfl (by rw [List.length_map]) hrow6 hgr6 hmV ho0 heV hlV hvV hbV hgI hdV
         go_wp2_with fail
         go_roundw
         case rel => exact ⟨k + 1, by go_num, by omega, hnx.1, hnx.2, HC2⟩
         case measure => simp [intOf]; omega
   · have hke : k = S.pieces.length := by omega
     rw [hvl] at m2 hm
     obtain ⟨de, ge⟩ := blk_facts hLI.e
     obtain ⟨dl, gl⟩ := blk_facts hLI.l
     have e0 : wr.cell? ⟨w.heap.size + 1, 0, none⟩ = some (.int .i64 0) := de 0
     have l0 : wr.cell? ⟨w.heap.size + 1 + 1, 0, none⟩ = some (.int .i64 0) := dl 0
     have ge0 : wr.frozen? ⟨w.heap.size + 1, 0, none⟩ = false := ge 0
     have gl0 : wr.frozen? ⟨w.heap.size + 1 + 1, 0, none⟩ = false := gl 0
     obtain ⟨_, gmm⟩ := blk_facts hm
     have gm0 : wr.frozen? ⟨w.heap.size, 0, none⟩ = false := gmm 0
     have gm2 : wr.frozen? ⟨w.heap.size, 2, none⟩ = false := gmm 2
     clear de ge dl gl gmm
     subst hke
     go_wp2_with fail
     have q0 : wr.setCell ⟨w.heap.size, 0, none⟩ (.int .u32 O) = wr := setCell_self hm rfl
     have q1 : wr.setCell ⟨w.heap.size, 1, none⟩ (.slice wp nk wc) = wr := setCell_self hm rfl
     have q2 : wr.setCell ⟨w.heap.size, 2, none⟩ (.slice lp S.labels.length lc) = wr := setCell_self hm rfl
     have q3 : wr.setCell ⟨w.heap.size + 1, 0, none⟩ (.int .i64 0) = wr := setCell_self hLI.e rfl
     have q4 : wr.setCell ⟨w.heap.size + 1 + 1, 0, none⟩ (.int .i64 0) = wr := setCell_self hLI.l rfl
     rw [q0, q1, q2, q3, q4]
     refine assemble_leave _ _ w.heap.size (w.heap.size + 1) (w.heap.size + 1 + 1) D _ _ _ rfl rfl rfl O _ _ wr hm hLI.e hLI.l Ldz ?_
     intro Z9 hZ9
     have pg : wr.grownBy (wr.putObj D (.deferred none)) (some D) := ⟨rfl, rfl, rfl, by simp, fun j hj hne => World.putObj_heap_other (fun e => hne (by rw [e]))⟩
     have rk : ∀ {base : Nat} {e : TypeId} {size : Nat} {v : Value} {n : Nat} {xs : List Value}, wr.ownsRow base e size v n xs → Z9.ownsRow base e size v n xs := fun {base e size v n xs} h => ownsRow_below' (h.kept pg (.inr fun e2 => by
      obtain ⟨c, hc⟩ := Asm.row_type h e2
      rw [Ldz] at hc
      cases hc)) hZ9
     have hbl : Below w.heap.size w (wr.putObj D (.deferred none)) := hLI.below.trans ⟨rfl, rfl, rfl, by simp, fun j hj => World.putObj_heap_other (by omega)⟩
     have hlab : wr.ownsRow B.n0 42 2 B.vl S.labels.length (S.labels.flatMap Asm.labelCells) := hP.labels
     rw [h4, hvl] at hlab
     have hend := HC.out.trans (Asm.comb_end S)
     rw [hend]
     refine ⟨⟨_, _, by rw [hO], ?_, rk hlab⟩, hbl.trans (hZ9.mono hbl.size)⟩
     have hws := Asm.wordsTo_all S
     have hn2 : nk = (S.pieces.flatMap (Asm.wordsOf S)).length := by rw [← hnk, hws, List.length_map]
     have hW9 := rk hW
     rw [hws] at hW9
     rw [← hn2]
     exact hW9
 case panic =>
  intro D ch W1 hD hI hdf
  obtain ⟨er, line, rfl, hbad, km, ke, kl, hbel⟩ := hI
  refine ⟨.inr ⟨_, rfl⟩, ?_⟩
  have hr : RES = .error (er, line) := by rw [← HRES.out]; unfold Asm.asmR; rw [hbad]
  refine assemble_panic _ _ w.heap.size (w.heap.size + 1) (w.heap.size + 1 + 1) D rfl rfl rfl er line 0 0 0 _ _ W1 km ke kl hdf (fun Z9 hZ9 => ⟨by rw [hr]; exact rfl, ?_⟩)
  have hpo : Below w.heap.size w (W1.putObj D (.deferred none)) := hbel.trans ⟨rfl, rfl, rfl, by simp, fun j hj => World.putObj_heap_other (by omega)⟩
  exact hpo.trans ⟨hZ9.os, hZ9.tape, hZ9.output, hZ9.size, fun j hj => hZ9.block j (by have := hpo.size; omega) (by rintro (e | e | e) <;> omega)⟩
end Go.Proofs.YtabmlbnnhhpaoaaGreatDoor
