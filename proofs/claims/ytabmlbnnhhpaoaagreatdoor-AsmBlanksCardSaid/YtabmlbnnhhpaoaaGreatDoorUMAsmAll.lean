/- What this claim needs of AsmFull, AsmZero1, AsmPiece, Asm15. -/
import Derived.Test.YtabmlbnnhhpaoaaGreatDoorEMAsmMark
import Derived.Test.YtabmlbnnhhpaoaaGreatDoorUMAsmSplitG
import Derived.Laws.MakeOwn
import Derived.Test.YtabmlbnnhhpaoaaGreatDoorEMAsmIns
import Derived.Deep.RegionLaw
import Derived.Deep.RegionHeld3
set_option linter.unusedSimpArgs false
set_option linter.unusedVariables false
set_option maxHeartbeats 4000000
set_option maxRecDepth 100000
namespace Go.Proofs.YtabmlbnnhhpaoaaGreatDoor
open Go.RowKit Go.Shelf
theorem full_calls (B : Asm.PB) (S : Asm.PS) (v : Asm.Val) (hv : Asm.FullOk S v) (w : World) (hP : Asm.Par B S w) :
 Calls Tryz.prog 138 #[.pointer (some ⟨B.b, 0, none⟩), .agg #[.string ⟨v.name.toArray⟩, .int .i64 v.n]] w fun e w' => e = .returned (.int .u32 (Asm.valOf S v % 4294967296)) ∧ Below w.heap.size w w' := by
 have hb0 : Below w.heap.size w (w.alloc (.cells #[.string ⟨v.name.toArray⟩, .int .i64 v.n] 195)) := below_alloc' (Below.refl _ _) _
 have hof := of_val B S v hv.len hv.val _ (hP.kept hb0)
 have h0 := hv.v0
 have h1 := hv.v1
 obtain ⟨n, hn⟩ : ∃ n, Asm.valOf S v = n := ⟨_, rfl⟩
 rw [hn] at hof h0 h1 ⊢
 go_enter Tryz.func138, Tryz.ntmps138
 go_wp2_with fail
 refine hof.mono ?_
 rintro e w2 ⟨rfl, hb⟩
 go_wp2_with fail
 go_ret
 exact ⟨rfl, below_next hb0 hb⟩
theorem asm_info22 : (Tryz.prog.info? 23).map (fun i => (i.zero, i.size, i.bytes)) = some (some (.int .u32 0), 1, 4) := by kernel_rfl
theorem cell_one_at {w : World} {g : Nat} {x : Value} {t : TypeId} (h : w.heap[g]? = some (.cells #[x] t (0, 0))) : ∀ (j : Nat) (u : Value), [x][j]? = some u → w.cell? ((⟨g, 0, none⟩ : Addr).add j) = some u := by
 intro j u hj
 match j, hj with
 | 0, hj => exact ((blk_facts h).1 0).trans (by simpa using hj)
 | j + 1, hj => simp at hj
def Asm.wordVals (S : Asm.PS) (l : List Asm.Val) : List Value := l.map fun v => Asm.word32 (Asm.valOf S v % 4294967296)
theorem Asm.wordVals_take (S : Asm.PS) (l : List Asm.Val) (k : Nat) (h : k < l.length) : Asm.wordVals S (l.take (k + 1)) = Asm.wordVals S (l.take k) ++ [Asm.word32 (Asm.valOf S l[k] % 4294967296)] := by
 unfold Asm.wordVals
 rw [List.take_succ_eq_append_getElem h, List.map_append]
 rfl
theorem flat2 {α : Type} (f : α → List Value) (hf : ∀ x, (f x).length = 2) : ∀ (l : List α) (k i : Nat) (x : α), l[k]? = some x → i < 2 → (l.flatMap f)[k * 2 + i]? = (f x)[i]?
 | [], k, i, x, h, _ => by cases h
 | y :: l, 0, i, x, h, hi => by
  simp at h; subst h
  rw [List.flatMap_cons, List.getElem?_append_left (by rw [hf]; omega)]
  simp
 | y :: l, k + 1, i, x, h, hi => by
  rw [List.flatMap_cons, List.getElem?_append_right (by rw [hf]; omega), hf, show (k + 1) * 2 + i - 2 = k * 2 + i by omega]
  exact flat2 f hf l k i x (by simpa using h) hi
theorem word1_calls (B : Asm.PB) (S : Asm.PS) (l : List Asm.Val) (hl : l.length ≤ 1000000) (hv : ∀ v, v ∈ l → Asm.FullOk S v) (X : Array Value) (w : World) (hP : Asm.Par B S w) (bl g cap : Nat) (cur : Array Value) (hlc : l.length ≤ cap) (hcm : cap ≤ maxLen)
 (kL : w.heap[bl]? = some (.cells #[.slice (some ⟨g, 0, none⟩) l.length cap] 228 (0, 0))) (kG : w.heap[g]? = some (.cells cur 195 (0, 0))) (hu : ∀ (j : Nat) (u : Value), (l.flatMap fun v => (Asm.valCells v).toList)[j]? = some u → cur[j]? = some u) :
 Calls Tryz.prog 139 #[.pointer (some ⟨B.b, 0, none⟩), .agg X, .pointer (some ⟨bl, 0, none⟩)] w fun e w' => ∃ v, e = .returned v ∧ w'.ownsRow w.heap.size 23 1 v l.length (Asm.wordVals S l) ∧ Below w.heap.size w w' := by
 have dl := (blk_facts kL).1
 have l0 : w.cell? ⟨bl, 0, none⟩ = some (.slice (some ⟨g, 0, none⟩) l.length cap) := dl 0
 have zl := blk_size kL
 have zg := blk_size kG
 have zb := blk_size hP.own
 clear dl
 obtain ⟨i0, hinf, hz0, hz1, hz2⟩ := info_parts asm_info22
 go_enter Tryz.func139, Tryz.ntmps139
 go_wp2_with fail
 go_loopw [6, 11] (fun v6 v11 wr => ∃ j : Nat, v11 = .int .i64 (j : Int) ∧ j ≤ l.length ∧ wr.ownsRow w.heap.size 23 1 v6 j (Asm.wordVals S (l.take j)) ∧ Below w.heap.size w wr) (fun _ v11 _ => l.length - (intOf v11).toNat)
 case atStart => exact ⟨0, rfl, Nat.zero_le _, World.ownsRow_nil _ _ _ _, below_alloc' (Below.refl _ _) _⟩
 case round =>
  obtain ⟨j, rfl, hj, hrow, HB⟩ := hrel
  by_cases hlt : j < l.length
  · have hlj := List.getElem?_eq_getElem hlt
    have htk := Asm.wordVals_take S l j hlt
    obtain ⟨v, hvj⟩ : ∃ v, l[j] = v := ⟨_, rfl⟩
    have hvm : v ∈ l := hvj ▸ List.getElem_mem hlt
    rw [hvj] at hlj htk
    have hP1 := hP.kept HB
    have kG1 := blk_keep HB kG
    have q0 : cur[j * 2]? = some (.string ⟨v.name.toArray⟩) := hu _ _ (flat2 (fun v => (Asm.valCells v).toList) (fun _ => rfl) l j 0 v hlj (by decide))
    have q1 : cur[j * 2 + 1]? = some (.int .i64 v.n) := hu _ _ (flat2 (fun v => (Asm.valCells v).toList) (fun _ => rfl) l j 1 v hlj (by decide))
    obtain ⟨dg, _⟩ := blk_facts kG1
    have p0 : wr.cell? ⟨g, j * 2, none⟩ = some (.string ⟨v.name.toArray⟩) := (dg _).trans q0
    have p1 : wr.cell? ⟨g, j * 2 + 1, none⟩ = some (.int .i64 v.n) := (dg _).trans q1
    have zg1 := blk_size kG1
    clear dg q0 q1
    go_wp2_with fail
    have hbv : Below wr.heap.size wr (wr.alloc (.cells #[.string ⟨v.name.toArray⟩, .int .i64 v.n] 195)) := below_alloc' (Below.refl _ _) _
    refine (full_calls B S v (hv v hvm) _ (hP1.kept hbv)).mono ?_
    rintro e y1 ⟨rfl, hy1⟩
    have hby := below_next hbv hy1
    obtain ⟨wd, hwd⟩ : ∃ wd, Asm.valOf S v % 4294967296 = wd := ⟨_, rfl⟩
    rw [hwd] at htk ⊢
    have hrow1 := (ownsRow_below' hrow hby).alloc (.cells #[.int .u32 wd] 23)
    have HB1 := below_alloc' (below_next HB hby) (.cells #[.int .u32 wd] 23)
    have hcn := cell_one_new y1 (.int .u32 wd) 23
    have hHH : w.heap.size ≤ (y1.alloc (.cells #[.int .u32 wd] 23)).heap.size := HB1.size
    go_wp2_with (at_builtin; refine wpList_append_own_at _ rfl _ _ 24 rfl w.heap.size 23 i0 _ 1 4 Tryz.underlying24 hinf hz0 hz1 hz2 rfl (by decide) _ _ _ rfl hrow1 ⟨y1.heap.size, 0, none⟩ 1 1 [.int .u32 wd] rfl rfl hcn (by simp [Value.oneCell']) (by simp [maxLen]; omega) (by omega) hHH ?_; intro v' w4 hrow5 hgrow hnil hblk; have HB5 := HB1.grown hgrow HB1.size (fun k e => (row_lt hrow1 k e).1))
    go_roundw
    case rel => exact ⟨j + 1, by go_num, by omega, by rw [htk]; exact hrow5, HB5⟩
    case measure => simp [intOf]; omega
  · have hje : j = l.length := by omega
    subst hje
    rw [List.take_length] at hrow
    go_wp2_with fail
    go_ret
    exact ⟨_, rfl, hrow, HB⟩
theorem li1_calls (B : Asm.PB) (S : Asm.PS) (v : Asm.Val) (d : Int) (hv : Asm.FullOk S v) (hd : 0 ≤ d ∧ d ≤ 15) (X : Array Value) (w : World) (hL : Isa.Laid w) (hP : Asm.Par B S w) (bv bd : Nat) (kV : w.heap[bv]? = some (.cells (Asm.valCells v) 195 (0, 0))) (kD : w.heap[bd]? = some (.cells #[.int .u8 d] 5 (0, 0))) :
 Calls Tryz.prog 137 #[.pointer (some ⟨B.b, 0, none⟩), .agg X, .pointer (some ⟨bv, 0, none⟩), .pointer (some ⟨bd, 0, none⟩)] w fun e w' => ∃ g, e = .returned (.slice (some ⟨g, 0, none⟩) 2 2) ∧ w.heap.size ≤ g ∧ w'.heap[g]? = some (.cells #[.int .u32 (Isa.enc 23 d 0 0 (Asm.valOf S v % 4294967296 / 16384)).1, .int .u32 (Isa.enc 16 d d 0 (Asm.valOf S v % 16384)).1] 23 (0, 0)) ∧ Below w.heap.size w w' := by
 obtain ⟨dv, _⟩ := blk_facts kV
 obtain ⟨dd, _⟩ := blk_facts kD
 have v0 : w.cell? ⟨bv, 0, none⟩ = some (.string ⟨v.name.toArray⟩) := dv 0
 have v1 : w.cell? ⟨bv, 1, none⟩ = some (.int .i64 v.n) := dv 1
 have d0 : w.cell? ⟨bd, 0, none⟩ = some (.int .u8 d) := dd 0
 have zv := blk_size kV
 have zd := blk_size kD
 have zb := blk_size hP.own
 clear dv dd
 have hbX : Below w.heap.size w (w.alloc (.cells X 82)) := below_alloc' (Below.refl _ _) _
 have hfull := full_calls B S v hv _ (hP.kept hbX)
 rw [show Asm.valOf S v % 16384 = Asm.valOf S v % 4294967296 % 16384 by omega]
 obtain ⟨n, hn⟩ : ∃ n, Asm.valOf S v % 4294967296 = n := ⟨_, rfl⟩
 have hn0 : 0 ≤ n := by omega
 have hn1 : n < 4294967296 := by omega
 rw [hn] at hfull ⊢
 clear hn
 have hx15 : bits BinOp.and IntKind.u32 n 16383 = n % 16384 := by
  rw [show (16383 : Int) = 2 ^ 14 - 1 from rfl, u32_mask 14 (by decide) _ (by omega) (by omega)]
  rfl
 obtain ⟨q, hq⟩ : ∃ q, n / 16384 = q := ⟨_, rfl⟩
 have hq0 : 0 ≤ q ∧ q ≤ 262143 := by omega
 have hEa := fun W hW => Encode_calls 23 d 0 0 q (by omega) (by omega) (by omega) (by omega) W hW
 obtain ⟨m, hm⟩ : ∃ m, n % 16384 = m := ⟨_, rfl⟩
 have hm0 : 0 ≤ m ∧ m ≤ 16383 := by omega
 rw [hm] at hx15
 have hEb := fun W hW => Encode_calls 16 d d 0 m (by omega) (by omega) (by omega) (by omega) W hW
 obtain ⟨A1, hA1⟩ : ∃ A, Isa.enc 23 d 0 0 q = A := ⟨_, rfl⟩
 obtain ⟨A2, hA2⟩ : ∃ A, Isa.enc 16 d d 0 m = A := ⟨_, rfl⟩
 rw [hA1] at hEa
 rw [hA2] at hEb
 rw [hq, hm, hA1, hA2]
 have HE := Lib.hid (And.intro hEa hEb)
 clear hEa hEb hA1 hA2
 go_enter Tryz.func137, Tryz.ntmps137
 go_wp2_with fail
 refine hfull.mono ?_
 rintro e y1 ⟨rfl, hy1⟩
 have hby := below_next hbX hy1
 have kD1 := blk_keep hby kD
 have d1 : y1.cell? ⟨bd, 0, none⟩ = some (.int .u8 d) := (blk_facts kD1).1 0
 have zd1 := blk_size kD1
 go_wp2_with fail
 refine (HE.out.1 _ (hL.below hby)).mono ?_
 rintro e y2 ⟨rfl, hy2⟩
 have kD2 := blk_keep hy2 kD1
 have hby2 := below_next hby hy2
 have d2 : y2.cell? ⟨bd, 0, none⟩ = some (.int .u8 d) := (blk_facts kD2).1 0
 have zd2 := blk_size kD2
 go_wp2_with fail
 try rw [hm]
 refine (HE.out.2 _ (hL.below hby2)).mono ?_
 rintro e y3 ⟨rfl, hy3⟩
 have hby3 := below_next hby2 hy3
 go_wp2_with fail
 go_ret
 exact ⟨y3.heap.size, rfl, hby3.size, heap_alloc_new _ _, below_next hby3 (below_alloc' (Below.refl _ _) _)⟩
end Go.Proofs.YtabmlbnnhhpaoaaGreatDoor
set_option maxHeartbeats 2000000
set_option maxRecDepth 100000
namespace Go.Proofs.YtabmlbnnhhpaoaaGreatDoor
open Go.RowKit Go.Shelf
theorem zero1_calls (n : Int) (h0 : 0 ≤ n) (h1 : n ≤ 4096) (pv : Value) (X : Array Value) (w : World) (bn : Nat) (kN : w.heap[bn]? = some (.cells #[.int .i64 n] 2 (0, 0))) :
 Calls Tryz.prog 140 #[pv, .agg X, .pointer (some ⟨bn, 0, none⟩)] w fun e w' => ∃ g, e = .returned (.slice (some ⟨g, 0, none⟩) n.toNat n.toNat) ∧ w.heap.size ≤ g ∧ (∀ j, j < n.toNat → w'.cell? ((⟨g, 0, none⟩ : Addr).add j) = some (.int .u32 0)) ∧ Below w.heap.size w w' := by
 have n0 : w.cell? ⟨bn, 0, none⟩ = some (.int .i64 n) := (blk_facts kN).1 0
 have zn := blk_size kN
 obtain ⟨i0, hinf, hz0, hz1, hz2⟩ := info_parts asm_info22
 have hmk := fun W => run_makeSlice (P := Tryz.prog) (w := W) 24 23 i0 (.int .u32 0) Tryz.underlying24 hinf hz0 .i64 .i64 n n h0 (Int.le_refl _) (by rw [hz1]; omega) (by rw [hz2]; omega) (by omega)
 go_enter Tryz.func140, Tryz.ntmps140
 go_wp2_with fail
 go_ret
 have hb : Below w.heap.size w ((w.alloc (.cells X 82)).alloc (.cells (madeCells #[.int .u32 0] n.toNat) 23)) := below_alloc' (below_alloc' (Below.refl _ _) _) _
 have hc := heap_alloc_new (w.alloc (.cells X 82)) (.cells (madeCells #[.int .u32 0] n.toNat) 23)
 rw [alloc_size] at hc
 refine ⟨w.heap.size + 1, rfl, Nat.le_succ _, fun j hj => ?_, hb⟩
 have hadd : (⟨w.heap.size + 1, 0, none⟩ : Addr).add j = ⟨w.heap.size + 1, j, none⟩ := by unfold Addr.add; split <;> simp_all
 rw [hadd, (blk_facts hc).1 j]
 simp [madeCells, hj, Nat.mod_one]
end Go.Proofs.YtabmlbnnhhpaoaaGreatDoor
namespace Go.Proofs.YtabmlbnnhhpaoaaGreatDoor
open Go.RowKit Go.Shelf
theorem Asm.PieceOk.small {S : Asm.PS} {x : Asm.Piece} (h : Asm.PieceOk S x) : (Asm.wordsOf S x).length ≤ 1000000 := by
 unfold Asm.PieceOk at h
 unfold Asm.wordsOf
 cases hq : x.kind with
 | enc => simp
 | word l => rw [hq] at h; simpa using h.2.1
 | li => simp
 | zero => rw [hq] at h; have := h.2; simp only [List.length_replicate]; omega
theorem enters_enc1 (xs : Array Value) (w : World) : (callFunc 135 xs).run Tryz.prog w = .ok (.enter 135 xs) w := by kernel_rfl
theorem enters_word1 (xs : Array Value) (w : World) : (callFunc 139 xs).run Tryz.prog w = .ok (.enter 139 xs) w := by kernel_rfl
theorem enters_li1 (xs : Array Value) (w : World) : (callFunc 137 xs).run Tryz.prog w = .ok (.enter 137 xs) w := by kernel_rfl
theorem enters_zero1 (xs : Array Value) (w : World) : (callFunc 140 xs).run Tryz.prog w = .ok (.enter 140 xs) w := by kernel_rfl
theorem Asm.FnIs.enters {w : World} {x : Asm.Piece} {f : Nat × List Nat} (h : Asm.FnIs w x f) (xs : Array Value) (w' : World) : (callFunc f.1 xs).run Tryz.prog w' = .ok (.enter f.1 xs) w' := by
 unfold Asm.FnIs at h
 cases hq : x.kind with
 | enc =>
  rw [hq] at h
  obtain ⟨bv, bi, rfl, _⟩ := h
  exact enters_enc1 xs w'
 | word l =>
  rw [hq] at h
  obtain ⟨bl, g, cap, cur, rfl, _⟩ := h
  exact enters_word1 xs w'
 | li =>
  rw [hq] at h
  obtain ⟨bv, bi, rfl, _⟩ := h
  exact enters_li1 xs w'
 | zero =>
  rw [hq] at h
  obtain ⟨bn, rfl, _⟩ := h
  exact enters_zero1 xs w'
theorem Asm.FullOk.ran {S : Asm.PS} {v : Asm.Val} (h : Asm.FullOk S v) (k : Nat) (line : Int) : Asm.FullOk (Asm.ran S k line) v := ⟨h.len, h.val, h.v0, h.v1⟩
theorem Asm.row_news {w : World} {base : Nat} {e : TypeId} {v : Value} {n : Nat} {xs : List Value} (h : w.ownsRow base e 1 v n xs) (hn : 0 < n) : ∃ g cap, v = .slice (some ⟨g, 0, none⟩) n cap ∧ base ≤ g ∧ ∀ (j : Nat) (u : Value), xs[j]? = some u → w.cell? ((⟨g, 0, none⟩ : Addr).add j) = some u := by
 obtain ⟨g, cap, e1, h1, h2, h3, h4⟩ := Asm.row_cells h hn
 refine ⟨g, cap, e1, (row_lt h g (by rw [e1]; simp [Value.ownBlock])).1, fun j u hj => ?_⟩
 have hadd : (⟨g, 0, none⟩ : Addr).add j = ⟨g, j, none⟩ := by unfold Addr.add; split <;> simp_all
 rw [hadd]
 have hj' : j < xs.length := (List.getElem?_eq_some_iff.1 hj).1
 rw [h4 j (by rw [← h.1]; exact hj'), hj]
theorem piece_calls (B : Asm.PB) (S : Asm.PS) (k : Nat) (line : Int) (x : Asm.Piece) (hlt : k < S.pieces.length) (hx : S.pieces[k] = x) (hok : Asm.PieceOk S x) (f : Nat × List Nat) (hf : B.fs[k]? = some f) (V : World) (hP : Asm.Par B (Asm.ran S k line) V) (hL : Isa.Laid V) (hgl : ∀ g, g ∈ f.2 → 0 < g ∧ 4 < g) :
 Calls Tryz.prog f.1 (#[.pointer (some ⟨B.b, 0, none⟩), .agg #[.int .i64 x.line, .int .i64 x.at_, Asm.fnVal f]] ++ Asm.capsOf f) V fun e y2 => ∃ g c, e = .returned (.slice (some ⟨g, 0, none⟩) (Asm.wordsOf S x).length c) ∧ 0 < (Asm.wordsOf S x).length ∧ (∀ (j : Nat) (u : Value), ((Asm.wordsOf S x).map Asm.word32)[j]? = some u → y2.cell? ((⟨g, 0, none⟩ : Addr).add j) = some u) ∧ V.heap.size ≤ g ∧ Asm.Off (· ∈ f.2) V y2 ∧ Asm.Par B (Asm.ran S (k + 1) line) y2 := by
 have hxk : (Asm.ran S k line).pieces[k]? = some x := (Asm.ran_at S k line hlt).trans (by rw [hx])
 have hfn := hP.fns k x f hxk hf
 have fin : ∀ (y2 : World), Asm.Off (· ∈ f.2) V y2 → Asm.FnIs y2 (Asm.Piece.done S x) f → Asm.Par B (Asm.ran S (k + 1) line) y2 := fun y2 ho h => by
  have hq := hP.ranOne hxk hf (Asm.Piece.done S x) (Asm.done_same S x) ho h
  rw [← Asm.ran_step S k line hlt x hx]
  exact hq
 unfold Asm.PieceOk at hok
 have hfn0 := hfn
 unfold Asm.FnIs at hfn
 cases hq : x.kind with
 | enc =>
  rw [hq] at hok hfn
  obtain ⟨bv, bi, rfl, kV, kI⟩ := hfn
  have e1 : Asm.wordsOf S x = [Asm.wordAt S x.at_ x.ins x.v] := by unfold Asm.wordsOf; rw [hq]
  rw [e1]
  refine (encoded1_calls B (Asm.ran S k line) x.line x.at_ .nilFunc x.ins x.v hok.ins hok.len hok.val hok.at0 hok.at1 hok.v0 hok.v1 hok.n0 hok.n1 hok.enc V hL hP bv bi bv bi (hgl bi (by simp)).1 (hgl bi (by simp)).2 kV kI).mono ?_
  rintro e y2 ⟨g, rfl, hg, hc, hbi, ho⟩
  have ho' : Asm.Off (· ∈ [bv, bi]) V y2 := ⟨ho.os, ho.tape, ho.output, ho.size, fun q hq hn => ho.block q hq (fun e => hn (by simp [e]))⟩
  have hne : bv ≠ bi := fun e => by rw [e, kI] at kV; injection (Option.some.inj kV) with _ q; exact absurd q (by decide)
  refine ⟨g, 1, rfl, by simp, cell_one_at hc, hg, ho', fin y2 ho' ?_⟩
  rw [Asm.done_enc S hq]
  unfold Asm.FnIs
  simp only [hq]
  exact ⟨bv, bi, rfl, (ho.block bv (blk_size kV) hne).trans kV, hbi⟩
 | word l =>
  rw [hq] at hok hfn
  obtain ⟨bl, g, cap, cur, rfl, h1, h2, kL, kG, hu⟩ := hfn
  have e1 : Asm.wordsOf S x = l.map fun v => Asm.valOf S v % 4294967296 := by unfold Asm.wordsOf; rw [hq]
  rw [e1]
  have hl0 : 0 < l.length := List.length_pos_iff.2 hok.1
  refine (word1_calls B (Asm.ran S k line) l hok.2.1 (fun v hv => (hok.2.2 v hv).ran k line) _ V hP bl g cap cur h1 h2 kL kG hu).mono ?_
  rintro e y2 ⟨v, rfl, hrow, hb⟩
  obtain ⟨g2, c2, rfl, hg2, hc2⟩ := Asm.row_news hrow hl0
  have ho' : Asm.Off (· ∈ [bl, g]) V y2 := Asm.Off.of_below hb
  refine ⟨g2, c2, by rw [List.length_map], by rw [List.length_map]; exact hl0, ?_, hg2, ho', fin y2 ho' ?_⟩
  · intro j u hj
    refine hc2 j u ?_
    rw [← hj]
    unfold Asm.wordVals
    rw [List.map_map]
    rfl
  · rw [Asm.done_word S hq]
    exact hfn0.keep fun q _ cs t _ hk => blk_keep hb hk
 | li =>
  rw [hq] at hok hfn
  obtain ⟨bv, bd, rfl, kV, kD⟩ := hfn
  have e1 : Asm.wordsOf S x = [(Isa.enc 23 x.ins.d 0 0 (Asm.valOf S x.v % 4294967296 / 16384)).1, (Isa.enc 16 x.ins.d x.ins.d 0 (Asm.valOf S x.v % 16384)).1] := by unfold Asm.wordsOf; rw [hq]
  rw [e1]
  refine (li1_calls B (Asm.ran S k line) x.v x.ins.d (hok.1.ran k line) hok.2 _ V hL hP bv bd kV kD).mono ?_
  rintro e y2 ⟨g, rfl, hg, hc, hb⟩
  have ho' : Asm.Off (· ∈ [bv, bd]) V y2 := Asm.Off.of_below hb
  refine ⟨g, 2, rfl, by simp, ?_, hg, ho', fin y2 ho' ?_⟩
  · have hd := (blk_facts hc).1
    intro j u hj
    match j, hj with
    | 0, hj => exact (hd 0).trans (by simp at hj; subst hj; rfl)
    | 1, hj => exact (hd 1).trans (by simp at hj; subst hj; rfl)
    | j + 2, hj => simp at hj
  · rw [Asm.done_li S hq]
    exact hfn0.keep fun q _ cs t _ hk => blk_keep hb hk
 | zero =>
  rw [hq] at hok hfn
  obtain ⟨bn, rfl, kN⟩ := hfn
  have e1 : Asm.wordsOf S x = List.replicate x.v.n.toNat 0 := by unfold Asm.wordsOf; rw [hq]
  rw [e1]
  refine (zero1_calls x.v.n (by have := hok.1; omega) hok.2 _ _ V bn kN).mono ?_
  rintro e y2 ⟨g, rfl, hg, hc, hb⟩
  have ho' : Asm.Off (· ∈ [bn]) V y2 := Asm.Off.of_below hb
  refine ⟨g, x.v.n.toNat, by rw [List.length_replicate], by rw [List.length_replicate]; have := hok.1; omega, ?_, hg, ho', fin y2 ho' ?_⟩
  · intro j u hj
    rw [List.map_replicate, List.getElem?_replicate] at hj
    split at hj
    · rename_i hlt
      cases hj
      exact hc j hlt
    · cases hj
  · rw [Asm.done_zero S hq]
    exact hfn0.keep fun q _ cs t _ hk => blk_keep hb hk
end Go.Proofs.YtabmlbnnhhpaoaaGreatDoor
set_option maxHeartbeats 8000000
set_option maxRecDepth 100000
namespace Go.Proofs.YtabmlbnnhhpaoaaGreatDoor
open Go.RowKit Go.Shelf
attribute [local go_sem] Oper.semAt_some
namespace Asm
def init : PS := ⟨0, [], 0, false, 0, [], [], .map [], 0, []⟩
def OneOk (S : PS) (l : List UInt8) (S' : PS) : Prop :=
 ∀ (B : PB) (w : World), Par B S w → Calls Tryz.prog 27 #[.pointer (some ⟨B.b, 0, none⟩), .string ⟨l.toArray⟩] w fun e w' => e = .returned (.tuple #[]) ∧ ∃ B', Par B' S' w' ∧ Step B w B' w'
end Asm
theorem assemble_calls (src : List UInt8) (hlen : src.length ≤ 20000) (st : Nat → Asm.PS) (h0 : st 0 = Asm.init) (hst : ∀ k (h : k < (Asm.lines src).length), Asm.OneOk (st k) (Asm.lines src)[k] (st (k + 1))) (S : Asm.PS) (hS : st (Asm.lines src).length = S) (hSt : S.toks = []) (hb : Asm.Bnd S) (hpo : ∀ x ∈ S.pieces, Asm.PieceOk S x) (w : World) (hL : Isa.Laid w) :
 Calls Tryz.prog 13 #[.string ⟨src.toArray⟩] w fun e w' => (∃ vW vL, e = .returned (.tuple #[.agg #[.int .u32 (S.origin % 4294967296), vW, vL], .int .i64 0, .int .i64 0]) ∧ w'.ownsRow w.heap.size 23 1 vW (Asm.wordsTo S S.pieces.length).length (Asm.wordsTo S S.pieces.length) ∧ w'.ownsRow w.heap.size 42 2 vL S.labels.length (S.labels.flatMap Asm.labelCells)) ∧ Below w.heap.size w w' := by
 have hmf : ∀ (fn : Fn) (first cap : Array Value) (w : World), (Instr.makeFunc fn first cap).run Tryz.prog w = .ok (.func fn first cap) w := fun _ _ _ _ => rfl
 have hmm := @run_makeMap Tryz.prog
 have hsf : ∀ (a : Addr) (fn : Fn) (first cap : Array Value) (m : Mode) (w : World), (store a (.func fn first cap) m).run Tryz.prog w = stored Tryz.prog w a (.func fn first cap) m := fun a _ _ _ m w => run_store Tryz.prog w a _ m rfl
 have hsz : (⟨src.toArray⟩ : ByteArray).size = src.length := by simp [ByteArray.size]
 refine (callsIn_wide (n := 8)).1 ?_
 refine callsIn_of_wp_marks Tryz.func13 rfl trivial ?_ rfl
 simp only [Tryz.ntmps13, List.size_toArray, List.length_cons, List.length_nil, Nat.reduceAdd, Nat.reduceSub, Array.replicate_succ, Array.replicate_zero, List.push_toArray, List.append_toArray, List.nil_append, List.cons_append]
 refine wpIn_wide.2 ?_
 go_wp2_with fail
 refine (splitseq_calls src _).mono ?_
 rintro e W9 ⟨rfl, rfl⟩
 have hh0 := heap_alloc_new w (.cells #[.int .u32 0, .slice none 0 0, .slice none 0 0] 27)
 have F0 := (blk_alloc (.cells #[.int .i64 0] 3) (blk_alloc (.cells #[.string ⟨#[10]⟩] 9) (blk_alloc (.cells #[.string ⟨src.toArray⟩] 9) (blk_alloc (.cells #[.pointer (some ⟨w.heap.size + 1 + 1 + 1 + 1, 0, none⟩)] 70) (blk_alloc (.cells #[.int .i64 0, .slice none 0 0, .int .i64 0, .bool false, .int .i64 0, .slice none 0 0, .slice none 0 0, .map (some (w.heap.size + 1 + 1 + 1)), .slice none 0 0] 75) (blk_alloc (.map #[] 0) (blk_alloc (.cells #[.int .i64 0] 3) (blk_alloc (.cells #[.int .i64 0] 35) hh0))))))))
 clear hh0
 have hh1 := heap_alloc_new (w.alloc (.cells #[.int .u32 0, .slice none 0 0, .slice none 0 0] 27)) (.cells #[.int .i64 0] 35)
 rw [alloc_size] at hh1
 have F1 := (blk_alloc (.cells #[.int .i64 0] 3) (blk_alloc (.cells #[.string ⟨#[10]⟩] 9) (blk_alloc (.cells #[.string ⟨src.toArray⟩] 9) (blk_alloc (.cells #[.pointer (some ⟨w.heap.size + 1 + 1 + 1 + 1, 0, none⟩)] 70) (blk_alloc (.cells #[.int .i64 0, .slice none 0 0, .int .i64 0, .bool false, .int .i64 0, .slice none 0 0, .slice none 0 0, .map (some (w.heap.size + 1 + 1 + 1)), .slice none 0 0] 75) (blk_alloc (.map #[] 0) (blk_alloc (.cells #[.int .i64 0] 3) hh1)))))))
 clear hh1
 have hh2 := heap_alloc_new ((w.alloc (.cells #[.int .u32 0, .slice none 0 0, .slice none 0 0] 27)).alloc (.cells #[.int .i64 0] 35)) (.cells #[.int .i64 0] 3)
 rw [alloc_size, alloc_size] at hh2
 have F2 := (blk_alloc (.cells #[.int .i64 0] 3) (blk_alloc (.cells #[.string ⟨#[10]⟩] 9) (blk_alloc (.cells #[.string ⟨src.toArray⟩] 9) (blk_alloc (.cells #[.pointer (some ⟨w.heap.size + 1 + 1 + 1 + 1, 0, none⟩)] 70) (blk_alloc (.cells #[.int .i64 0, .slice none 0 0, .int .i64 0, .bool false, .int .i64 0, .slice none 0 0, .slice none 0 0, .map (some (w.heap.size + 1 + 1 + 1)), .slice none 0 0] 75) (blk_alloc (.map #[] 0) hh2))))))
 clear hh2
 have hh3 := heap_alloc_new (((w.alloc (.cells #[.int .u32 0, .slice none 0 0, .slice none 0 0] 27)).alloc (.cells #[.int .i64 0] 35)).alloc (.cells #[.int .i64 0] 3)) (.map #[] 0)
 rw [alloc_size, alloc_size, alloc_size] at hh3
 have F3 := (blk_alloc (.cells #[.int .i64 0] 3) (blk_alloc (.cells #[.string ⟨#[10]⟩] 9) (blk_alloc (.cells #[.string ⟨src.toArray⟩] 9) (blk_alloc (.cells #[.pointer (some ⟨w.heap.size + 1 + 1 + 1 + 1, 0, none⟩)] 70) (blk_alloc (.cells #[.int .i64 0, .slice none 0 0, .int .i64 0, .bool false, .int .i64 0, .slice none 0 0, .slice none 0 0, .map (some (w.heap.size + 1 + 1 + 1)), .slice none 0 0] 75) hh3)))))
 clear hh3
 have hh4 := heap_alloc_new ((((w.alloc (.cells #[.int .u32 0, .slice none 0 0, .slice none 0 0] 27)).alloc (.cells #[.int .i64 0] 35)).alloc (.cells #[.int .i64 0] 3)).alloc (.map #[] 0)) (.cells #[.int .i64 0, .slice none 0 0, .int .i64 0, .bool false, .int .i64 0, .slice none 0 0, .slice none 0 0, .map (some (w.heap.size + 1 + 1 + 1)), .slice none 0 0] 75)
 rw [alloc_size, alloc_size, alloc_size, alloc_size] at hh4
 have F4 := (blk_alloc (.cells #[.int .i64 0] 3) (blk_alloc (.cells #[.string ⟨#[10]⟩] 9) (blk_alloc (.cells #[.string ⟨src.toArray⟩] 9) (blk_alloc (.cells #[.pointer (some ⟨w.heap.size + 1 + 1 + 1 + 1, 0, none⟩)] 70) hh4))))
 clear hh4
 have hh5 := heap_alloc_new (((((w.alloc (.cells #[.int .u32 0, .slice none 0 0, .slice none 0 0] 27)).alloc (.cells #[.int .i64 0] 35)).alloc (.cells #[.int .i64 0] 3)).alloc (.map #[] 0)).alloc (.cells #[.int .i64 0, .slice none 0 0, .int .i64 0, .bool false, .int .i64 0, .slice none 0 0, .slice none 0 0, .map (some (w.heap.size + 1 + 1 + 1)), .slice none 0 0] 75)) (.cells #[.pointer (some ⟨w.heap.size + 1 + 1 + 1 + 1, 0, none⟩)] 70)
 rw [alloc_size, alloc_size, alloc_size, alloc_size, alloc_size] at hh5
 have F5 := (blk_alloc (.cells #[.int .i64 0] 3) (blk_alloc (.cells #[.string ⟨#[10]⟩] 9) (blk_alloc (.cells #[.string ⟨src.toArray⟩] 9) hh5)))
 clear hh5
 have hh6 := heap_alloc_new ((((((w.alloc (.cells #[.int .u32 0, .slice none 0 0, .slice none 0 0] 27)).alloc (.cells #[.int .i64 0] 35)).alloc (.cells #[.int .i64 0] 3)).alloc (.map #[] 0)).alloc (.cells #[.int .i64 0, .slice none 0 0, .int .i64 0, .bool false, .int .i64 0, .slice none 0 0, .slice none 0 0, .map (some (w.heap.size + 1 + 1 + 1)), .slice none 0 0] 75)).alloc (.cells #[.pointer (some ⟨w.heap.size + 1 + 1 + 1 + 1, 0, none⟩)] 70)) (.cells #[.string ⟨src.toArray⟩] 9)
 rw [alloc_size, alloc_size, alloc_size, alloc_size, alloc_size, alloc_size] at hh6
 have F6 := (blk_alloc (.cells #[.int .i64 0] 3) (blk_alloc (.cells #[.string ⟨#[10]⟩] 9) hh6))
 clear hh6
 have hh7 := heap_alloc_new (((((((w.alloc (.cells #[.int .u32 0, .slice none 0 0, .slice none 0 0] 27)).alloc (.cells #[.int .i64 0] 35)).alloc (.cells #[.int .i64 0] 3)).alloc (.map #[] 0)).alloc (.cells #[.int .i64 0, .slice none 0 0, .int .i64 0, .bool false, .int .i64 0, .slice none 0 0, .slice none 0 0, .map (some (w.heap.size + 1 + 1 + 1)), .slice none 0 0] 75)).alloc (.cells #[.pointer (some ⟨w.heap.size + 1 + 1 + 1 + 1, 0, none⟩)] 70)).alloc (.cells #[.string ⟨src.toArray⟩] 9)) (.cells #[.string ⟨#[10]⟩] 9)
 rw [alloc_size, alloc_size, alloc_size, alloc_size, alloc_size, alloc_size, alloc_size] at hh7
 have F7 := (blk_alloc (.cells #[.int .i64 0] 3) hh7)
 clear hh7
 have hh8 := heap_alloc_new ((((((((w.alloc (.cells #[.int .u32 0, .slice none 0 0, .slice none 0 0] 27)).alloc (.cells #[.int .i64 0] 35)).alloc (.cells #[.int .i64 0] 3)).alloc (.map #[] 0)).alloc (.cells #[.int .i64 0, .slice none 0 0, .int .i64 0, .bool false, .int .i64 0, .slice none 0 0, .slice none 0 0, .map (some (w.heap.size + 1 + 1 + 1)), .slice none 0 0] 75)).alloc (.cells #[.pointer (some ⟨w.heap.size + 1 + 1 + 1 + 1, 0, none⟩)] 70)).alloc (.cells #[.string ⟨src.toArray⟩] 9)).alloc (.cells #[.string ⟨#[10]⟩] 9)) (.cells #[.int .i64 0] 3)
 rw [alloc_size, alloc_size, alloc_size, alloc_size, alloc_size, alloc_size, alloc_size, alloc_size] at hh8
 have F8 := hh8
 clear hh8
 have hmap := (World.ownsMap_made (((w.alloc (.cells #[.int .u32 0, .slice none 0 0, .slice none 0 0] 27)).alloc (.cells #[.int .i64 0] 35)).alloc (.cells #[.int .i64 0] 3)) Tryz.prog 9 (plainElem (H := Unit) Tryz.prog 2))
 have Fm := (((((hmap.alloc (.cells #[.int .i64 0, .slice none 0 0, .int .i64 0, .bool false, .int .i64 0, .slice none 0 0, .slice none 0 0, .map (some (w.heap.size + 1 + 1 + 1)), .slice none 0 0] 75)).alloc (.cells #[.pointer (some ⟨w.heap.size + 1 + 1 + 1 + 1, 0, none⟩)] 70)).alloc (.cells #[.string ⟨src.toArray⟩] 9)).alloc (.cells #[.string ⟨#[10]⟩] 9)).alloc (.cells #[.int .i64 0] 3))
 rw [alloc_size, alloc_size, alloc_size] at Fm
 clear hmap
 have hsz9 : ((((((((((w.alloc (.cells #[.int .u32 0, .slice none 0 0, .slice none 0 0] 27)).alloc (.cells #[.int .i64 0] 35)).alloc (.cells #[.int .i64 0] 3)).alloc (.map #[] 0)).alloc (.cells #[.int .i64 0, .slice none 0 0, .int .i64 0, .bool false, .int .i64 0, .slice none 0 0, .slice none 0 0, .map (some (w.heap.size + 1 + 1 + 1)), .slice none 0 0] 75)).alloc (.cells #[.pointer (some ⟨w.heap.size + 1 + 1 + 1 + 1, 0, none⟩)] 70)).alloc (.cells #[.string ⟨src.toArray⟩] 9)).alloc (.cells #[.string ⟨#[10]⟩] 9)).alloc (.cells #[.int .i64 0] 3)) : World).heap.size = w.heap.size + 1 + 1 + 1 + 1 + 1 + 1 + 1 + 1 + 1 := by simp only [alloc_size]
 have hB9 : Below w.heap.size w (((((((((w.alloc (.cells #[.int .u32 0, .slice none 0 0, .slice none 0 0] 27)).alloc (.cells #[.int .i64 0] 35)).alloc (.cells #[.int .i64 0] 3)).alloc (.map #[] 0)).alloc (.cells #[.int .i64 0, .slice none 0 0, .int .i64 0, .bool false, .int .i64 0, .slice none 0 0, .slice none 0 0, .map (some (w.heap.size + 1 + 1 + 1)), .slice none 0 0] 75)).alloc (.cells #[.pointer (some ⟨w.heap.size + 1 + 1 + 1 + 1, 0, none⟩)] 70)).alloc (.cells #[.string ⟨src.toArray⟩] 9)).alloc (.cells #[.string ⟨#[10]⟩] 9)).alloc (.cells #[.int .i64 0] 3)) := below_alloc' (below_alloc' (below_alloc' (below_alloc' (below_alloc' (below_alloc' (below_alloc' (below_alloc' (below_alloc' (Below.refl _ _) _) _) _) _) _) _) _) _) _
 generalize (((((((((w.alloc (.cells #[.int .u32 0, .slice none 0 0, .slice none 0 0] 27)).alloc (.cells #[.int .i64 0] 35)).alloc (.cells #[.int .i64 0] 3)).alloc (.map #[] 0)).alloc (.cells #[.int .i64 0, .slice none 0 0, .int .i64 0, .bool false, .int .i64 0, .slice none 0 0, .slice none 0 0, .map (some (w.heap.size + 1 + 1 + 1)), .slice none 0 0] 75)).alloc (.cells #[.pointer (some ⟨w.heap.size + 1 + 1 + 1 + 1, 0, none⟩)] 70)).alloc (.cells #[.string ⟨src.toArray⟩] 9)).alloc (.cells #[.string ⟨#[10]⟩] 9)).alloc (.cells #[.int .i64 0] 3)) = W at F0 F1 F2 F3 F4 F5 F6 F7 F8 Fm hsz9 hB9 ⊢
 have hP0 : Asm.Par ⟨w.heap.size, w.heap.size + 1 + 1 + 1 + 1, w.heap.size + 1 + 1 + 1, .slice none 0 0, .slice none 0 0, .slice none 0 0, .slice none 0 0, []⟩ (st 0) W := by
  rw [h0]
  exact ⟨F4, ⟨none, 0, rfl, by simp [Asm.init], by decide, fun h => absurd rfl h⟩, Fm, World.ownsRow_nil _ _ _ _, rfl, (fun j x f h1 h2 => by simp [Asm.init] at h1), List.nodup_nil, (fun p hp => by cases hp), World.ownsRow_nil _ _ _ _, World.ownsRow_nil _ _ _ _, by show w.heap.size ≤ w.heap.size + 1 + 1 + 1 + 1; omega, by show w.heap.size ≤ w.heap.size + 1 + 1 + 1; omega⟩
 obtain ⟨L, hLd⟩ : ∃ L : List (Nat × Obj), L = [(w.heap.size, (.cells #[.int .u32 0, .slice none 0 0, .slice none 0 0] 27)), (w.heap.size + 1, (.cells #[.int .i64 0] 35)), (w.heap.size + 1 + 1, (.cells #[.int .i64 0] 3)), (w.heap.size + 1 + 1 + 1 + 1 + 1, (.cells #[.pointer (some ⟨w.heap.size + 1 + 1 + 1 + 1, 0, none⟩)] 70)), (w.heap.size + 1 + 1 + 1 + 1 + 1 + 1 + 1, (.cells #[.string ⟨#[10]⟩] 9)), (w.heap.size + 1 + 1 + 1 + 1 + 1 + 1 + 1 + 1, (.cells #[.int .i64 0] 3))] := ⟨_, rfl⟩
 have hLc : ∀ p ∈ L, ∃ cs t fr, p.2 = .cells cs t fr := by rw [hLd]; intro p hp; simp at hp; rcases hp with rfl | rfl | rfl | rfl | rfl | rfl <;> exact ⟨_, _, _, rfl⟩
 have hLb : ∀ p ∈ L, p.1 ≠ w.heap.size + 1 + 1 + 1 + 1 + 1 + 1 := by rw [hLd]; intro p hp; simp at hp; rcases hp with rfl | rfl | rfl | rfl | rfl | rfl <;> (simp only [ne_eq]; omega)
 have hno : ∀ g, g ≠ w.heap.size + 1 + 1 + 1 + 1 → g ≠ w.heap.size + 1 + 1 + 1 → ¬ Asm.PB.owns ⟨w.heap.size, w.heap.size + 1 + 1 + 1 + 1, w.heap.size + 1 + 1 + 1, .slice none 0 0, .slice none 0 0, .slice none 0 0, .slice none 0 0, []⟩ g := by
  rintro g h4 h3 (e | e | e | e | e | ⟨p, hp, _⟩)
  · exact h4 e
  · exact h3 e
  · simp [Value.ownBlock] at e
  · simp [Value.ownBlock] at e
  · simp [Value.ownBlock] at e
  · cases hp
 have hK0 : Asm.Keep ⟨w.heap.size, w.heap.size + 1 + 1 + 1 + 1, w.heap.size + 1 + 1 + 1, .slice none 0 0, .slice none 0 0, .slice none 0 0, .slice none 0 0, []⟩ L W := by
  rw [hLd]; intro p hp; simp at hp
  rcases hp with rfl | rfl | rfl | rfl | rfl | rfl
  · exact ⟨F0, hno _ (by omega) (by omega)⟩
  · exact ⟨F1, hno _ (by omega) (by omega)⟩
  · exact ⟨F2, hno _ (by omega) (by omega)⟩
  · exact ⟨F5, hno _ (by omega) (by omega)⟩
  · exact ⟨F7, hno _ (by omega) (by omega)⟩
  · exact ⟨F8, hno _ (by omega) (by omega)⟩
 have hI0 : Asm.RI w st L (w.heap.size + 1 + 1 + 1 + 1 + 1 + 1) (w.heap.size + 1 + 1 + 1 + 1) (w.heap.size + 1 + 1 + 1) [] W := ⟨⟨_, hP0, rfl, rfl, rfl, hK0, hno _ (by omega) (by omega)⟩, ⟨_, F6⟩, hB9⟩
 have hseq := split_seq 7 (by omega) src (by omega) (w.heap.size + 1 + 1 + 1 + 1 + 1 + 1 + 1) (w.heap.size + 1 + 1 + 1 + 1 + 1 + 1) (w.heap.size + 1 + 1 + 1 + 1 + 1 + 1 + 1 + 1) (by omega) (by omega) W F7 F6 F8
 simp only [alloc_size]
 go_wp2_with fail
 refine (wpIn_wide (n := 8)).1 ?_
 refine wpIn_rangeFunc_cell (F := Fence.wide) (n := 8) rfl (by omega) (gf := 84) (lb := #[.pointer (some ⟨w.heap.size + 1 + 1 + 1 + 1 + 1 + 1 + 1, 0, none⟩), .pointer (some ⟨w.heap.size + 1 + 1 + 1 + 1 + 1 + 1, 0, none⟩), .pointer (some ⟨w.heap.size + 1 + 1 + 1 + 1 + 1 + 1 + 1 + 1, 0, none⟩)]) rfl trivial (enters_of Tryz.func84 (by kernel_rfl) rfl) hseq (by omega)
  (fun h k => ⟨k.1.trans h.1, k.2.1.trans h.2.1, k.2.2.trans h.2.2⟩) (fun W' l o o' hl _ _ _ => ⟨World.putObj_heap_other (by omega), World.putObj_heap_other (by omega), World.putObj_heap_other (by omega)⟩) (fun _ => rfl)
  (Asm.RI w st L (w.heap.size + 1 + 1 + 1 + 1 + 1 + 1) (w.heap.size + 1 + 1 + 1 + 1) (w.heap.size + 1 + 1 + 1)) (Asm.RI.own hLc (by omega) (by omega)) (fun pre W1 v h => h.set hLb (by omega) v) hI0
  (fun x => { tmps := #[.string ⟨src.toArray⟩, undef, .pointer (some ⟨w.heap.size, 0, none⟩), .pointer (some ⟨w.heap.size + 1, 0, none⟩), .pointer (some ⟨w.heap.size + 1 + 1, 0, none⟩), .pointer (some ⟨w.heap.size + 1 + 1 + 1 + 1 + 1, 0, none⟩), .string ⟨x.toArray⟩, undef, undef, .string ⟨src.toArray⟩, .int .i64 (src.length : Int), .bool (decide ((20000 : Int) < (src.length : Int))), undef,
   .func (.func 25) #[] #[.pointer (some ⟨w.heap.size, 0, none⟩), .pointer (some ⟨w.heap.size + 1, 0, none⟩), .pointer (some ⟨w.heap.size + 1 + 1, 0, none⟩)], .map (some (w.heap.size + 1 + 1 + 1)),
   .agg #[.int .i64 0, .slice none 0 0, .int .i64 0, .bool false, .int .i64 0, .slice none 0 0, .slice none 0 0, .map (some (w.heap.size + 1 + 1 + 1)), .slice none 0 0], .pointer (some ⟨w.heap.size + 1 + 1 + 1 + 1, 0, none⟩), .string ⟨src.toArray⟩,
   .func (.func 84) #[] #[.pointer (some ⟨w.heap.size + 1 + 1 + 1 + 1 + 1 + 1 + 1, 0, none⟩), .pointer (some ⟨w.heap.size + 1 + 1 + 1 + 1 + 1 + 1, 0, none⟩), .pointer (some ⟨w.heap.size + 1 + 1 + 1 + 1 + 1 + 1 + 1 + 1, 0, none⟩)], .string ⟨x.toArray⟩, undef, undef, undef, undef, undef, undef, undef, undef, undef, undef, undef, undef, undef, undef, undef, undef, undef, undef, undef, undef, undef, undef, undef, undef, undef, undef, undef, undef, undef, undef, undef, undef, undef, undef, undef, undef, undef, undef], defers := [] }) ?assign ?body ?done
 case assign =>
  intro l x W K hK
  gi_wp2
  exact hK
 case body =>
  intro l pre x W1 hI hpre
  have hlt : pre.length < (Asm.lines src).length := by have := hpre.length_le; simp at this; omega
  have hx : (Asm.lines src)[pre.length] = x := by
   obtain ⟨r, hr⟩ := hpre
   simp [← hr]
  have hone := hst pre.length hlt
  rw [hx] at hone
  obtain ⟨B, h1, h2, h3, h4, h5, h6⟩ := hI.par
  have hc := hone B W1 h1
  rw [h2] at hc
  have hv := (h5 (w.heap.size + 1 + 1 + 1 + 1 + 1, (.cells #[.pointer (some ⟨w.heap.size + 1 + 1 + 1 + 1, 0, none⟩)] 70)) (by rw [hLd]; simp)).1
  have cv : W1.cell? ⟨w.heap.size + 1 + 1 + 1 + 1 + 1, 0, none⟩ = some (.pointer (some ⟨w.heap.size + 1 + 1 + 1 + 1, 0, none⟩)) := (blk_facts hv).1 0
  gi_wp2_with (refine ⟨trivial, ?_⟩; gi_at_call 27; refine (CallsIn.inRound l (callsIn_wide.2 hc)).mono ?_; rintro e W2 ⟨rfl, B2, hP2, hs2⟩)
  have kept : ∀ p ∈ L, W2.heap[p.1]? = W1.heap[p.1]? := fun p hp => (hs2.keep (h5 p hp).1 (h5 p hp).2).1.trans (h5 p hp).1.symm
  obtain ⟨cs, hcs⟩ := hI.cell
  have hri : Asm.RI w st L (w.heap.size + 1 + 1 + 1 + 1 + 1 + 1) (w.heap.size + 1 + 1 + 1 + 1) (w.heap.size + 1 + 1 + 1) (pre ++ [x]) W2 := hI.step h1 h2 h3 h4 h5 h6 hP2 hs2
  refine ⟨Asm.Step.keepsFrom h1 hs2 (by omega), ⟨kept (w.heap.size + 1 + 1 + 1 + 1 + 1 + 1 + 1, (.cells #[.string ⟨#[10]⟩] 9)) (by rw [hLd]; simp), (hs2.keep hcs h6).1.trans hcs.symm, kept (w.heap.size + 1 + 1 + 1 + 1 + 1 + 1 + 1 + 1, (.cells #[.int .i64 0] 3)) (by rw [hLd]; simp)⟩, ?_⟩
  rw [← hLd]
  exact hri
 case done =>
  intro D W1 hD hI hdf
  obtain ⟨B, h1, h2, h3, h4, h5, h6⟩ := hI.par
  rw [hS] at h1
  have km := (h5 (w.heap.size, (.cells #[.int .u32 0, .slice none 0 0, .slice none 0 0] 27)) (by rw [hLd]; simp))
  have ke := (h5 (w.heap.size + 1, (.cells #[.int .i64 0] 35)) (by rw [hLd]; simp))
  have kl := (h5 (w.heap.size + 1 + 1, (.cells #[.int .i64 0] 3)) (by rw [hLd]; simp))
  have kv := (h5 (w.heap.size + 1 + 1 + 1 + 1 + 1, (.cells #[.pointer (some ⟨w.heap.size + 1 + 1 + 1 + 1, 0, none⟩)] 70)) (by rw [hLd]; simp))
  have hbel := hI.below
  clear h5 h6 hI hseq hI0 hK0 hno hLb hLc hLd F0 F1 F2 F3 F4 F5 F6 F7 F8 Fm
  obtain ⟨dm, gm⟩ := blk_facts km.1
  have cv : W1.cell? ⟨w.heap.size + 1 + 1 + 1 + 1 + 1, 0, none⟩ = some (.pointer (some ⟨w.heap.size + 1 + 1 + 1 + 1, 0, none⟩)) := (blk_facts kv.1).1 0
  have co : W1.cell? ⟨w.heap.size + 1 + 1 + 1 + 1, 2, none⟩ = some (.int .i64 S.origin) := by have h := (blk_facts h1.own).1 2; rw [h2] at h; exact h
  have cl : W1.cell? ⟨w.heap.size + 1 + 1 + 1 + 1, 6, none⟩ = some B.vl := by have h := (blk_facts h1.own).1 6; rw [h2] at h; exact h
  have cp : W1.cell? ⟨w.heap.size + 1 + 1 + 1 + 1, 5, none⟩ = some B.vp := by have h := (blk_facts h1.own).1 5; rw [h2] at h; exact h
  have zp : w.heap.size + 1 + 1 + 1 + 1 < W1.heap.size := h2 ▸ blk_size h1.own
  have m0 : W1.cell? ⟨w.heap.size, 0, none⟩ = some (.int .u32 0) := dm 0
  have m1 : W1.cell? ⟨w.heap.size, 1, none⟩ = some (.slice none 0 0) := dm 1
  have m2 : W1.cell? ⟨w.heap.size, 2, none⟩ = some (.slice none 0 0) := dm 2
  have zm := blk_size km.1
  have cvd : W1.drew.cell? ⟨w.heap.size + 1 + 1 + 1 + 1 + 1, 0, none⟩ = some (.pointer (some ⟨w.heap.size + 1 + 1 + 1 + 1, 0, none⟩)) := cv
  have cod : W1.drew.cell? ⟨w.heap.size + 1 + 1 + 1 + 1, 2, none⟩ = some (.int .i64 S.origin) := co
  have cld : W1.drew.cell? ⟨w.heap.size + 1 + 1 + 1 + 1, 6, none⟩ = some B.vl := cl
  obtain ⟨lp, lc, hvl⟩ := Asm.row_slice h1.labels
  rw [hvl] at cl cld
  dsimp only
  go_wp2_with fail
  go_region
  have hvp' := Asm.row_slice h1.pieces
  obtain ⟨pp, pc, hvp⟩ := hvp'
  rw [hvp] at cp
  have hn0 : B.n0 = w.heap.size := h4
  obtain ⟨O, hO⟩ : ∃ O, S.origin % 4294967296 = O := ⟨_, rfl⟩
  rw [hO]
  have hP3 := ((h1.setOther km.1 (by decide) km.2 0 (.int .u32 O)).setOther (setCell_row km.1 0 (.int .u32 O) (cs' := #[.int .u32 O, .slice none 0 0, .slice none 0 0]) rfl) (by decide) km.2 1 (.slice none 0 0)).setOther (setCell_row (setCell_row km.1 0 (.int .u32 O) (cs' := #[.int .u32 O, .slice none 0 0, .slice none 0 0]) rfl) 1 (.slice none 0 0) (cs' := #[.int .u32 O, .slice none 0 0, .slice none 0 0]) rfl) (by decide) km.2 2 (.slice lp S.labels.length lc)
  have Lm := setCell_row (setCell_row (setCell_row km.1 0 (.int .u32 O) (cs' := #[.int .u32 O, .slice none 0 0, .slice none 0 0]) rfl) 1 (.slice none 0 0) (cs' := #[.int .u32 O, .slice none 0 0, .slice none 0 0]) rfl) 2 (.slice lp S.labels.length lc) (cs' := #[.int .u32 O, .slice none 0 0, .slice lp S.labels.length lc]) rfl
  have far3 : ∀ {g : Nat} {o : Obj}, W1.heap[g]? = some o → g ≠ w.heap.size → (((W1.setCell ⟨w.heap.size, 0, none⟩ (.int .u32 O)).setCell ⟨w.heap.size, 1, none⟩ (.slice none 0 0)).setCell ⟨w.heap.size, 2, none⟩ (.slice lp S.labels.length lc)).heap[g]? = some o := fun hg hne => setCell_far (setCell_far (setCell_far hg hne 0 _) hne 1 _) hne 2 _
  have Le := far3 ke.1 (by omega)
  have Ll := far3 kl.1 (by omega)
  have Lv := far3 kv.1 (by omega)
  have Lb := ((hbel.setCell (p := ⟨w.heap.size, 0, none⟩) (Nat.le_refl _) (.int .u32 O)).setCell (p := ⟨w.heap.size, 1, none⟩) (Nat.le_refl _) (.slice none 0 0)).setCell (p := ⟨w.heap.size, 2, none⟩) (Nat.le_refl _) (.slice lp S.labels.length lc)
  have Ld := far3 (g := D) hdf (by omega)
  have cp3 : (((W1.setCell ⟨w.heap.size, 0, none⟩ (.int .u32 O)).setCell ⟨w.heap.size, 1, none⟩ (.slice none 0 0)).setCell ⟨w.heap.size, 2, none⟩ (.slice lp S.labels.length lc)).cell? ⟨w.heap.size + 1 + 1 + 1 + 1, 5, none⟩ = some (.slice pp S.pieces.length pc) := by have h := (blk_facts hP3.own).1 5; rw [h2] at h; exact h.trans (by rw [← hvp]; rfl)
  have cv3 : (((W1.setCell ⟨w.heap.size, 0, none⟩ (.int .u32 O)).setCell ⟨w.heap.size, 1, none⟩ (.slice none 0 0)).setCell ⟨w.heap.size, 2, none⟩ (.slice lp S.labels.length lc)).cell? ⟨w.heap.size + 1 + 1 + 1 + 1 + 1, 0, none⟩ = some (.pointer (some ⟨w.heap.size + 1 + 1 + 1 + 1, 0, none⟩)) := (blk_facts Lv).1 0
  clear far3
  generalize ((W1.setCell ⟨w.heap.size, 0, none⟩ (.int .u32 O)).setCell ⟨w.heap.size, 1, none⟩ (.slice none 0 0)).setCell ⟨w.heap.size, 2, none⟩ (.slice lp S.labels.length lc) = Z0 at hP3 Lm Le Ll Lv Lb Ld cp3 cv3 ⊢
  have hzd : Below Z0.heap.size Z0 Z0.drew := below_drewN' (Below.refl _ _) 1
  obtain ⟨Z, hZ⟩ : ∃ Z, Z0.drew = Z := ⟨_, rfl⟩
  have cpz : Z.cell? ⟨w.heap.size + 1 + 1 + 1 + 1, 5, none⟩ = some (.slice pp S.pieces.length pc) := hZ ▸ cp3
  have cvz : Z.cell? ⟨w.heap.size + 1 + 1 + 1 + 1 + 1, 0, none⟩ = some (.pointer (some ⟨w.heap.size + 1 + 1 + 1 + 1, 0, none⟩)) := hZ ▸ cv3
  have hran : Asm.ran S 0 S.line = S := by
   have e1 : (S.pieces.take 0).map (Asm.Piece.done S) ++ S.pieces.drop 0 = S.pieces := by simp
   unfold Asm.ran
   rw [e1, ← hSt]
  have hLI : Asm.LI w S B O 0 Z := by
   rw [hZ] at hzd
   refine ⟨⟨S.line, hran ▸ hP3.kept hzd⟩, ⟨.slice none 0 0, by rw [hvl]; exact blk_keep hzd Lm, World.ownsRow_nil _ _ _ _⟩, blk_keep hzd Le, blk_keep hzd Ll, by rw [h2]; exact blk_keep hzd Lv, Lb.trans (hzd.mono Lb.size)⟩
  have zpz : w.heap.size + 1 + 1 + 1 + 1 < Z.heap.size := by have := hLI.below.size; obtain ⟨ln, hq⟩ := hLI.par; exact h2 ▸ blk_size hq.own
  have Ldz : Z.heap[D]? = some (.deferred (some [])) := by rw [← hZ]; exact Ld
  rw [hZ]
  go_wp2_with fail
  clear cpz cvz zpz cp3 cv3 hP3 Lm Le Ll Lv Lb Ld hzd hZ hran cvd cod cld cv co cl cp m0 m1 m2 dm gm zm zp h1 h3
  have ho0 := km.2
  have ho1 := ke.2
  have ho2 := kl.2
  have ho5 := kv.2
  clear km ke kl kv
  go_loopw [38] (fun v wr => ∃ k : Nat, v = .int .i64 k ∧ k ≤ S.pieces.length ∧ Asm.LI w S B O k wr ∧ wr.heap[D]? = some (.deferred (some []))) (fun v _ => S.pieces.length - (intOf v).toNat)
  case atStart => exact ⟨0, rfl, Nat.zero_le _, hLI, Ldz⟩
  case round =>
   clear hLI Ldz
   obtain ⟨k, rfl, hk, hLI, Ldz⟩ := hrel
   obtain ⟨line, hP⟩ := hLI.par
   obtain ⟨vW, hm, hW⟩ := hLI.m
   have hplb := hb.pieces
   obtain ⟨nk, hnk⟩ : ∃ nk, (Asm.wordsTo S k).length = nk := ⟨_, rfl⟩
   rw [hnk] at hW
   obtain ⟨wp, wc, rfl⟩ := Asm.row_slice hW
   obtain ⟨dm, gm⟩ := blk_facts hm
   obtain ⟨dv, _⟩ := blk_facts hLI.v
   obtain ⟨db, gb⟩ := blk_facts hP.own
   have cv : wr.cell? ⟨w.heap.size + 1 + 1 + 1 + 1 + 1, 0, none⟩ = some (.pointer (some ⟨w.heap.size + 1 + 1 + 1 + 1, 0, none⟩)) := by have h := dv 0; rw [h2] at h; exact h
   have zv := blk_size hLI.v
   have zm := blk_size hm
   have m0 : wr.cell? ⟨w.heap.size, 0, none⟩ = some (.int .u32 O) := dm 0
   have m1 : wr.cell? ⟨w.heap.size, 1, none⟩ = some (.slice wp nk wc) := dm 1
   have m2 : wr.cell? ⟨w.heap.size, 2, none⟩ = some B.vl := dm 2
   have gm1 : wr.frozen? ⟨w.heap.size, 1, none⟩ = false := gm 1
   have cb0 : wr.cell? ⟨w.heap.size + 1 + 1 + 1 + 1, 0, none⟩ = some (.int .i64 line) := by have h := db 0; rw [h2] at h; exact h
   have gb0 : wr.frozen? ⟨w.heap.size + 1 + 1 + 1 + 1, 0, none⟩ = false := by have h := gb 0; rw [h2] at h; exact h
   have zb : w.heap.size + 1 + 1 + 1 + 1 < wr.heap.size := h2 ▸ blk_size hP.own
   clear dm gm dv db gb
   by_cases hlt : k < S.pieces.length
   · obtain ⟨g, cap, f, hgv, hg1, hg2, hg3, hfs, p0, p1, p2, hfn⟩ := hP.piece (Asm.ran_at S k line hlt)
     rw [Asm.ran_length S k line hk] at hgv hg1
     rw [hvp] at hgv
     injection hgv with q1 q2 q3
     subst q1
     subst q3
     obtain ⟨x, hx⟩ : ∃ x, S.pieces[k] = x := ⟨_, rfl⟩
     rw [hx] at p0 p1 hfn
     obtain ⟨fn, hfn1⟩ : ∃ fn, f.1 = fn := ⟨_, rfl⟩
     obtain ⟨caps, hcaps⟩ : ∃ caps, Asm.capsOf f = caps := ⟨_, rfl⟩
     have hF : Asm.fnVal f = .func (.func fn) #[] caps := by unfold Asm.fnVal; rw [hfn1, hcaps]
     rw [hF] at p2
     have hcf : ∀ (xs : Array Value) (w' : World), (callFunc fn xs).run Tryz.prog w' = .ok (.enter fn xs) w' := fun xs w' => hfn1 ▸ hfn.enters xs w'
     have hxm : x ∈ S.pieces := hx ▸ List.getElem_mem hlt
     have hok := hpo x hxm
     have sg := Asm.setCell_grown wr (w.heap.size + 1 + 1 + 1 + 1) 0 (.int .i64 x.line)
     have hPx : Asm.Par B (Asm.ran S k x.line) (wr.setCell ⟨w.heap.size + 1 + 1 + 1 + 1, 0, none⟩ (.int .i64 x.line)) := by
      have h : Asm.Par B (Asm.ran S k x.line) (wr.setCell ⟨B.b, 0, none⟩ (.int .i64 x.line)) := (hP.set 0 (.int .i64 x.line) B.vt x.line [] (Asm.ran S k line).origin (Asm.ran S k line).placed (Asm.ran S k line).count rfl hP.toks).1
      rw [h2] at h
      exact h
     have bV : Below (wr.setCell ⟨w.heap.size + 1 + 1 + 1 + 1, 0, none⟩ (.int .i64 x.line)).heap.size (wr.setCell ⟨w.heap.size + 1 + 1 + 1 + 1, 0, none⟩ (.int .i64 x.line)) ((wr.setCell ⟨w.heap.size + 1 + 1 + 1 + 1, 0, none⟩ (.int .i64 x.line)).alloc (.cells #[.int .i64 x.line, .int .i64 x.at_, (.func (.func fn) #[] caps)] 82)) := below_alloc' (Below.refl _ _) _
     have toV : ∀ {g : Nat} {o : Obj}, wr.heap[g]? = some o → g ≠ w.heap.size + 1 + 1 + 1 + 1 → ((wr.setCell ⟨w.heap.size + 1 + 1 + 1 + 1, 0, none⟩ (.int .i64 x.line)).alloc (.cells #[.int .i64 x.line, .int .i64 x.at_, (.func (.func fn) #[] caps)] 82)).heap[g]? = some o := fun hg hne => blk_keep bV (setCell_far hg hne 0 _)
     have hPV := hPx.kept bV
     have kIV : Asm.Boxes ((wr.setCell ⟨w.heap.size + 1 + 1 + 1 + 1, 0, none⟩ (.int .i64 x.line)).alloc (.cells #[.int .i64 x.line, .int .i64 x.at_, (.func (.func fn) #[] caps)] 82)) f.2 := fun q hq => by
      obtain ⟨c, t, hc, hb⟩ := hfn.box hq
      exact ⟨c, t, toV hc (fun e => by rw [e, ← h2, hP.own] at hc; injection (Option.some.inj hc) with _ q; exact Asm.boxT_ne hb (by decide) q.symm), hb⟩
     have hmV := toV hm (by omega)
     have heV := toV hLI.e (by omega)
     have hlV := toV hLI.l (by omega)
     have hvV := toV hLI.v (by omega)
     have hdV := toV Ldz (by omega)
     have hWV : ((wr.setCell ⟨w.heap.size + 1 + 1 + 1 + 1, 0, none⟩ (.int .i64 x.line)).alloc (.cells #[.int .i64 x.line, .int .i64 x.at_, (.func (.func fn) #[] caps)] 82)).ownsRow w.heap.size 23 1 (.slice wp nk wc) nk (Asm.wordsTo S k) := ownsRow_below' (hW.kept sg (.inr fun e => by
      obtain ⟨c, hc⟩ := Asm.row_type hW e
      rw [← h2, hP.own] at hc
      injection (Option.some.inj hc) with _ q
      exact absurd q (by decide))) bV
     have hbV : Below w.heap.size w ((wr.setCell ⟨w.heap.size + 1 + 1 + 1 + 1, 0, none⟩ (.int .i64 x.line)).alloc (.cells #[.int .i64 x.line, .int .i64 x.at_, (.func (.func fn) #[] caps)] 82)) := (hLI.below.setCell (p := ⟨w.heap.size + 1 + 1 + 1 + 1, 0, none⟩) (by show w.heap.size ≤ w.heap.size + 1 + 1 + 1 + 1; omega) _).trans (bV.mono (by have := sg.size; have := hLI.below.size; omega))
     have hLV : Isa.Laid ((wr.setCell ⟨w.heap.size + 1 + 1 + 1 + 1, 0, none⟩ (.int .i64 x.line)).alloc (.cells #[.int .i64 x.line, .int .i64 x.at_, (.func (.func fn) #[] caps)] 82)) := hL.below hbV
     have hgI : ∀ q, q ∈ f.2 → w.heap.size ≤ q := fun q hq => by
      have := hP.fbase _ (List.mem_of_getElem? hfs) q hq
      omega
     have hlay := hL.lt
     have htab : 4 < w.heap.size := by obtain ⟨u, gr, h⟩ := hL.tab; exact blk_size h
     have henc := fun (Y : World) (hY : Below ((wr.setCell ⟨w.heap.size + 1 + 1 + 1 + 1, 0, none⟩ (.int .i64 x.line)).alloc (.cells #[.int .i64 x.line, .int .i64 x.at_, (.func (.func fn) #[] caps)] 82)).heap.size ((wr.setCell ⟨w.heap.size + 1 + 1 + 1 + 1, 0, none⟩ (.int .i64 x.line)).alloc (.cells #[.int .i64 x.line, .int .i64 x.at_, (.func (.func fn) #[] caps)] 82)) Y) => piece_calls B S k x.line x hlt hx hok f hfs Y (hPV.kept hY) (hLV.below hY) (fun q hq => ⟨by have := hgI q hq; omega, by have := hgI q hq; omega⟩)
     rw [hfn1, hcaps, hF, h2] at henc
     obtain ⟨i0, hinf, hz0, hz1, hz2⟩ := info_parts asm_info22
     go_wp2_with fail
     have hxV : ((wr.setCell ⟨w.heap.size + 1 + 1 + 1 + 1, 0, none⟩ (.int .i64 x.line)).alloc (.cells #[.int .i64 x.line, .int .i64 x.at_, (.func (.func fn) #[] caps)] 82)).heap[wr.heap.size]? = some (.cells #[.int .i64 x.line, .int .i64 x.at_, (.func (.func fn) #[] caps)] 82 (0, 0)) := by have h := heap_alloc_new (wr.setCell ⟨w.heap.size + 1 + 1 + 1 + 1, 0, none⟩ (.int .i64 x.line)) (.cells #[.int .i64 x.line, .int .i64 x.at_, (.func (.func fn) #[] caps)] 82); rw [show (wr.setCell ⟨w.heap.size + 1 + 1 + 1 + 1, 0, none⟩ (.int .i64 x.line)).heap.size = wr.heap.size by simp] at h; exact h
     generalize hV : ((wr.setCell ⟨w.heap.size + 1 + 1 + 1 + 1, 0, none⟩ (.int .i64 x.line)).alloc (.cells #[.int .i64 x.line, .int .i64 x.at_, (.func (.func fn) #[] caps)] 82)) = V at hxV hPV kIV hmV heV hlV hvV hdV hWV hbV hLV henc bV ⊢
     clear hV bV sg toV
     have kx : True := trivial
     obtain ⟨dmV, _⟩ := blk_facts hmV
     have n1 : V.cell? ⟨w.heap.size, 1, none⟩ = some (.slice wp nk wc) := dmV 1
     have n1d : V.drew.cell? ⟨w.heap.size, 1, none⟩ = some (.slice wp nk wc) := n1
     have nv : V.cell? ⟨w.heap.size + 1 + 1 + 1 + 1 + 1, 0, none⟩ = some (.pointer (some ⟨w.heap.size + 1 + 1 + 1 + 1, 0, none⟩)) := by have h := (blk_facts hvV).1 0; rw [h2] at h; exact h
     have nvd : V.drew.cell? ⟨w.heap.size + 1 + 1 + 1 + 1 + 1, 0, none⟩ = some (.pointer (some ⟨w.heap.size + 1 + 1 + 1 + 1, 0, none⟩)) := nv
     obtain ⟨dxV, _⟩ := blk_facts hxV
     have x0 : V.cell? ⟨wr.heap.size, 0, none⟩ = some (.int .i64 x.line) := dxV 0
     have x1 : V.cell? ⟨wr.heap.size, 1, none⟩ = some (.int .i64 x.at_) := dxV 1
     have x2 : V.cell? ⟨wr.heap.size, 2, none⟩ = some (.func (.func fn) #[] caps) := dxV 2
     have x0d : V.drew.cell? ⟨wr.heap.size, 0, none⟩ = some (.int .i64 x.line) := x0
     have x1d : V.drew.cell? ⟨wr.heap.size, 1, none⟩ = some (.int .i64 x.at_) := x1
     have x2d : V.drew.cell? ⟨wr.heap.size, 2, none⟩ = some (.func (.func fn) #[] caps) := x2
     clear dmV dxV
     have hVd : Below V.heap.size V V.drew := below_drewN' (Below.refl _ _) 1
     have hencD := henc V.drew hVd
     clear henc
     have hnkl : nk ≤ k * 1000000 := hnk ▸ Asm.wordsTo_le S (fun y hy => (hpo y hy).small) k
     have hnol : (Asm.wordsOf S x).length ≤ 1000000 := hok.small
     have hk63 : nk + (Asm.wordsOf S x).length ≤ maxLen := by unfold maxLen; omega
     have hk64 : (nk + (Asm.wordsOf S x).length) * 4 ≤ 140737488355328 := by omega
     have hnX : wr.heap.size ≠ w.heap.size := by omega
     have hnV : w.heap.size + 1 + 1 + 1 + 1 + 1 ≠ w.heap.size := by omega
     have hvV' := hvV
     rw [h2] at hvV'
     refine wp_region_noPanic ?_
     refine wp_region_held_drew (S := fun w' => w'.cell? ⟨wr.heap.size, 0, none⟩ = some (.int .i64 x.line) ∧ w'.cell? ⟨wr.heap.size, 1, none⟩ = some (.int .i64 x.at_) ∧ w'.cell? ⟨wr.heap.size, 2, none⟩ = some (.func (.func fn) #[] caps) ∧ w'.cell? ⟨w.heap.size + 1 + 1 + 1 + 1 + 1, 0, none⟩ = some (.pointer (some ⟨w.heap.size + 1 + 1 + 1 + 1, 0, none⟩))) (by kernel_rfl) ⟨x0d, x1d, x2d, nvd⟩ (fun hHeld => ?_)
     refine wpAnyH_take (i := 0) (v := ?v0) rfl (by kernel_rfl) (by kernel_rfl) (by kernel_rfl) (fun _ _ _ h => h) (Or.inl ⟨by rfl, ?hy0⟩) (by assumption) ?rest0
     case hy0 => (intro w' hSw; (try dsimp only at hSw); go_simp; (try with_reducible rfl))
     try simp only [Act.put, List.setIfInBounds_toArray, List.set_cons_zero, List.set_cons_succ]
     refine wpAnyH_take (i := 2) (v := ?v2) rfl (by kernel_rfl) (by kernel_rfl) (by kernel_rfl) (fun _ _ _ h => h) (Or.inl ⟨by rfl, ?hy2⟩) (by assumption) ?rest2
     case hy2 => (intro w' hSw; (try dsimp only at hSw); go_simp; (try with_reducible rfl))
     try simp only [Act.put, List.setIfInBounds_toArray, List.set_cons_zero, List.set_cons_succ]
     refine wpAnyH_take (i := 3) (v := ?v3) rfl (by kernel_rfl) (by kernel_rfl) (by kernel_rfl) (fun _ _ _ h => h) (Or.inl ⟨by rfl, ?hy3⟩) (by assumption) ?rest3
     case hy3 => (intro w' hSw; (try dsimp only at hSw); go_simp; (try with_reducible rfl))
     try simp only [Act.put, List.setIfInBounds_toArray, List.set_cons_zero, List.set_cons_succ]
     refine wpAnyH_take (i := 4) (v := ?v4) rfl (by kernel_rfl) (by kernel_rfl) (by kernel_rfl) (fun _ _ _ h => h) (Or.inl ⟨by rfl, ?hy4⟩) (by assumption) ?rest4
     case hy4 => (intro w' hSw; (try dsimp only at hSw); go_simp; (try with_reducible rfl))
     try simp only [Act.put, List.setIfInBounds_toArray, List.set_cons_zero, List.set_cons_succ]
     refine wpAnyH_take (i := 5) (v := ?v5) rfl (by kernel_rfl) (by kernel_rfl) (by kernel_rfl) (fun _ _ _ h => h) (Or.inl ⟨by rfl, ?hy5⟩) (by assumption) ?rest5
     case hy5 => (intro w' hSw; (try dsimp only at hSw); go_simp; (try with_reducible rfl))
     try simp only [Act.put, List.setIfInBounds_toArray, List.set_cons_zero, List.set_cons_succ]
     refine wpAnyH_ready (rs := [1, 6]) (by kernel_rfl) (by simp) ?_
     refine AllReadyH.cons rfl (fun K hK => ?_) ?_
     · skip
       go_simp
       refine hK.out _ _ (by assumption) (fun hHeld => ?_)
       clear hK K
       try simp only [Act.put, List.setIfInBounds_toArray, List.set_cons_zero, List.set_cons_succ]
       refine wpAnyH_ready (rs := [6]) (by kernel_rfl) (by simp) ?_
       refine AllReadyH.cons rfl (fun K hK => ?_) AllReadyH.nil
       go_simp
       refine hencD.mono ?_
       rintro e y2 ⟨g2, c2, rfl, hn0, hc2, hg2, ho2, hP2⟩
       have ho2' : Asm.Off (· ∈ f.2) V y2 := ⟨ho2.os, ho2.tape, ho2.output, ho2.size, ho2.block⟩
       have hWy := ho2'.farRow kIV hWV (by decide)
       have hmy := ho2'.far kIV hmV (by decide)
       have hxy := ho2'.far kIV hxV (by decide)
       have hvy := ho2'.far kIV hvV' (by decide)
       have n1y : y2.cell? ⟨w.heap.size, 1, none⟩ = some (.slice wp nk wc) := (blk_facts hmy).1 1
       have x0y : y2.cell? ⟨wr.heap.size, 0, none⟩ = some (.int .i64 x.line) := (blk_facts hxy).1 0
       have x1y : y2.cell? ⟨wr.heap.size, 1, none⟩ = some (.int .i64 x.at_) := (blk_facts hxy).1 1
       have x2y : y2.cell? ⟨wr.heap.size, 2, none⟩ = some (.func (.func fn) #[] caps) := (blk_facts hxy).1 2
       have nvy : y2.cell? ⟨w.heap.size + 1 + 1 + 1 + 1 + 1, 0, none⟩ = some (.pointer (some ⟨w.heap.size + 1 + 1 + 1 + 1, 0, none⟩)) := (blk_facts hvy).1 0
       go_wp2_with fail
       refine hK.out _ _ ⟨x0y, x1y, x2y, nvy⟩ (fun hHeld => ?_)
       clear hK K
       try simp only [Act.put, List.setIfInBounds_toArray, List.set_cons_zero, List.set_cons_succ]
       refine wpAnyH_ready (rs := [7]) (by kernel_rfl) (by simp) ?_
       refine AllReadyH.cons rfl (fun K hK => ?_) AllReadyH.nil
       refine step_append_lies _ rfl _ _ 24 rfl w.heap.size 23 i0 _ 1 4 Tryz.underlying24 hinf hz0 hz1 hz2 rfl (by decide) _ _ _ rfl hWy ⟨g2, 0, none⟩ (Asm.wordsOf S x).length c2 ((Asm.wordsOf S x).map Asm.word32) rfl (by rw [List.length_map, Nat.mul_one]) hc2 (by intro u hu; obtain ⟨q, _, rfl⟩ := List.mem_map.1 hu; rfl) hn0 hk63 hk64 (Nat.le_of_lt (blk_size hmy)) _ rfl ?_
       intro g6 cap6 w6 hrow6 hgr6 hgb6 hlt6
       have k6 := (hgr6.block w.heap.size (blk_size hmy) (Asm.rowNot hWy hmy (by decide))).trans hmy
       have kx6 := (hgr6.block wr.heap.size (blk_size hxy) (Asm.rowNot hWy hxy (by decide))).trans hxy
       have kv6 := (hgr6.block _ (blk_size hvy) (Asm.rowNot hWy hvy (by decide))).trans hvy
       have n1z : w6.cell? ⟨w.heap.size, 1, none⟩ = some (.slice wp nk wc) := (blk_facts k6).1 1
       have f1z : w6.frozen? ⟨w.heap.size, 1, none⟩ = false := (blk_facts k6).2 1
       have x0z : w6.cell? ⟨wr.heap.size, 0, none⟩ = some (.int .i64 x.line) := (blk_facts kx6).1 0
       have x1z : w6.cell? ⟨wr.heap.size, 1, none⟩ = some (.int .i64 x.at_) := (blk_facts kx6).1 1
       have x2z : w6.cell? ⟨wr.heap.size, 2, none⟩ = some (.func (.func fn) #[] caps) := (blk_facts kx6).1 2
       have nvz : w6.cell? ⟨w.heap.size + 1 + 1 + 1 + 1 + 1, 0, none⟩ = some (.pointer (some ⟨w.heap.size + 1 + 1 + 1 + 1, 0, none⟩)) := (blk_facts kv6).1 0
       refine hK.out _ _ ⟨x0z, x1z, x2z, nvz⟩ (fun hHeld => ?_)
       clear hK K
       try simp only [Act.put, List.setIfInBounds_toArray, List.set_cons_zero, List.set_cons_succ]
       refine wpAnyH_take (i := 8) (v := ?v8) rfl (by kernel_rfl) (by kernel_rfl) (by kernel_rfl) (fun _ _ _ h => h) (Or.inl ⟨by rfl, ?hy8⟩) (by assumption) ?rest8
       case hy8 => (intro w' hSw; (try dsimp only at hSw); go_simp; (try with_reducible rfl))
       try simp only [Act.put, List.setIfInBounds_toArray, List.set_cons_zero, List.set_cons_succ]
       refine wpAnyH_ready (rs := [9]) (by kernel_rfl) (by simp) ?_
       refine AllReadyH.cons rfl (fun K hK => ?_) AllReadyH.nil
       go_simp
       refine hK.out _ _ ⟨(blk_facts (setCell_far kx6 hnX 1 _)).1 0, (blk_facts (setCell_far kx6 hnX 1 _)).1 1, (blk_facts (setCell_far kx6 hnX 1 _)).1 2, (blk_facts (setCell_far kv6 hnV 1 _)).1 0⟩ (fun hHeld => ?_)
       clear hK K
       try simp only [Act.put, List.setIfInBounds_toArray, List.set_cons_zero, List.set_cons_succ]
       refine wpAnyH_done (by kernel_rfl) ?_ _
       refine NoPanic.normal ?_
       clear hencD
       subst hnk
       have hnx := Asm.LI.next hlt hx hP2 ho2' kIV hWV rfl (by rw [List.length_map]) hrow6 hgr6 hmV ho0 heV hlV hvV hbV hgI hdV
       go_wp2_with fail
       go_roundw
       case rel => exact ⟨k + 1, by go_num, by omega, hnx.1, hnx.2⟩
       case measure => simp [intOf]; omega
     · skip
       refine AllReadyH.cons rfl (fun K hK => ?_) AllReadyH.nil
       go_simp
       refine hencD.mono ?_
       rintro e y2 ⟨g2, c2, rfl, hn0, hc2, hg2, ho2, hP2⟩
       have ho2' : Asm.Off (· ∈ f.2) V y2 := ⟨ho2.os, ho2.tape, ho2.output, ho2.size, ho2.block⟩
       have hWy := ho2'.farRow kIV hWV (by decide)
       have hmy := ho2'.far kIV hmV (by decide)
       have hxy := ho2'.far kIV hxV (by decide)
       have hvy := ho2'.far kIV hvV' (by decide)
       have n1y : y2.cell? ⟨w.heap.size, 1, none⟩ = some (.slice wp nk wc) := (blk_facts hmy).1 1
       have x0y : y2.cell? ⟨wr.heap.size, 0, none⟩ = some (.int .i64 x.line) := (blk_facts hxy).1 0
       have x1y : y2.cell? ⟨wr.heap.size, 1, none⟩ = some (.int .i64 x.at_) := (blk_facts hxy).1 1
       have x2y : y2.cell? ⟨wr.heap.size, 2, none⟩ = some (.func (.func fn) #[] caps) := (blk_facts hxy).1 2
       have nvy : y2.cell? ⟨w.heap.size + 1 + 1 + 1 + 1 + 1, 0, none⟩ = some (.pointer (some ⟨w.heap.size + 1 + 1 + 1 + 1, 0, none⟩)) := (blk_facts hvy).1 0
       go_wp2_with fail
       refine hK.out _ _ ⟨x0y, x1y, x2y, nvy⟩ (fun hHeld => ?_)
       clear hK K
       try simp only [Act.put, List.setIfInBounds_toArray, List.set_cons_zero, List.set_cons_succ]
       refine wpAnyH_ready (rs := [1]) (by kernel_rfl) (by simp) ?_
       refine AllReadyH.cons rfl (fun K hK => ?_) AllReadyH.nil
       go_simp
       refine hK.out _ _ (by assumption) (fun hHeld => ?_)
       clear hK K
       try simp only [Act.put, List.setIfInBounds_toArray, List.set_cons_zero, List.set_cons_succ]
       refine wpAnyH_ready (rs := [7]) (by kernel_rfl) (by simp) ?_
       refine AllReadyH.cons rfl (fun K hK => ?_) AllReadyH.nil
       refine step_append_lies _ rfl _ _ 24 rfl w.heap.size 23 i0 _ 1 4 Tryz.underlying24 hinf hz0 hz1 hz2 rfl (by decide) _ _ _ rfl hWy ⟨g2, 0, none⟩ (Asm.wordsOf S x).length c2 ((Asm.wordsOf S x).map Asm.word32) rfl (by rw [List.length_map, Nat.mul_one]) hc2 (by intro u hu; obtain ⟨q, _, rfl⟩ := List.mem_map.1 hu; rfl) hn0 hk63 hk64 (Nat.le_of_lt (blk_size hmy)) _ rfl ?_
       intro g6 cap6 w6 hrow6 hgr6 hgb6 hlt6
       have k6 := (hgr6.block w.heap.size (blk_size hmy) (Asm.rowNot hWy hmy (by decide))).trans hmy
       have kx6 := (hgr6.block wr.heap.size (blk_size hxy) (Asm.rowNot hWy hxy (by decide))).trans hxy
       have kv6 := (hgr6.block _ (blk_size hvy) (Asm.rowNot hWy hvy (by decide))).trans hvy
       have n1z : w6.cell? ⟨w.heap.size, 1, none⟩ = some (.slice wp nk wc) := (blk_facts k6).1 1
       have f1z : w6.frozen? ⟨w.heap.size, 1, none⟩ = false := (blk_facts k6).2 1
       have x0z : w6.cell? ⟨wr.heap.size, 0, none⟩ = some (.int .i64 x.line) := (blk_facts kx6).1 0
       have x1z : w6.cell? ⟨wr.heap.size, 1, none⟩ = some (.int .i64 x.at_) := (blk_facts kx6).1 1
       have x2z : w6.cell? ⟨wr.heap.size, 2, none⟩ = some (.func (.func fn) #[] caps) := (blk_facts kx6).1 2
       have nvz : w6.cell? ⟨w.heap.size + 1 + 1 + 1 + 1 + 1, 0, none⟩ = some (.pointer (some ⟨w.heap.size + 1 + 1 + 1 + 1, 0, none⟩)) := (blk_facts kv6).1 0
       refine hK.out _ _ ⟨x0z, x1z, x2z, nvz⟩ (fun hHeld => ?_)
       clear hK K
       try simp only [Act.put, List.setIfInBounds_toArray, List.set_cons_zero, List.set_cons_succ]
       refine wpAnyH_take (i := 8) (v := ?v8b) rfl (by kernel_rfl) (by kernel_rfl) (by kernel_rfl) (fun _ _ _ h => h) (Or.inl ⟨by rfl, ?hy8b⟩) (by assumption) ?rest8b
       case hy8b => (intro w' hSw; (try dsimp only at hSw); go_simp; (try with_reducible rfl))
       try simp only [Act.put, List.setIfInBounds_toArray, List.set_cons_zero, List.set_cons_succ]
       refine wpAnyH_ready (rs := [9]) (by kernel_rfl) (by simp) ?_
       refine AllReadyH.cons rfl (fun K hK => ?_) AllReadyH.nil
       go_simp
       refine hK.out _ _ ⟨(blk_facts (setCell_far kx6 hnX 1 _)).1 0, (blk_facts (setCell_far kx6 hnX 1 _)).1 1, (blk_facts (setCell_far kx6 hnX 1 _)).1 2, (blk_facts (setCell_far kv6 hnV 1 _)).1 0⟩ (fun hHeld => ?_)
       clear hK K
       try simp only [Act.put, List.setIfInBounds_toArray, List.set_cons_zero, List.set_cons_succ]
       refine wpAnyH_done (by kernel_rfl) ?_ _
       refine NoPanic.normal ?_
       clear hencD
       subst hnk
       have hnx := Asm.LI.next hlt hx hP2 ho2' kIV hWV rfl (by rw [List.length_map]) hrow6 hgr6 hmV ho0 heV hlV hvV hbV hgI hdV
       go_wp2_with fail
       go_roundw
       case rel => exact ⟨k + 1, by go_num, by omega, hnx.1, hnx.2⟩
       case measure => simp [intOf]; omega
   · have hke : k = S.pieces.length := by omega
     rw [hvl] at m2 hm
     obtain ⟨de, ge⟩ := blk_facts hLI.e
     obtain ⟨dl, gl⟩ := blk_facts hLI.l
     have e0 : wr.cell? ⟨w.heap.size + 1, 0, none⟩ = some (.int .i64 0) := de 0
     have l0 : wr.cell? ⟨w.heap.size + 1 + 1, 0, none⟩ = some (.int .i64 0) := dl 0
     have ge0 : wr.frozen? ⟨w.heap.size + 1, 0, none⟩ = false := ge 0
     have gl0 : wr.frozen? ⟨w.heap.size + 1 + 1, 0, none⟩ = false := gl 0
     obtain ⟨_, gmm⟩ := blk_facts hm
     have gm0 : wr.frozen? ⟨w.heap.size, 0, none⟩ = false := gmm 0
     have gm2 : wr.frozen? ⟨w.heap.size, 2, none⟩ = false := gmm 2
     clear de ge dl gl gmm
     subst hke
     go_wp2_with fail
     have q0 : wr.setCell ⟨w.heap.size, 0, none⟩ (.int .u32 O) = wr := setCell_self hm rfl
     have q1 : wr.setCell ⟨w.heap.size, 1, none⟩ (.slice wp nk wc) = wr := setCell_self hm rfl
     have q2 : wr.setCell ⟨w.heap.size, 2, none⟩ (.slice lp S.labels.length lc) = wr := setCell_self hm rfl
     have q3 : wr.setCell ⟨w.heap.size + 1, 0, none⟩ (.int .i64 0) = wr := setCell_self hLI.e rfl
     have q4 : wr.setCell ⟨w.heap.size + 1 + 1, 0, none⟩ (.int .i64 0) = wr := setCell_self hLI.l rfl
     rw [q0, q1, q2, q3, q4]
     refine assemble_leave _ _ w.heap.size (w.heap.size + 1) (w.heap.size + 1 + 1) D _ _ _ rfl rfl rfl O _ _ wr hm hLI.e hLI.l Ldz ?_
     intro Z9 hZ9
     have pg : wr.grownBy (wr.putObj D (.deferred none)) (some D) := ⟨rfl, rfl, rfl, by simp, fun j hj hne => World.putObj_heap_other (fun e => hne (by rw [e]))⟩
     have rk : ∀ {base : Nat} {e : TypeId} {size : Nat} {v : Value} {n : Nat} {xs : List Value}, wr.ownsRow base e size v n xs → Z9.ownsRow base e size v n xs := fun {base e size v n xs} h => ownsRow_below' (h.kept pg (.inr fun e2 => by
      obtain ⟨c, hc⟩ := Asm.row_type h e2
      rw [Ldz] at hc
      cases hc)) hZ9
     have hbl : Below w.heap.size w (wr.putObj D (.deferred none)) := hLI.below.trans ⟨rfl, rfl, rfl, by simp, fun j hj => World.putObj_heap_other (by omega)⟩
     have hlab : wr.ownsRow B.n0 42 2 B.vl S.labels.length (S.labels.flatMap Asm.labelCells) := hP.labels
     rw [h4, hvl] at hlab
     rw [hnk]
     exact ⟨⟨_, _, by rw [hO], rk hW, rk hlab⟩, hbl.trans (hZ9.mono hbl.size)⟩
end Go.Proofs.YtabmlbnnhhpaoaaGreatDoor
