/- What this claim needs of IsaTab, IsaOps, IsaOf, IsaLaid, IsaEnc0, IsaDec0, IsaBits. -/
import Derived.WalkKit
import Derived.Test.YtabmlbnnhhpaoaaGreatDoorProg
import Derived.Great.Walk
import Derived.Shelf.Strconv.Itoa3
import Derived.Deep.QuietTactic
import Derived.BigQuiet
import Derived.Lib.Hide
namespace Go.Proofs.YtabmlbnnhhpaoaaGreatDoor
namespace Isa
def names : List ByteArray := [⟨#[]⟩, ⟨#[97, 100, 100]⟩, ⟨#[115, 117, 98]⟩, ⟨#[109, 117, 108]⟩, ⟨#[100, 105, 118, 117]⟩, ⟨#[114, 101, 109, 117]⟩, ⟨#[97, 110, 100]⟩, ⟨#[111, 114]⟩, ⟨#[120, 111, 114]⟩, ⟨#[115, 104, 108]⟩, ⟨#[115, 104, 114]⟩, ⟨#[115, 97, 114]⟩, ⟨#[115, 108, 116]⟩, ⟨#[115, 108, 116, 117]⟩, ⟨#[97, 100, 100, 105]⟩, ⟨#[97, 110, 100, 105]⟩, ⟨#[111, 114, 105]⟩, ⟨#[120, 111, 114, 105]⟩, ⟨#[115, 104, 108, 105]⟩, ⟨#[115, 104, 114, 105]⟩, ⟨#[115, 97, 114, 105]⟩, ⟨#[115, 108, 116, 105]⟩, ⟨#[115, 108, 116, 117, 105]⟩, ⟨#[108, 117, 105]⟩, ⟨#[108, 98]⟩, ⟨#[108, 98, 117]⟩, ⟨#[108, 104]⟩, ⟨#[108, 104, 117]⟩, ⟨#[108, 119]⟩, ⟨#[115, 98]⟩, ⟨#[115, 104]⟩, ⟨#[115, 119]⟩, ⟨#[98, 101, 113]⟩, ⟨#[98, 110, 101]⟩, ⟨#[98, 108, 116]⟩, ⟨#[98, 103, 101]⟩, ⟨#[98, 108, 116, 117]⟩, ⟨#[98, 103, 101, 117]⟩, ⟨#[106, 97, 108]⟩, ⟨#[106, 97, 108, 114]⟩, ⟨#[104, 99, 97, 108, 108]⟩, ⟨#[99, 108, 111, 99, 107]⟩, ⟨#[119, 97, 105, 116]⟩, ⟨#[101, 105]⟩, ⟨#[100, 105]⟩, ⟨#[101, 114, 101, 116]⟩, ⟨#[118, 101, 99]⟩, ⟨#[104, 97, 108, 116]⟩, ⟨#[110, 111, 112]⟩]
def forms : List Nat := [0, 1, 1, 1, 1, 1, 1, 1, 1, 1, 1, 1, 1, 1, 2, 2, 2, 2, 2, 2, 2, 2, 2, 4, 2, 2, 2, 2, 2, 3, 3, 3, 3, 3, 3, 3, 3, 3, 4, 2, 7, 5, 8, 8, 8, 8, 6, 8, 8]
def nums : List Nat := [0, 0, 0, 0, 0, 0, 0, 0, 0, 0, 0, 0, 0, 0, 1, 2, 2, 2, 3, 3, 3, 1, 1, 2, 1, 1, 1, 1, 1, 1, 1, 1, 1, 1, 1, 1, 1, 1, 1, 1, 2, 0, 0, 0, 0, 0, 0, 0, 0]
def shapes : List Nat := [0, 0, 0, 0, 0, 0, 0, 0, 0, 0, 0, 0, 0, 0, 0, 0, 0, 0, 0, 0, 0, 0, 0, 0, 1, 1, 1, 1, 1, 1, 1, 1, 0, 0, 0, 0, 0, 0, 0, 0, 0, 0, 0, 0, 0, 0, 0, 0, 0]
def nameOf (n : Nat) : ByteArray := names.getD n ⟨#[]⟩
def formOf (n : Nat) : Nat := forms.getD n 0
def numOf (n : Nat) : Nat := nums.getD n 0
def shapeOf (n : Nat) : Nat := shapes.getD n 0
def layD : List Int := [0, 22, 22, -1, 22, 22, -1, -1, -1]
def layA : List Int := [0, 18, 18, 22, -1, -1, 22, -1, -1]
def layB : List Int := [0, 14, -1, 18, -1, -1, -1, -1, -1]
def layN : List Nat := [0, 0, 18, 18, 22, 0, 0, 26, 0]
def atD (f : Nat) : Int := layD.getD f 0
def atA (f : Nat) : Int := layA.getD f 0
def atB (f : Nat) : Int := layB.getD f 0
def bits (f : Nat) : Nat := layN.getD f 0
def layCells : Array Value := ((List.range 9).flatMap fun f => [Value.int .i64 (atD f), .int .i64 (atA f), .int .i64 (atB f), .int .i64 (bits f : Int)]).toArray
def cellsAt (n : Nat) : List Value := [.string (nameOf n), .int .i64 (formOf n : Int), .int .i64 (numOf n : Int), .int .i64 (shapeOf n : Int)]
def allCells : Array Value := ((List.range 49).flatMap cellsAt).toArray
theorem all_one : allCells.all (·.oneCell') = true := by kernel_rfl
end Isa
end Go.Proofs.YtabmlbnnhhpaoaaGreatDoor
set_option maxRecDepth 100000
namespace Go.Proofs.YtabmlbnnhhpaoaaGreatDoor
open Go.RowKit
def buildsRun (P : Program) : List Oper → Act → Option Act
 | [], a => some a
 | o :: rest, a =>
  match o.guard, o.op with
  | none, .build t parts =>
   match P.built t (parts.map fun (i, x) => (i, a.eval x)).toList with
   | some cells => buildsRun P rest (a.put o.dst (.agg cells))
   | none => none
  | _, _ => none
theorem wpList_builds {P : Program} {ops : Array Oper} {Q : Exit → Act → World → Prop} (w : World) (post : List Oper) : ∀ (pre : List Oper) (a a' : Act), buildsRun P pre a = some a' → wpList P ops Q post a' w → wpList P ops Q (pre ++ post) a w
 | [], a, a', h, hk => by
  obtain rfl : a = a' := Option.some.inj h
  exact hk
 | o :: rest, a, a', h, hk => by
  rw [List.cons_append]
  unfold buildsRun at h
  split at h
  · rename_i t parts hg ho
    split at h
    · rename_i cells hc
      refine wpList_build hg t parts ho (by rw [hc]; rfl) ?_
      rw [hc]
      exact wpList_builds w post rest _ a' h hk
    · cases h
  · cases h
theorem wpList_buildsStore {P : Program} {ops : Array Oper} {Q : Exit → Act → World → Prop} {a : Act} {w : World} (l : List Oper) (n : Nat) (o : Oper) (hdrop : l.drop n = [o]) (hg : o.guard = none) (hd : o.dst = none)
 (ty : TypeId) (x y : Operand) (ho : o.op = .store ty x y) (g : Nat) (cells : Array Value)
 (hb : (buildsRun P (l.take n) a).map (fun a' => (a'.eval x, a'.eval y, a'.defers)) = some (.pointer (some ⟨g, 0, none⟩), .agg cells, a.defers))
 (t : TypeId) (old : Array Value) (hr : w.heap[g]? = some (.cells old t (0, 0))) (hi : (P.info? ty).map (·.size) = some cells.size) (hold : old.size = cells.size) (h1 : cells.all (·.oneCell') = true)
 (h : ∀ a' : Act, a'.eval x = .pointer (some ⟨g, 0, none⟩) → a'.defers = a.defers → Q .normal a' (w.setRow g cells)) : wpList P ops Q l a w := by
 cases hx : buildsRun P (l.take n) a with
 | none => rw [hx] at hb; simp at hb
 | some a' =>
  rw [hx] at hb
  simp only [Option.map_some, Option.some.injEq, Prod.mk.injEq] at hb
  obtain ⟨e1, e2, e3⟩ := hb
  rw [← List.take_append_drop n l]
  refine wpList_builds w _ _ a a' hx ?_
  rw [hdrop]
  refine wpList_store_rowTo hg ty x y ho hd g cells e1 e2 t old hr hi hold h1 ?_
  exact h a' e1 e3
def Isa.zeroCells : Array Value := ((List.range 49).flatMap fun _ => [Value.string ⟨#[]⟩, Value.int .i64 0, Value.int .i64 0, Value.int .i64 0]).toArray
theorem ops_calls (w : World) : Calls Tryz.prog 99 #[] w fun e w' => e = .returned (.agg Isa.allCells) ∧ Below w.heap.size w w' := by
 go_enter Tryz.func99, Tryz.ntmps99
 apply wp_seq_k
 intro K hK
 apply wp_region_lit
 refine Great.wpList_runTo rfl (some 0) rfl (.pointer (some ⟨w.heap.size, 0, none⟩)) (w.alloc (.cells Isa.zeroCells 192)) (by kernel_rfl) ?_
 apply wpList_nil
 apply hK
 clear hK K
 apply wp_seq_k
 intro K hK
 apply wp_region_lit
 refine wpList_buildsStore _ 49 _ rfl rfl rfl 192 (.tmp 0) (.tmp 49) rfl w.heap.size Isa.allCells (by kernel_rfl) 192 Isa.zeroCells (heap_alloc_new _ _) (by kernel_rfl) (by kernel_rfl) Isa.all_one ?_
 intro a' hx hd
 apply hK
 clear hK K
 apply wp_ret
 refine bodyPost_ret (v := .agg Isa.allCells) (results_cell_row rfl _ _ w.heap.size 192 _ (0, 0) _ hx (setRow_heap _ _ _ _ _ _ (heap_alloc_new _ _)) Tryz.underlying192 (by kernel_rfl) (by kernel_rfl)) hd ⟨rfl, ?_⟩
 exact ⟨rfl, rfl, rfl, by simp, fun k hk => by rw [setRow_other _ _ _ _ (by omega), Below.heap_alloc _ _ _ hk]⟩
end Go.Proofs.YtabmlbnnhhpaoaaGreatDoor
set_option maxHeartbeats 1000000
set_option maxRecDepth 100000
namespace Go.Proofs.YtabmlbnnhhpaoaaGreatDoor
open Go.RowKit
theorem run_index_ops (n : Nat) (hn : n < 49) (w : World) : (Instr.index 192 (.agg Isa.allCells) (.int .i64 (n : Int))).run Tryz.prog w = .ok (.agg #[.string (Isa.nameOf n), .int .i64 (Isa.formOf n : Int), .int .i64 (Isa.numOf n : Int), .int .i64 (Isa.shapeOf n : Int)]) w :=
 match n, hn with
 | 0, _ => by kernel_rfl
 | 1, _ => by kernel_rfl
 | 2, _ => by kernel_rfl
 | 3, _ => by kernel_rfl
 | 4, _ => by kernel_rfl
 | 5, _ => by kernel_rfl
 | 6, _ => by kernel_rfl
 | 7, _ => by kernel_rfl
 | 8, _ => by kernel_rfl
 | 9, _ => by kernel_rfl
 | 10, _ => by kernel_rfl
 | 11, _ => by kernel_rfl
 | 12, _ => by kernel_rfl
 | 13, _ => by kernel_rfl
 | 14, _ => by kernel_rfl
 | 15, _ => by kernel_rfl
 | 16, _ => by kernel_rfl
 | 17, _ => by kernel_rfl
 | 18, _ => by kernel_rfl
 | 19, _ => by kernel_rfl
 | 20, _ => by kernel_rfl
 | 21, _ => by kernel_rfl
 | 22, _ => by kernel_rfl
 | 23, _ => by kernel_rfl
 | 24, _ => by kernel_rfl
 | 25, _ => by kernel_rfl
 | 26, _ => by kernel_rfl
 | 27, _ => by kernel_rfl
 | 28, _ => by kernel_rfl
 | 29, _ => by kernel_rfl
 | 30, _ => by kernel_rfl
 | 31, _ => by kernel_rfl
 | 32, _ => by kernel_rfl
 | 33, _ => by kernel_rfl
 | 34, _ => by kernel_rfl
 | 35, _ => by kernel_rfl
 | 36, _ => by kernel_rfl
 | 37, _ => by kernel_rfl
 | 38, _ => by kernel_rfl
 | 39, _ => by kernel_rfl
 | 40, _ => by kernel_rfl
 | 41, _ => by kernel_rfl
 | 42, _ => by kernel_rfl
 | 43, _ => by kernel_rfl
 | 44, _ => by kernel_rfl
 | 45, _ => by kernel_rfl
 | 46, _ => by kernel_rfl
 | 47, _ => by kernel_rfl
 | 48, _ => by kernel_rfl
 | k + 49, h => by exfalso; omega
theorem blk_facts {w : World} {g : Nat} {t : TypeId} {cs : Array Value} (h : w.heap[g]? = some (.cells cs t (0, 0))) : (∀ i, w.cell? ⟨g, i, none⟩ = cs[i]?) ∧ (∀ i, w.frozen? ⟨g, i, none⟩ = false) :=
 ⟨fun i => cell_of_row w g i cs t (0, 0) h, fun i => frozen_of_row w g i cs t h⟩
theorem blk_size {w : World} {g : Nat} {o : Obj} (h : w.heap[g]? = some o) : g < w.heap.size := (Array.getElem?_eq_some_iff.1 h).1
theorem blk_keep {w w1 : World} {g : Nat} {o : Obj} (hb : Below w.heap.size w w1) (h : w.heap[g]? = some o) : w1.heap[g]? = some o := (hb.block g (blk_size h)).trans h
theorem blk_alloc {w : World} {g : Nat} {o : Obj} (x : Obj) (h : w.heap[g]? = some o) : (w.alloc x).heap[g]? = some o := (Below.heap_alloc w x g (blk_size h)).trans h
theorem below_next {w0 w w1 : World} (h : Below w0.heap.size w0 w) (k : Below w.heap.size w w1) : Below w0.heap.size w0 w1 := h.trans (k.mono h.size)
theorem below_alloc' {w0 w : World} (h : Below w0.heap.size w0 w) (o : Obj) : Below w0.heap.size w0 (w.alloc o) := h.alloc h.size o
theorem of_some (n : Nat) (h1 : 1 ≤ n) (h2 : n < 49) (w : World) : Calls Tryz.prog 68 #[.int .i64 (n : Int)] w fun e w' => e = .returned (.tuple #[.agg #[.string (Isa.nameOf n), .int .i64 (Isa.formOf n : Int), .int .i64 (Isa.numOf n : Int), .int .i64 (Isa.shapeOf n : Int)], .bool true]) ∧ Below w.heap.size w w' := by
 have hx : ∀ W : World, (Instr.index 192 (.agg Isa.allCells) (.int .i64 (n : Int))).run Tryz.prog W = .ok (.agg #[.string (Isa.nameOf n), .int .i64 (Isa.formOf n : Int), .int .i64 (Isa.numOf n : Int), .int .i64 (Isa.shapeOf n : Int)]) W := fun W => run_index_ops n h2 W
 have c1 : decide ((n : Int) < 1) = false := by simp; omega
 have c2 : decide ((49 : Int) ≤ (n : Int)) = false := by simp; omega
 go_enter Tryz.func68, Tryz.ntmps68
 go_wp2_with fail
 refine (ops_calls _).mono ?_
 rintro e w1 ⟨rfl, hb1⟩
 have k1 := blk_keep hb1 (heap_alloc_new _ _)
 obtain ⟨d1, f1⟩ := blk_facts k1
 go_wp2_with fail
 refine (ops_calls _).mono ?_
 rintro e w2 ⟨rfl, hb2⟩
 have k2 := blk_keep hb2 k1
 clear d1 f1
 obtain ⟨d2, f2⟩ := blk_facts k2
 go_wp2_with fail
 refine bodyPost_ret (v := .tuple #[.agg #[.string (Isa.nameOf n), .int .i64 (Isa.formOf n : Int), .int .i64 (Isa.numOf n : Int), .int .i64 (Isa.shapeOf n : Int)], .bool true]) (by simp [results, Tryz.results68, go_sem, d2]) rfl ⟨rfl, ?_⟩
 exact ((((below_next (below_next (below_alloc' (Below.refl _ _) _) hb1) hb2).setCell (Nat.le_refl _) _).setCell (Nat.le_refl _) _).setCell (Nat.le_refl _) _).setCell (Nat.le_refl _) _
theorem of_none (n : Int) (h : n < 1 ∨ 49 ≤ n) (w : World) : Calls Tryz.prog 68 #[.int .i64 n] w fun e w' => e = .returned (.tuple #[.agg #[.string ⟨#[]⟩, .int .i64 0, .int .i64 0, .int .i64 0], .bool false]) ∧ Below w.heap.size w w' := by
 by_cases h1 : n < 1
 · have c1 : decide (n < 1) = true := by simpa using h1
   clear h1 h
   go_enter Tryz.func68, Tryz.ntmps68
   go_wp2_with fail
   refine bodyPost_ret (v := .tuple #[.agg #[.string ⟨#[]⟩, .int .i64 0, .int .i64 0, .int .i64 0], .bool false]) (by simp [results, Tryz.results68, go_sem]) rfl ⟨rfl, ?_⟩
   exact below_alloc' (Below.refl _ _) _
 · have c1 : decide (n < 1) = false := by simpa using h1
   have c2 : decide ((49 : Int) ≤ n) = true := by simp; omega
   clear h1 h
   go_enter Tryz.func68, Tryz.ntmps68
   go_wp2_with fail
   refine (ops_calls _).mono ?_
   rintro e w1 ⟨rfl, hb1⟩
   have k1 := blk_keep hb1 (heap_alloc_new _ _)
   obtain ⟨d1, f1⟩ := blk_facts k1
   go_wp2_with fail
   refine bodyPost_ret (v := .tuple #[.agg #[.string ⟨#[]⟩, .int .i64 0, .int .i64 0, .int .i64 0], .bool false]) (by simp [results, Tryz.results68, go_sem, d1]) rfl ⟨rfl, ?_⟩
   exact ((((below_next (below_alloc' (Below.refl _ _) _) hb1).setCell (Nat.le_refl _) _).setCell (Nat.le_refl _) _).setCell (Nat.le_refl _) _).setCell (Nat.le_refl _) _
end Go.Proofs.YtabmlbnnhhpaoaaGreatDoor
set_option linter.unusedSimpArgs false
set_option maxHeartbeats 1000000
set_option maxRecDepth 100000
namespace Go.Proofs.YtabmlbnnhhpaoaaGreatDoor
open Go.RowKit
structure Isa.Laid (w : World) : Prop where
 lay : ∃ t fr, w.heap[0]? = some (.cells Isa.layCells t fr)
 tab : ∃ t fr, w.heap[4]? = some (.cells (Lib.pow10Tab.map fun z => Value.int .u64 z).toArray t fr)
theorem Isa.Laid.below {w w1 : World} (h : Isa.Laid w) (hb : Below w.heap.size w w1) : Isa.Laid w1 := by
 obtain ⟨⟨t, fr, h1⟩, u, gr, h2⟩ := h
 exact ⟨⟨t, fr, blk_keep hb h1⟩, u, gr, blk_keep hb h2⟩
theorem Isa.Laid.tabIs {w : World} (h : Isa.Laid w) (nm : String) (hg : Tryz.prog.globalNamed nm = some 4) : Lib.TabIs Tryz.prog w nm .u64 Lib.pow10Tab := by
 obtain ⟨u, gr, h2⟩ := h.tab
 unfold Lib.TabIs World.var?
 rw [hg, Option.bind_some, h2]
theorem Isa.lay_get : ∀ f : Fin 9, Isa.layCells[f.1 * 4]? = some (.int .i64 (Isa.atD f)) ∧ Isa.layCells[f.1 * 4 + 1]? = some (.int .i64 (Isa.atA f)) ∧ Isa.layCells[f.1 * 4 + 2]? = some (.int .i64 (Isa.atB f)) ∧ Isa.layCells[f.1 * 4 + 3]? = some (.int .i64 (Isa.bits f : Int))
 | ⟨0, _⟩ | ⟨1, _⟩ | ⟨2, _⟩ | ⟨3, _⟩ | ⟨4, _⟩ | ⟨5, _⟩ | ⟨6, _⟩ | ⟨7, _⟩ | ⟨8, _⟩ => ⟨rfl, rfl, rfl, rfl⟩
theorem Isa.Laid.cells {w : World} (h : Isa.Laid w) (f : Nat) (hf : f < 9) :
 w.cell? ⟨0, f * 4, none⟩ = some (.int .i64 (Isa.atD f)) ∧ w.cell? ⟨0, f * 4 + 1, none⟩ = some (.int .i64 (Isa.atA f)) ∧
 w.cell? ⟨0, f * 4 + 2, none⟩ = some (.int .i64 (Isa.atB f)) ∧ w.cell? ⟨0, f * 4 + 3, none⟩ = some (.int .i64 (Isa.bits f : Int)) := by
 obtain ⟨t, fr, h1⟩ := h.lay
 have hc := fun i => cell_of_row w 0 i _ t fr h1
 obtain ⟨e1, e2, e3, e4⟩ := Isa.lay_get ⟨f, hf⟩
 exact ⟨(hc _).trans e1, (hc _).trans e2, (hc _).trans e3, (hc _).trans e4⟩
theorem Isa.Laid.lt {w : World} (h : Isa.Laid w) : 0 < w.heap.size := by
 obtain ⟨t, fr, h1⟩ := h.lay
 exact blk_size h1
def Isa.fits (f nu : Nat) (n : Int) : Bool :=
 if nu = 1 then decide (-(2 ^ (Isa.bits f - 1) : Int) ≤ n) && decide (n < 2 ^ (Isa.bits f - 1)) else if nu = 2 then decide (0 ≤ n) && decide (n ≤ 262143) else if nu = 3 then decide (0 ≤ n) && decide (n ≤ 31) else decide (n = 0)
theorem fits_two (nm : ByteArray) (f : Nat) (sh : Nat) (n : Int) (w : World) : Calls Tryz.prog 69 #[.agg #[.string nm, .int .i64 (f : Int), .int .i64 2, .int .i64 (sh : Int)], .int .i64 n] w fun e w' => e = .returned (.bool (Isa.fits f 2 n)) ∧ Below w.heap.size w w' := by
 by_cases h0 : 0 ≤ n
 · have c0 : decide (0 ≤ n) = true := by simpa using h0
   by_cases h1 : n ≤ 262143
   · have c1 : decide (n ≤ 262143) = true := by simpa using h1
     go_enter Tryz.func69, Tryz.ntmps69
     go_wp2_with fail
     go_ret
     exact ⟨by simp [Isa.fits, Isa.bits, Isa.layN, c0, c1], below_alloc' (Below.refl _ _) _⟩
   · have c1 : decide (n ≤ 262143) = false := by simpa using h1
     go_enter Tryz.func69, Tryz.ntmps69
     go_wp2_with fail
     go_ret
     exact ⟨by simp [Isa.fits, Isa.bits, Isa.layN, c0, c1], below_alloc' (Below.refl _ _) _⟩
 · have c0 : decide (0 ≤ n) = false := by simpa using h0
   go_enter Tryz.func69, Tryz.ntmps69
   go_wp2_with fail
   go_ret
   exact ⟨by simp [Isa.fits, Isa.bits, Isa.layN, c0], below_alloc' (Below.refl _ _) _⟩
theorem fits_three (nm : ByteArray) (f : Nat) (sh : Nat) (n : Int) (w : World) : Calls Tryz.prog 69 #[.agg #[.string nm, .int .i64 (f : Int), .int .i64 3, .int .i64 (sh : Int)], .int .i64 n] w fun e w' => e = .returned (.bool (Isa.fits f 3 n)) ∧ Below w.heap.size w w' := by
 by_cases h0 : 0 ≤ n
 · have c0 : decide (0 ≤ n) = true := by simpa using h0
   by_cases h1 : n ≤ 31
   · have c1 : decide (n ≤ 31) = true := by simpa using h1
     go_enter Tryz.func69, Tryz.ntmps69
     go_wp2_with fail
     go_ret
     exact ⟨by simp [Isa.fits, Isa.bits, Isa.layN, c0, c1], below_alloc' (Below.refl _ _) _⟩
   · have c1 : decide (n ≤ 31) = false := by simpa using h1
     go_enter Tryz.func69, Tryz.ntmps69
     go_wp2_with fail
     go_ret
     exact ⟨by simp [Isa.fits, Isa.bits, Isa.layN, c0, c1], below_alloc' (Below.refl _ _) _⟩
 · have c0 : decide (0 ≤ n) = false := by simpa using h0
   go_enter Tryz.func69, Tryz.ntmps69
   go_wp2_with fail
   go_ret
   exact ⟨by simp [Isa.fits, Isa.bits, Isa.layN, c0], below_alloc' (Below.refl _ _) _⟩
theorem fits_one2 (nm : ByteArray) (sh : Nat) (n : Int) (w : World) (hL : Isa.Laid w) : Calls Tryz.prog 69 #[.agg #[.string nm, .int .i64 2, .int .i64 1, .int .i64 (sh : Int)], .int .i64 n] w fun e w' => e = .returned (.bool (Isa.fits 2 1 n)) ∧ Below w.heap.size w w' := by
 have hl : w.cell? ⟨0, 11, none⟩ = some (.int .i64 18) := (hL.cells 2 (by omega)).2.2.2
 have hz : 0 < w.heap.size := hL.lt
 by_cases h0 : -131072 ≤ n
 · have c0 : decide (-131072 ≤ n) = true := by simpa using h0
   by_cases h1 : n < 131072
   · have c1 : decide (n < 131072) = true := by simpa using h1
     go_enter Tryz.func69, Tryz.ntmps69
     go_wp2_with fail
     go_ret
     exact ⟨by simp [Isa.fits, Isa.bits, Isa.layN, c0, c1], below_alloc' (Below.refl _ _) _⟩
   · have c1 : decide (n < 131072) = false := by simpa using h1
     go_enter Tryz.func69, Tryz.ntmps69
     go_wp2_with fail
     go_ret
     exact ⟨by simp [Isa.fits, Isa.bits, Isa.layN, c0, c1], below_alloc' (Below.refl _ _) _⟩
 · have c0 : decide (-131072 ≤ n) = false := by simpa using h0
   go_enter Tryz.func69, Tryz.ntmps69
   go_wp2_with fail
   go_ret
   exact ⟨by simp [Isa.fits, Isa.bits, Isa.layN, c0], below_alloc' (Below.refl _ _) _⟩
theorem fits_one3 (nm : ByteArray) (sh : Nat) (n : Int) (w : World) (hL : Isa.Laid w) : Calls Tryz.prog 69 #[.agg #[.string nm, .int .i64 3, .int .i64 1, .int .i64 (sh : Int)], .int .i64 n] w fun e w' => e = .returned (.bool (Isa.fits 3 1 n)) ∧ Below w.heap.size w w' := by
 have hl : w.cell? ⟨0, 15, none⟩ = some (.int .i64 18) := (hL.cells 3 (by omega)).2.2.2
 have hz : 0 < w.heap.size := hL.lt
 by_cases h0 : -131072 ≤ n
 · have c0 : decide (-131072 ≤ n) = true := by simpa using h0
   by_cases h1 : n < 131072
   · have c1 : decide (n < 131072) = true := by simpa using h1
     go_enter Tryz.func69, Tryz.ntmps69
     go_wp2_with fail
     go_ret
     exact ⟨by simp [Isa.fits, Isa.bits, Isa.layN, c0, c1], below_alloc' (Below.refl _ _) _⟩
   · have c1 : decide (n < 131072) = false := by simpa using h1
     go_enter Tryz.func69, Tryz.ntmps69
     go_wp2_with fail
     go_ret
     exact ⟨by simp [Isa.fits, Isa.bits, Isa.layN, c0, c1], below_alloc' (Below.refl _ _) _⟩
 · have c0 : decide (-131072 ≤ n) = false := by simpa using h0
   go_enter Tryz.func69, Tryz.ntmps69
   go_wp2_with fail
   go_ret
   exact ⟨by simp [Isa.fits, Isa.bits, Isa.layN, c0], below_alloc' (Below.refl _ _) _⟩
theorem fits_one4 (nm : ByteArray) (sh : Nat) (n : Int) (w : World) (hL : Isa.Laid w) : Calls Tryz.prog 69 #[.agg #[.string nm, .int .i64 4, .int .i64 1, .int .i64 (sh : Int)], .int .i64 n] w fun e w' => e = .returned (.bool (Isa.fits 4 1 n)) ∧ Below w.heap.size w w' := by
 have hl : w.cell? ⟨0, 19, none⟩ = some (.int .i64 22) := (hL.cells 4 (by omega)).2.2.2
 have hz : 0 < w.heap.size := hL.lt
 by_cases h0 : -2097152 ≤ n
 · have c0 : decide (-2097152 ≤ n) = true := by simpa using h0
   by_cases h1 : n < 2097152
   · have c1 : decide (n < 2097152) = true := by simpa using h1
     go_enter Tryz.func69, Tryz.ntmps69
     go_wp2_with fail
     go_ret
     exact ⟨by simp [Isa.fits, Isa.bits, Isa.layN, c0, c1], below_alloc' (Below.refl _ _) _⟩
   · have c1 : decide (n < 2097152) = false := by simpa using h1
     go_enter Tryz.func69, Tryz.ntmps69
     go_wp2_with fail
     go_ret
     exact ⟨by simp [Isa.fits, Isa.bits, Isa.layN, c0, c1], below_alloc' (Below.refl _ _) _⟩
 · have c0 : decide (-2097152 ≤ n) = false := by simpa using h0
   go_enter Tryz.func69, Tryz.ntmps69
   go_wp2_with fail
   go_ret
   exact ⟨by simp [Isa.fits, Isa.bits, Isa.layN, c0], below_alloc' (Below.refl _ _) _⟩
theorem fits_none (nm : ByteArray) (f sh : Nat) (n : Int) (w : World) : Calls Tryz.prog 69 #[.agg #[.string nm, .int .i64 (f : Int), .int .i64 0, .int .i64 (sh : Int)], .int .i64 n] w fun e w' => e = .returned (.bool (Isa.fits f 0 n)) ∧ Below w.heap.size w w' := by
 go_enter Tryz.func69, Tryz.ntmps69
 go_wp2_with fail
 go_ret
 exact ⟨by simp [Isa.fits]; rfl, below_alloc' (Below.refl _ _) _⟩
theorem fits_any (nm : ByteArray) (f nu sh : Nat) (n : Int) (w : World) (hL : Isa.Laid w) (hnu : nu < 4) (hs : nu = 1 → f = 2 ∨ f = 3 ∨ f = 4) : Calls Tryz.prog 69 #[.agg #[.string nm, .int .i64 (f : Int), .int .i64 (nu : Int), .int .i64 (sh : Int)], .int .i64 n] w fun e w' => e = .returned (.bool (Isa.fits f nu n)) ∧ Below w.heap.size w w' := by
 match nu, hnu, hs with
 | 0, _, _ => exact fits_none nm f sh n w
 | 1, _, hs =>
  rcases hs rfl with rfl | rfl | rfl
  · exact fits_one2 nm sh n w hL
  · exact fits_one3 nm sh n w hL
  · exact fits_one4 nm sh n w hL
 | 2, _, _ => exact fits_two nm f sh n w
 | 3, _, _ => exact fits_three nm f sh n w
 | k + 4, h, _ => exact absurd h (by omega)
end Go.Proofs.YtabmlbnnhhpaoaaGreatDoor
namespace Go.Proofs.YtabmlbnnhhpaoaaGreatDoor
open Go.RowKit
theorem of_at (n : Nat) (h1 : 1 ≤ n) (h2 : n < 49) (f : Int) (hf : (Isa.formOf n : Int) = f) (w : World) : Calls Tryz.prog 68 #[.int .i64 (n : Int)] w fun e w' => e = .returned (.tuple #[.agg #[.string (Isa.nameOf n), .int .i64 f, .int .i64 (Isa.numOf n : Int), .int .i64 (Isa.shapeOf n : Int)], .bool true]) ∧ Below w.heap.size w w' := by
 subst hf
 exact of_some n h1 h2 w
theorem fits_at (nm : ByteArray) (f : Nat) (fi : Int) (hf : (f : Int) = fi) (nu sh : Nat) (n : Int) (w : World) (hL : Isa.Laid w) (hnu : nu < 4) (hs : nu = 1 → f = 2 ∨ f = 3 ∨ f = 4) : Calls Tryz.prog 69 #[.agg #[.string nm, .int .i64 fi, .int .i64 (nu : Int), .int .i64 (sh : Int)], .int .i64 n] w fun e w' => e = .returned (.bool (Isa.fits f nu n)) ∧ Below w.heap.size w w' := by
 subst hf
 exact fits_any nm f nu sh n w hL hnu hs
theorem index_three (d a b : Int) (x y z : Int) (W : World) :
 (Instr.index 213 (.agg #[.int .u8 d, .int .i64 x, .int .u8 a, .int .i64 y, .int .u8 b, .int .i64 z]) (.int .i64 0)).run Tryz.prog W = .ok (.agg #[.int .u8 d, .int .i64 x]) W ∧
 (Instr.index 213 (.agg #[.int .u8 d, .int .i64 x, .int .u8 a, .int .i64 y, .int .u8 b, .int .i64 z]) (.int .i64 1)).run Tryz.prog W = .ok (.agg #[.int .u8 a, .int .i64 y]) W ∧
 (Instr.index 213 (.agg #[.int .u8 d, .int .i64 x, .int .u8 a, .int .i64 y, .int .u8 b, .int .i64 z]) (.int .i64 2)).run Tryz.prog W = .ok (.agg #[.int .u8 b, .int .i64 z]) W :=
 ⟨by kernel_rfl, by kernel_rfl, by kernel_rfl⟩
theorem below_drewN' {B : Nat} {a w : World} (h : Below B a w) (n : Nat) : Below B a (w.drewN n) := h.trans ⟨rfl, rfl, rfl, Nat.le_refl _, fun _ _ => rfl⟩
theorem Isa.Laid.alloc {w : World} (h : Isa.Laid w) (o : Obj) : Isa.Laid (w.alloc o) := h.below (below_alloc' (Below.refl _ _) o)
theorem Isa.table_facts : ∀ n : Fin 49, Isa.numOf n.1 < 4 ∧ (Isa.numOf n.1 = 1 → Isa.formOf n.1 = 2 ∨ Isa.formOf n.1 = 3 ∨ Isa.formOf n.1 = 4) ∧ Isa.formOf n.1 < 9 ∧ (1 ≤ n.1 → 1 ≤ Isa.formOf n.1) ∧ Isa.shapeOf n.1 < 2 := by decide
theorem Isa.sig_at (n : Nat) (h : n < 49) (f : Nat) (hf : (Isa.formOf n : Int) = (f : Int)) : Isa.numOf n = 1 → f = 2 ∨ f = 3 ∨ f = 4 := by
 have e : Isa.formOf n = f := by omega
 subst e
 exact (Isa.table_facts ⟨n, h⟩).2.1
def Isa.EncPost (x y : Int) (w : World) (e : Ending) (w' : World) : Prop := e = .returned (.tuple #[.int .u32 x, .int .i64 y]) ∧ Below w.heap.size w w'
end Go.Proofs.YtabmlbnnhhpaoaaGreatDoor
namespace Go.Proofs.YtabmlbnnhhpaoaaGreatDoor
open Go.RowKit
theorem index_threeP (p q r : Value) (x y z : Int) (W : World) :
 (Instr.index 158 (.agg #[p, .int .i64 x, q, .int .i64 y, r, .int .i64 z]) (.int .i64 0)).run Tryz.prog W = .ok (.agg #[p, .int .i64 x]) W ∧
 (Instr.index 158 (.agg #[p, .int .i64 x, q, .int .i64 y, r, .int .i64 z]) (.int .i64 1)).run Tryz.prog W = .ok (.agg #[q, .int .i64 y]) W ∧
 (Instr.index 158 (.agg #[p, .int .i64 x, q, .int .i64 y, r, .int .i64 z]) (.int .i64 2)).run Tryz.prog W = .ok (.agg #[r, .int .i64 z]) W :=
 ⟨by kernel_rfl, by kernel_rfl, by kernel_rfl⟩
def Isa.DecPost (r : Int × Int × Int × Int × Int × Int) (w : World) (e : Ending) (w' : World) : Prop :=
 e = .returned (.tuple #[.agg #[.int .i64 r.1, .int .u8 r.2.1, .int .u8 r.2.2.1, .int .u8 r.2.2.2.1, .int .i32 r.2.2.2.2.1], .int .i64 r.2.2.2.2.2]) ∧ Below w.heap.size w w'
def Isa.decOut (n : Int) (f nu : Nat) (d a b y : Int) : Int × Int × Int × Int × Int × Int :=
 if 2 ^ Isa.bits f ≤ y then (0, 0, 0, 0, 0, 103)
 else if nu = 1 ∧ 2 ^ (Isa.bits f - 1) ≤ y then (if Isa.fits f nu (y - 2 ^ Isa.bits f) = true then (n, d, a, b, y - 2 ^ Isa.bits f, 0) else (0, 0, 0, 0, 0, 102))
 else if Isa.fits f nu y = true then (n, d, a, b, y, 0) else (0, 0, 0, 0, 0, 102)
structure Isa.DecW (w w1 : World) (n : Int) (nm : ByteArray) (f nu sh ld la lb ln D A B I : Int) (w2 : World) : Prop where
 res : w2.heap[w.heap.size]? = some (.cells #[.int .i64 0, .int .u8 0, .int .u8 0, .int .u8 0, .int .i32 0] 96 (0, 0))
 own : w2.heap[w.heap.size + 1]? = some (.cells #[.int .i64 n, .int .u8 D, .int .u8 A, .int .u8 B, .int .i32 I] 96 (0, 0))
 info : w2.heap[w1.heap.size]? = some (.cells #[.string nm, .int .i64 f, .int .i64 nu, .int .i64 sh] 151 (0, 0))
 lay : w2.heap[w1.heap.size + 1]? = some (.cells #[.int .i64 ld, .int .i64 la, .int .i64 lb, .int .i64 ln] 155 (0, 0))
 laid : Isa.Laid w2
 bel : Below w.heap.size w w2
 ord : w.heap.size + 1 < w1.heap.size
section
variable {w w1 w2 : World} {n : Int} {nm : ByteArray} {f nu sh ld la lb ln D A B I : Int}
theorem Isa.DecW.alloc (h : Isa.DecW w w1 n nm f nu sh ld la lb ln D A B I w2) (o : Obj) : Isa.DecW w w1 n nm f nu sh ld la lb ln D A B I (w2.alloc o) :=
 ⟨blk_alloc o h.res, blk_alloc o h.own, blk_alloc o h.info, blk_alloc o h.lay, h.laid.alloc o, below_alloc' h.bel o, h.ord⟩
theorem Isa.DecW.drew (h : Isa.DecW w w1 n nm f nu sh ld la lb ln D A B I w2) : Isa.DecW w w1 n nm f nu sh ld la lb ln D A B I w2.drew :=
 ⟨h.res, h.own, h.info, h.lay, h.laid.below ⟨rfl, rfl, rfl, Nat.le_refl _, fun _ _ => rfl⟩, h.bel.drew, h.ord⟩
theorem Isa.DecW.below {w3 : World} (h : Isa.DecW w w1 n nm f nu sh ld la lb ln D A B I w2) (hb : Below w2.heap.size w2 w3) : Isa.DecW w w1 n nm f nu sh ld la lb ln D A B I w3 :=
 ⟨blk_keep hb h.res, blk_keep hb h.own, blk_keep hb h.info, blk_keep hb h.lay, h.laid.below hb, below_next h.bel hb, h.ord⟩
theorem Isa.Laid.setOwn {g i : Nat} {v : Value} {w : World} (h : Isa.Laid w) (hg0 : g ≠ 0) (hg1 : g ≠ 4) : Isa.Laid (w.setCell ⟨g, i, none⟩ v) := by
 obtain ⟨⟨t, fr, h1⟩, u, gr, h2⟩ := h
 exact ⟨⟨t, fr, (heap_setCell_other w _ _ v (Ne.symm hg0)).trans h1⟩, u, gr, (heap_setCell_other w _ _ v (Ne.symm hg1)).trans h2⟩
theorem Isa.Laid.two {w : World} (h : Isa.Laid w) : 4 < w.heap.size := by
 obtain ⟨u, gr, h2⟩ := h.tab
 exact blk_size h2
theorem Isa.DecW.setAny (h : Isa.DecW w w1 n nm f nu sh ld la lb ln D A B I w2) (hL : Isa.Laid w) (i : Nat) (v : Value) {D' A' B' I' : Int}
 (he : (#[.int .i64 n, .int .u8 D, .int .u8 A, .int .u8 B, .int .i32 I] : Array Value).setIfInBounds i v = #[.int .i64 n, .int .u8 D', .int .u8 A', .int .u8 B', .int .i32 I']) :
 Isa.DecW w w1 n nm f nu sh ld la lb ln D' A' B' I' (w2.setCell ⟨w.heap.size + 1, i, none⟩ v) := by
 have a := hL.lt
 have b := hL.two
 have o := h.ord
 refine ⟨?_, ?_, ?_, ?_, ?_, h.bel.setCell (by simp) _, h.ord⟩
 · exact (heap_setCell_other w2 _ _ v (by simp)).trans h.res
 · rw [heap_setCell_same w2 _ i _ _ v h.own, he]
 · exact (heap_setCell_other w2 _ _ v (by simp; omega)).trans h.info
 · exact (heap_setCell_other w2 _ _ v (by simp; omega)).trans h.lay
 · exact Isa.Laid.setOwn h.laid (by omega) (by omega)
theorem Isa.DecW.setD (h : Isa.DecW w w1 n nm f nu sh ld la lb ln D A B I w2) (hL : Isa.Laid w) (x : Int) : Isa.DecW w w1 n nm f nu sh ld la lb ln x A B I (w2.setCell ⟨w.heap.size + 1, 1, none⟩ (.int .u8 x)) := h.setAny hL 1 _ rfl
theorem Isa.DecW.setA (h : Isa.DecW w w1 n nm f nu sh ld la lb ln D A B I w2) (hL : Isa.Laid w) (x : Int) : Isa.DecW w w1 n nm f nu sh ld la lb ln D x B I (w2.setCell ⟨w.heap.size + 1, 2, none⟩ (.int .u8 x)) := h.setAny hL 2 _ rfl
theorem Isa.DecW.setB (h : Isa.DecW w w1 n nm f nu sh ld la lb ln D A B I w2) (hL : Isa.Laid w) (x : Int) : Isa.DecW w w1 n nm f nu sh ld la lb ln D A x I (w2.setCell ⟨w.heap.size + 1, 3, none⟩ (.int .u8 x)) := h.setAny hL 3 _ rfl
end
theorem of_at2 (n : Nat) (h1 : 1 ≤ n) (h2 : n < 49) (f nu : Int) (hf : (Isa.formOf n : Int) = f) (hn : (Isa.numOf n : Int) = nu) (w : World) : Calls Tryz.prog 68 #[.int .i64 (n : Int)] w fun e w' => e = .returned (.tuple #[.agg #[.string (Isa.nameOf n), .int .i64 f, .int .i64 nu, .int .i64 (Isa.shapeOf n : Int)], .bool true]) ∧ Below w.heap.size w w' := by
 subst hf hn
 exact of_some n h1 h2 w
theorem rounds_world {P : Program} {c : Code} {Q : Exit → Act → World → Prop} {k : Nat} {a : Act} {W : World} (F : World → Prop) (hF : F W) (h : ∀ w2, F w2 → Code.rounds P c Q k a w2) : Code.rounds P c Q k a W := h W hF
end Go.Proofs.YtabmlbnnhhpaoaaGreatDoor
namespace Go.Proofs.YtabmlbnnhhpaoaaGreatDoor
theorem wraps_u32 (n : Int) (h0 : 0 ≤ n) (h1 : n < 2 ^ 32) : IntKind.u32.wrap n = n := by rw [IntKind.wrap_u32]; omega
theorem u32_mask (i : Nat) (hi : i ≤ 32) (x : Int) (h0 : 0 ≤ x) (h1 : x < 4294967296) : bits .and .u32 x (2 ^ i - 1) = x % 2 ^ i := bits_mask .u32 32 (by decide) wraps_u32 i hi x h0 h1
theorem u32_join (i : Nat) (x y : Int) (_hi : i ≤ 32) (hx0 : 0 ≤ x) (hx : x % 2 ^ i = 0) (hx1 : x < 4294967296) (hy0 : 0 ≤ y) (hy : y < 2 ^ i ∧ y < 4294967296) : bits .or .u32 x y = x + y :=
 bits_join .u32 32 (by decide) wraps_u32 i x y hx0 hx hx1 hy0 hy.1 hy.2
theorem nat_and_mod (a b j : Nat) (ha : a < 2 ^ j) : a &&& b = a &&& (b % 2 ^ j) := by
 apply Nat.eq_of_testBit_eq
 intro i
 simp only [Nat.testBit_and, Nat.testBit_mod_two_pow]
 by_cases h : i < j
 · simp [h]
 · have : a.testBit i = false := Nat.testBit_lt_two_pow (Nat.lt_of_lt_of_le ha (Nat.pow_le_pow_right (by decide) (by omega)))
   simp [this]
theorem u32_strike (at_ : Nat) (hat : at_ + 4 ≤ 32) (y m : Int) (h0 : 0 ≤ y) (h1 : y < 2 ^ (at_ + 4)) (hm0 : 0 ≤ m) (hm1 : m < 4294967296) (hm : (4294967295 - m.toNat) % 2 ^ (at_ + 4) = 2 ^ at_ - 1) : bits .andNot .u32 y m = y % 2 ^ at_ := by
 have hp : (2 : Nat) ^ (at_ + 4) ≤ 2 ^ 32 := Nat.pow_le_pow_right (by decide) hat
 have hy : y.toNat < 2 ^ (at_ + 4) := by
  obtain ⟨a, rfl⟩ := Int.eq_ofNat_of_zero_le h0
  simp only [Int.toNat_natCast]
  exact_mod_cast h1
 rw [u32_andNot y m h0 (by have := hy; omega) hm0 hm1, nat_and_mod _ _ _ hy, hm, Nat.and_two_pow_sub_one_eq_mod]
 obtain ⟨a, rfl⟩ := Int.eq_ofNat_of_zero_le h0
 simp
end Go.Proofs.YtabmlbnnhhpaoaaGreatDoor
