/- What this claim needs of MAsmAll. -/
import Derived.Test.YtabmlbnnhhpaoaaGreatDoorTMAsmSplitG
import Derived.Test.YtabmlbnnhhpaoaaGreatDoorTMAsmIns
import Derived.Deep.RegionLaw
import Derived.Deep.RegionHeld3
set_option linter.unusedSimpArgs false
set_option linter.unusedVariables false
set_option maxHeartbeats 8000000
set_option maxRecDepth 100000
namespace Go.Proofs.YtabmlbnnhhpaoaaGreatDoor
open Go.RowKit Go.Shelf
attribute [local go_sem] Oper.semAt_some
namespace Asm
def init : PS := ⟨0, [], 0, false, 0, [], [], .map [], 0, []⟩
def OneOk (S : PS) (l : List UInt8) (S' : PS) : Prop :=
 ∀ (B : PB) (w : World), Par B S w → Calls Tryz.prog 27 #[.pointer (some ⟨B.b, 0, none⟩), .string ⟨l.toArray⟩] w fun e w' => e = .returned (.tuple #[]) ∧ ∃ B', Par B' S' w' ∧ Step B w B' w'
end Asm
theorem cell_one_at {w : World} {g : Nat} {x : Value} {t : TypeId} (h : w.heap[g]? = some (.cells #[x] t (0, 0))) : ∀ (j : Nat) (u : Value), [x][j]? = some u → w.cell? ((⟨g, 0, none⟩ : Addr).add j) = some u := by
 intro j u hj
 match j, hj with
 | 0, hj => exact ((blk_facts h).1 0).trans (by simpa using hj)
 | j + 1, hj => simp at hj
theorem asm_info22 : (Tryz.prog.info? 23).map (fun i => (i.zero, i.size, i.bytes)) = some (some (.int .u32 0), 1, 4) := by kernel_rfl
theorem assemble_calls (src : List UInt8) (hlen : src.length ≤ 20000) (st : Nat → Asm.PS) (h0 : st 0 = Asm.init) (hst : ∀ k (h : k < (Asm.lines src).length), Asm.OneOk (st k) (Asm.lines src)[k] (st (k + 1))) (S : Asm.PS) (hS : st (Asm.lines src).length = S) (hSt : S.toks = []) (hb : Asm.Bnd S) (hpo : ∀ x ∈ S.pieces, Asm.PieceOk S x) (w : World) (hL : Isa.Laid w) :
 Calls Tryz.prog 13 #[.string ⟨src.toArray⟩] w fun e w' => (∃ vW vL, e = .returned (.tuple #[.agg #[.int .u32 (S.origin % 4294967296), vW, vL], .int .i64 0, .int .i64 0]) ∧ w'.ownsRow w.heap.size 23 1 vW S.pieces.length (Asm.wordsTo S S.pieces.length) ∧ w'.ownsRow w.heap.size 42 2 vL S.labels.length (S.labels.flatMap Asm.labelCells)) ∧ Below w.heap.size w w' := by
 have hmf : ∀ (fn : Fn) (first cap : Array Value) (w : World), (Instr.makeFunc fn first cap).run Tryz.prog w = .ok (.func fn first cap) w := fun _ _ _ _ => rfl
 have hmm := @run_makeMap Tryz.prog
 have hsf : ∀ (a : Addr) (fn : Fn) (first cap : Array Value) (m : Mode) (w : World), (store a (.func fn first cap) m).run Tryz.prog w = stored Tryz.prog w a (.func fn first cap) m := fun a _ _ _ m w => run_store Tryz.prog w a _ m rfl
 have hsz : (⟨src.toArray⟩ : ByteArray).size = src.length := by simp [ByteArray.size]
 refine (callsIn_wide (n := 8)).1 ?_
 refine callsIn_of_wp_marks Tryz.func13 rfl trivial ?_ rfl
 simp only [Tryz.ntmps13, List.size_toArray, List.length_cons, List.length_nil, Nat.reduceAdd, Nat.reduceSub, Array.replicate_succ, Array.replicate_zero, List.push_toArray, List.append_toArray, List.nil_append, List.cons_append]
 refine wpIn_wide.2 ?_
 go_wp2_with fail
 refine (splitseq_calls src _).mono ?_
 rintro e W9 ⟨rfl, rfl⟩
 have hh0 := heap_alloc_new w (.cells #[.int .u32 0, .slice none 0 0, .slice none 0 0] 27)
 have F0 := (blk_alloc (.cells #[.int .i64 0] 3) (blk_alloc (.cells #[.string ⟨#[10]⟩] 9) (blk_alloc (.cells #[.string ⟨src.toArray⟩] 9) (blk_alloc (.cells #[.pointer (some ⟨w.heap.size + 1 + 1 + 1 + 1, 0, none⟩)] 70) (blk_alloc (.cells #[.int .i64 0, .slice none 0 0, .int .i64 0, .bool false, .int .i64 0, .slice none 0 0, .slice none 0 0, .map (some (w.heap.size + 1 + 1 + 1)), .slice none 0 0] 75) (blk_alloc (.map #[] 0) (blk_alloc (.cells #[.int .i64 0] 3) (blk_alloc (.cells #[.int .i64 0] 35) hh0))))))))
 clear hh0
 have hh1 := heap_alloc_new (w.alloc (.cells #[.int .u32 0, .slice none 0 0, .slice none 0 0] 27)) (.cells #[.int .i64 0] 35)
 rw [alloc_size] at hh1
 have F1 := (blk_alloc (.cells #[.int .i64 0] 3) (blk_alloc (.cells #[.string ⟨#[10]⟩] 9) (blk_alloc (.cells #[.string ⟨src.toArray⟩] 9) (blk_alloc (.cells #[.pointer (some ⟨w.heap.size + 1 + 1 + 1 + 1, 0, none⟩)] 70) (blk_alloc (.cells #[.int .i64 0, .slice none 0 0, .int .i64 0, .bool false, .int .i64 0, .slice none 0 0, .slice none 0 0, .map (some (w.heap.size + 1 + 1 + 1)), .slice none 0 0] 75) (blk_alloc (.map #[] 0) (blk_alloc (.cells #[.int .i64 0] 3) hh1)))))))
 clear hh1
 have hh2 := heap_alloc_new ((w.alloc (.cells #[.int .u32 0, .slice none 0 0, .slice none 0 0] 27)).alloc (.cells #[.int .i64 0] 35)) (.cells #[.int .i64 0] 3)
 rw [alloc_size, alloc_size] at hh2
 have F2 := (blk_alloc (.cells #[.int .i64 0] 3) (blk_alloc (.cells #[.string ⟨#[10]⟩] 9) (blk_alloc (.cells #[.string ⟨src.toArray⟩] 9) (blk_alloc (.cells #[.pointer (some ⟨w.heap.size + 1 + 1 + 1 + 1, 0, none⟩)] 70) (blk_alloc (.cells #[.int .i64 0, .slice none 0 0, .int .i64 0, .bool false, .int .i64 0, .slice none 0 0, .slice none 0 0, .map (some (w.heap.size + 1 + 1 + 1)), .slice none 0 0] 75) (blk_alloc (.map #[] 0) hh2))))))
 clear hh2
 have hh3 := heap_alloc_new (((w.alloc (.cells #[.int .u32 0, .slice none 0 0, .slice none 0 0] 27)).alloc (.cells #[.int .i64 0] 35)).alloc (.cells #[.int .i64 0] 3)) (.map #[] 0)
 rw [alloc_size, alloc_size, alloc_size] at hh3
 have F3 := (blk_alloc (.cells #[.int .i64 0] 3) (blk_alloc (.cells #[.string ⟨#[10]⟩] 9) (blk_alloc (.cells #[.string ⟨src.toArray⟩] 9) (blk_alloc (.cells #[.pointer (some ⟨w.heap.size + 1 + 1 + 1 + 1, 0, none⟩)] 70) (blk_alloc (.cells #[.int .i64 0, .slice none 0 0, .int .i64 0, .bool false, .int .i64 0, .slice none 0 0, .slice none 0 0, .map (some (w.heap.size + 1 + 1 + 1)), .slice none 0 0] 75) hh3)))))
 clear hh3
 have hh4 := heap_alloc_new ((((w.alloc (.cells #[.int .u32 0, .slice none 0 0, .slice none 0 0] 27)).alloc (.cells #[.int .i64 0] 35)).alloc (.cells #[.int .i64 0] 3)).alloc (.map #[] 0)) (.cells #[.int .i64 0, .slice none 0 0, .int .i64 0, .bool false, .int .i64 0, .slice none 0 0, .slice none 0 0, .map (some (w.heap.size + 1 + 1 + 1)), .slice none 0 0] 75)
 rw [alloc_size, alloc_size, alloc_size, alloc_size] at hh4
 have F4 := (blk_alloc (.cells #[.int .i64 0] 3) (blk_alloc (.cells #[.string ⟨#[10]⟩] 9) (blk_alloc (.cells #[.string ⟨src.toArray⟩] 9) (blk_alloc (.cells #[.pointer (some ⟨w.heap.size + 1 + 1 + 1 + 1, 0, none⟩)] 70) hh4))))
 clear hh4
 have hh5 := heap_alloc_new (((((w.alloc (.cells #[.int .u32 0, .slice none 0 0, .slice none 0 0] 27)).alloc (.cells #[.int .i64 0] 35)).alloc (.cells #[.int .i64 0] 3)).alloc (.map #[] 0)).alloc (.cells #[.int .i64 0, .slice none 0 0, .int .i64 0, .bool false, .int .i64 0, .slice none 0 0, .slice none 0 0, .map (some (w.heap.size + 1 + 1 + 1)), .slice none 0 0] 75)) (.cells #[.pointer (some ⟨w.heap.size + 1 + 1 + 1 + 1, 0, none⟩)] 70)
 rw [alloc_size, alloc_size, alloc_size, alloc_size, alloc_size] at hh5
 have F5 := (blk_alloc (.cells #[.int .i64 0] 3) (blk_alloc (.cells #[.string ⟨#[10]⟩] 9) (blk_alloc (.cells #[.string ⟨src.toArray⟩] 9) hh5)))
 clear hh5
 have hh6 := heap_alloc_new ((((((w.alloc (.cells #[.int .u32 0, .slice none 0 0, .slice none 0 0] 27)).alloc (.cells #[.int .i64 0] 35)).alloc (.cells #[.int .i64 0] 3)).alloc (.map #[] 0)).alloc (.cells #[.int .i64 0, .slice none 0 0, .int .i64 0, .bool false, .int .i64 0, .slice none 0 0, .slice none 0 0, .map (some (w.heap.size + 1 + 1 + 1)), .slice none 0 0] 75)).alloc (.cells #[.pointer (some ⟨w.heap.size + 1 + 1 + 1 + 1, 0, none⟩)] 70)) (.cells #[.string ⟨src.toArray⟩] 9)
 rw [alloc_size, alloc_size, alloc_size, alloc_size, alloc_size, alloc_size] at hh6
 have F6 := (blk_alloc (.cells #[.int .i64 0] 3) (blk_alloc (.cells #[.string ⟨#[10]⟩] 9) hh6))
 clear hh6
 have hh7 := heap_alloc_new (((((((w.alloc (.cells #[.int .u32 0, .slice none 0 0, .slice none 0 0] 27)).alloc (.cells #[.int .i64 0] 35)).alloc (.cells #[.int .i64 0] 3)).alloc (.map #[] 0)).alloc (.cells #[.int .i64 0, .slice none 0 0, .int .i64 0, .bool false, .int .i64 0, .slice none 0 0, .slice none 0 0, .map (some (w.heap.size + 1 + 1 + 1)), .slice none 0 0] 75)).alloc (.cells #[.pointer (some ⟨w.heap.size + 1 + 1 + 1 + 1, 0, none⟩)] 70)).alloc (.cells #[.string ⟨src.toArray⟩] 9)) (.cells #[.string ⟨#[10]⟩] 9)
 rw [alloc_size, alloc_size, alloc_size, alloc_size, alloc_size, alloc_size, alloc_size] at hh7
 have F7 := (blk_alloc (.cells #[.int .i64 0] 3) hh7)
 clear hh7
 have hh8 := heap_alloc_new ((((((((w.alloc (.cells #[.int .u32 0, .slice none 0 0, .slice none 0 0] 27)).alloc (.cells #[.int .i64 0] 35)).alloc (.cells #[.int .i64 0] 3)).alloc (.map #[] 0)).alloc (.cells #[.int .i64 0, .slice none 0 0, .int .i64 0, .bool false, .int .i64 0, .slice none 0 0, .slice none 0 0, .map (some (w.heap.size + 1 + 1 + 1)), .slice none 0 0] 75)).alloc (.cells #[.pointer (some ⟨w.heap.size + 1 + 1 + 1 + 1, 0, none⟩)] 70)).alloc (.cells #[.string ⟨src.toArray⟩] 9)).alloc (.cells #[.string ⟨#[10]⟩] 9)) (.cells #[.int .i64 0] 3)
 rw [alloc_size, alloc_size, alloc_size, alloc_size, alloc_size, alloc_size, alloc_size, alloc_size] at hh8
 have F8 := hh8
 clear hh8
 have hmap := (World.ownsMap_made (((w.alloc (.cells #[.int .u32 0, .slice none 0 0, .slice none 0 0] 27)).alloc (.cells #[.int .i64 0] 35)).alloc (.cells #[.int .i64 0] 3)) Tryz.prog 9 (plainElem (H := Unit) Tryz.prog 2))
 have Fm := (((((hmap.alloc (.cells #[.int .i64 0, .slice none 0 0, .int .i64 0, .bool false, .int .i64 0, .slice none 0 0, .slice none 0 0, .map (some (w.heap.size + 1 + 1 + 1)), .slice none 0 0] 75)).alloc (.cells #[.pointer (some ⟨w.heap.size + 1 + 1 + 1 + 1, 0, none⟩)] 70)).alloc (.cells #[.string ⟨src.toArray⟩] 9)).alloc (.cells #[.string ⟨#[10]⟩] 9)).alloc (.cells #[.int .i64 0] 3))
 rw [alloc_size, alloc_size, alloc_size] at Fm
 clear hmap
 have hsz9 : ((((((((((w.alloc (.cells #[.int .u32 0, .slice none 0 0, .slice none 0 0] 27)).alloc (.cells #[.int .i64 0] 35)).alloc (.cells #[.int .i64 0] 3)).alloc (.map #[] 0)).alloc (.cells #[.int .i64 0, .slice none 0 0, .int .i64 0, .bool false, .int .i64 0, .slice none 0 0, .slice none 0 0, .map (some (w.heap.size + 1 + 1 + 1)), .slice none 0 0] 75)).alloc (.cells #[.pointer (some ⟨w.heap.size + 1 + 1 + 1 + 1, 0, none⟩)] 70)).alloc (.cells #[.string ⟨src.toArray⟩] 9)).alloc (.cells #[.string ⟨#[10]⟩] 9)).alloc (.cells #[.int .i64 0] 3)) : World).heap.size = w.heap.size + 1 + 1 + 1 + 1 + 1 + 1 + 1 + 1 + 1 := by simp only [alloc_size]
 have hB9 : Below w.heap.size w (((((((((w.alloc (.cells #[.int .u32 0, .slice none 0 0, .slice none 0 0] 27)).alloc (.cells #[.int .i64 0] 35)).alloc (.cells #[.int .i64 0] 3)).alloc (.map #[] 0)).alloc (.cells #[.int .i64 0, .slice none 0 0, .int .i64 0, .bool false, .int .i64 0, .slice none 0 0, .slice none 0 0, .map (some (w.heap.size + 1 + 1 + 1)), .slice none 0 0] 75)).alloc (.cells #[.pointer (some ⟨w.heap.size + 1 + 1 + 1 + 1, 0, none⟩)] 70)).alloc (.cells #[.string ⟨src.toArray⟩] 9)).alloc (.cells #[.string ⟨#[10]⟩] 9)).alloc (.cells #[.int .i64 0] 3)) := below_alloc' (below_alloc' (below_alloc' (below_alloc' (below_alloc' (below_alloc' (below_alloc' (below_alloc' (below_alloc' (Below.refl _ _) _) _) _) _) _) _) _) _) _
 generalize (((((((((w.alloc (.cells #[.int .u32 0, .slice none 0 0, .slice none 0 0] 27)).alloc (.cells #[.int .i64 0] 35)).alloc (.cells #[.int .i64 0] 3)).alloc (.map #[] 0)).alloc (.cells #[.int .i64 0, .slice none 0 0, .int .i64 0, .bool false, .int .i64 0, .slice none 0 0, .slice none 0 0, .map (some (w.heap.size + 1 + 1 + 1)), .slice none 0 0] 75)).alloc (.cells #[.pointer (some ⟨w.heap.size + 1 + 1 + 1 + 1, 0, none⟩)] 70)).alloc (.cells #[.string ⟨src.toArray⟩] 9)).alloc (.cells #[.string ⟨#[10]⟩] 9)).alloc (.cells #[.int .i64 0] 3)) = W at F0 F1 F2 F3 F4 F5 F6 F7 F8 Fm hsz9 hB9 ⊢
 have hP0 : Asm.Par ⟨w.heap.size, w.heap.size + 1 + 1 + 1 + 1, w.heap.size + 1 + 1 + 1, .slice none 0 0, .slice none 0 0, .slice none 0 0, .slice none 0 0, []⟩ (st 0) W := by
  rw [h0]
  exact ⟨F4, ⟨none, 0, rfl, by simp [Asm.init], by decide, fun h => absurd rfl h⟩, Fm, World.ownsRow_nil _ _ _ _, rfl, (fun j x f h1 h2 => by simp [Asm.init] at h1), List.nodup_nil, (fun p hp => by cases hp), World.ownsRow_nil _ _ _ _, World.ownsRow_nil _ _ _ _, by show w.heap.size ≤ w.heap.size + 1 + 1 + 1 + 1; omega, by show w.heap.size ≤ w.heap.size + 1 + 1 + 1; omega⟩
 obtain ⟨L, hLd⟩ : ∃ L : List (Nat × Obj), L = [(w.heap.size, (.cells #[.int .u32 0, .slice none 0 0, .slice none 0 0] 27)), (w.heap.size + 1, (.cells #[.int .i64 0] 35)), (w.heap.size + 1 + 1, (.cells #[.int .i64 0] 3)), (w.heap.size + 1 + 1 + 1 + 1 + 1, (.cells #[.pointer (some ⟨w.heap.size + 1 + 1 + 1 + 1, 0, none⟩)] 70)), (w.heap.size + 1 + 1 + 1 + 1 + 1 + 1 + 1, (.cells #[.string ⟨#[10]⟩] 9)), (w.heap.size + 1 + 1 + 1 + 1 + 1 + 1 + 1 + 1, (.cells #[.int .i64 0] 3))] := ⟨_, rfl⟩
 have hLc : ∀ p ∈ L, ∃ cs t fr, p.2 = .cells cs t fr := by rw [hLd]; intro p hp; simp at hp; rcases hp with rfl | rfl | rfl | rfl | rfl | rfl <;> exact ⟨_, _, _, rfl⟩
 have hLb : ∀ p ∈ L, p.1 ≠ w.heap.size + 1 + 1 + 1 + 1 + 1 + 1 := by rw [hLd]; intro p hp; simp at hp; rcases hp with rfl | rfl | rfl | rfl | rfl | rfl <;> (simp only [ne_eq]; omega)
 have hno : ∀ g, g ≠ w.heap.size + 1 + 1 + 1 + 1 → g ≠ w.heap.size + 1 + 1 + 1 → ¬ Asm.PB.owns ⟨w.heap.size, w.heap.size + 1 + 1 + 1 + 1, w.heap.size + 1 + 1 + 1, .slice none 0 0, .slice none 0 0, .slice none 0 0, .slice none 0 0, []⟩ g := by
  rintro g h4 h3 (e | e | e | e | e | ⟨p, hp, _⟩)
  · exact h4 e
  · exact h3 e
  · simp [Value.ownBlock] at e
  · simp [Value.ownBlock] at e
  · simp [Value.ownBlock] at e
  · cases hp
 have hK0 : Asm.Keep ⟨w.heap.size, w.heap.size + 1 + 1 + 1 + 1, w.heap.size + 1 + 1 + 1, .slice none 0 0, .slice none 0 0, .slice none 0 0, .slice none 0 0, []⟩ L W := by
  rw [hLd]; intro p hp; simp at hp
  rcases hp with rfl | rfl | rfl | rfl | rfl | rfl
  · exact ⟨F0, hno _ (by omega) (by omega)⟩
  · exact ⟨F1, hno _ (by omega) (by omega)⟩
  · exact ⟨F2, hno _ (by omega) (by omega)⟩
  · exact ⟨F5, hno _ (by omega) (by omega)⟩
  · exact ⟨F7, hno _ (by omega) (by omega)⟩
  · exact ⟨F8, hno _ (by omega) (by omega)⟩
 have hI0 : Asm.RI w st L (w.heap.size + 1 + 1 + 1 + 1 + 1 + 1) (w.heap.size + 1 + 1 + 1 + 1) (w.heap.size + 1 + 1 + 1) [] W := ⟨⟨_, hP0, rfl, rfl, rfl, hK0, hno _ (by omega) (by omega)⟩, ⟨_, F6⟩, hB9⟩
 have hseq := split_seq 7 (by omega) src (by omega) (w.heap.size + 1 + 1 + 1 + 1 + 1 + 1 + 1) (w.heap.size + 1 + 1 + 1 + 1 + 1 + 1) (w.heap.size + 1 + 1 + 1 + 1 + 1 + 1 + 1 + 1) (by omega) (by omega) W F7 F6 F8
 simp only [alloc_size]
 go_wp2_with fail
 refine (wpIn_wide (n := 8)).1 ?_
 refine wpIn_rangeFunc_cell (F := Fence.wide) (n := 8) rfl (by omega) (gf := 84) (lb := #[.pointer (some ⟨w.heap.size + 1 + 1 + 1 + 1 + 1 + 1 + 1, 0, none⟩), .pointer (some ⟨w.heap.size + 1 + 1 + 1 + 1 + 1 + 1, 0, none⟩), .pointer (some ⟨w.heap.size + 1 + 1 + 1 + 1 + 1 + 1 + 1 + 1, 0, none⟩)]) rfl trivial (enters_of Tryz.func84 (by kernel_rfl) rfl) hseq (by omega)
  (fun h k => ⟨k.1.trans h.1, k.2.1.trans h.2.1, k.2.2.trans h.2.2⟩) (fun W' l o o' hl _ _ _ => ⟨World.putObj_heap_other (by omega), World.putObj_heap_other (by omega), World.putObj_heap_other (by omega)⟩) (fun _ => rfl)
  (Asm.RI w st L (w.heap.size + 1 + 1 + 1 + 1 + 1 + 1) (w.heap.size + 1 + 1 + 1 + 1) (w.heap.size + 1 + 1 + 1)) (Asm.RI.own hLc (by omega) (by omega)) (fun pre W1 v h => h.set hLb (by omega) v) hI0
  (fun x => { tmps := #[.string ⟨src.toArray⟩, undef, .pointer (some ⟨w.heap.size, 0, none⟩), .pointer (some ⟨w.heap.size + 1, 0, none⟩), .pointer (some ⟨w.heap.size + 1 + 1, 0, none⟩), .pointer (some ⟨w.heap.size + 1 + 1 + 1 + 1 + 1, 0, none⟩), .string ⟨x.toArray⟩, undef, undef, .string ⟨src.toArray⟩, .int .i64 (src.length : Int), .bool (decide ((20000 : Int) < (src.length : Int))), undef,
   .func (.func 25) #[] #[.pointer (some ⟨w.heap.size, 0, none⟩), .pointer (some ⟨w.heap.size + 1, 0, none⟩), .pointer (some ⟨w.heap.size + 1 + 1, 0, none⟩)], .map (some (w.heap.size + 1 + 1 + 1)),
   .agg #[.int .i64 0, .slice none 0 0, .int .i64 0, .bool false, .int .i64 0, .slice none 0 0, .slice none 0 0, .map (some (w.heap.size + 1 + 1 + 1)), .slice none 0 0], .pointer (some ⟨w.heap.size + 1 + 1 + 1 + 1, 0, none⟩), .string ⟨src.toArray⟩,
   .func (.func 84) #[] #[.pointer (some ⟨w.heap.size + 1 + 1 + 1 + 1 + 1 + 1 + 1, 0, none⟩), .pointer (some ⟨w.heap.size + 1 + 1 + 1 + 1 + 1 + 1, 0, none⟩), .pointer (some ⟨w.heap.size + 1 + 1 + 1 + 1 + 1 + 1 + 1 + 1, 0, none⟩)], .string ⟨x.toArray⟩, undef, undef, undef, undef, undef, undef, undef, undef, undef, undef, undef, undef, undef, undef, undef, undef, undef, undef, undef, undef, undef, undef, undef, undef, undef, undef, undef, undef, undef, undef, undef, undef, undef, undef, undef, undef, undef, undef], defers := [] }) ?assign ?body ?done
 case assign =>
  intro l x W K hK
  gi_wp2
  exact hK
 case body =>
  intro l pre x W1 hI hpre
  have hlt : pre.length < (Asm.lines src).length := by have := hpre.length_le; simp at this; omega
  have hx : (Asm.lines src)[pre.length] = x := by
   obtain ⟨r, hr⟩ := hpre
   simp [← hr]
  have hone := hst pre.length hlt
  rw [hx] at hone
  obtain ⟨B, h1, h2, h3, h4, h5, h6⟩ := hI.par
  have hc := hone B W1 h1
  rw [h2] at hc
  have hv := (h5 (w.heap.size + 1 + 1 + 1 + 1 + 1, (.cells #[.pointer (some ⟨w.heap.size + 1 + 1 + 1 + 1, 0, none⟩)] 70)) (by rw [hLd]; simp)).1
  have cv : W1.cell? ⟨w.heap.size + 1 + 1 + 1 + 1 + 1, 0, none⟩ = some (.pointer (some ⟨w.heap.size + 1 + 1 + 1 + 1, 0, none⟩)) := (blk_facts hv).1 0
  gi_wp2_with (refine ⟨trivial, ?_⟩; gi_at_call 27; refine (CallsIn.inRound l (callsIn_wide.2 hc)).mono ?_; rintro e W2 ⟨rfl, B2, hP2, hs2⟩)
  have kept : ∀ p ∈ L, W2.heap[p.1]? = W1.heap[p.1]? := fun p hp => (hs2.keep (h5 p hp).1 (h5 p hp).2).1.trans (h5 p hp).1.symm
  obtain ⟨cs, hcs⟩ := hI.cell
  have hri : Asm.RI w st L (w.heap.size + 1 + 1 + 1 + 1 + 1 + 1) (w.heap.size + 1 + 1 + 1 + 1) (w.heap.size + 1 + 1 + 1) (pre ++ [x]) W2 := hI.step h1 h2 h3 h4 h5 h6 hP2 hs2
  refine ⟨Asm.Step.keepsFrom h1 hs2 (by omega), ⟨kept (w.heap.size + 1 + 1 + 1 + 1 + 1 + 1 + 1, (.cells #[.string ⟨#[10]⟩] 9)) (by rw [hLd]; simp), (hs2.keep hcs h6).1.trans hcs.symm, kept (w.heap.size + 1 + 1 + 1 + 1 + 1 + 1 + 1 + 1, (.cells #[.int .i64 0] 3)) (by rw [hLd]; simp)⟩, ?_⟩
  rw [← hLd]
  exact hri
 case done =>
  intro D W1 hD hI hdf
  obtain ⟨B, h1, h2, h3, h4, h5, h6⟩ := hI.par
  rw [hS] at h1
  have km := (h5 (w.heap.size, (.cells #[.int .u32 0, .slice none 0 0, .slice none 0 0] 27)) (by rw [hLd]; simp))
  have ke := (h5 (w.heap.size + 1, (.cells #[.int .i64 0] 35)) (by rw [hLd]; simp))
  have kl := (h5 (w.heap.size + 1 + 1, (.cells #[.int .i64 0] 3)) (by rw [hLd]; simp))
  have kv := (h5 (w.heap.size + 1 + 1 + 1 + 1 + 1, (.cells #[.pointer (some ⟨w.heap.size + 1 + 1 + 1 + 1, 0, none⟩)] 70)) (by rw [hLd]; simp))
  have hbel := hI.below
  clear h5 h6 hI hseq hI0 hK0 hno hLb hLc hLd F0 F1 F2 F3 F4 F5 F6 F7 F8 Fm
  obtain ⟨dm, gm⟩ := blk_facts km.1
  have cv : W1.cell? ⟨w.heap.size + 1 + 1 + 1 + 1 + 1, 0, none⟩ = some (.pointer (some ⟨w.heap.size + 1 + 1 + 1 + 1, 0, none⟩)) := (blk_facts kv.1).1 0
  have co : W1.cell? ⟨w.heap.size + 1 + 1 + 1 + 1, 2, none⟩ = some (.int .i64 S.origin) := by have h := (blk_facts h1.own).1 2; rw [h2] at h; exact h
  have cl : W1.cell? ⟨w.heap.size + 1 + 1 + 1 + 1, 6, none⟩ = some B.vl := by have h := (blk_facts h1.own).1 6; rw [h2] at h; exact h
  have cp : W1.cell? ⟨w.heap.size + 1 + 1 + 1 + 1, 5, none⟩ = some B.vp := by have h := (blk_facts h1.own).1 5; rw [h2] at h; exact h
  have zp : w.heap.size + 1 + 1 + 1 + 1 < W1.heap.size := h2 ▸ blk_size h1.own
  have m0 : W1.cell? ⟨w.heap.size, 0, none⟩ = some (.int .u32 0) := dm 0
  have m1 : W1.cell? ⟨w.heap.size, 1, none⟩ = some (.slice none 0 0) := dm 1
  have m2 : W1.cell? ⟨w.heap.size, 2, none⟩ = some (.slice none 0 0) := dm 2
  have zm := blk_size km.1
  have cvd : W1.drew.cell? ⟨w.heap.size + 1 + 1 + 1 + 1 + 1, 0, none⟩ = some (.pointer (some ⟨w.heap.size + 1 + 1 + 1 + 1, 0, none⟩)) := cv
  have cod : W1.drew.cell? ⟨w.heap.size + 1 + 1 + 1 + 1, 2, none⟩ = some (.int .i64 S.origin) := co
  have cld : W1.drew.cell? ⟨w.heap.size + 1 + 1 + 1 + 1, 6, none⟩ = some B.vl := cl
  obtain ⟨lp, lc, hvl⟩ := Asm.row_slice h1.labels
  rw [hvl] at cl cld
  dsimp only
  go_wp2_with fail
  go_region
  have hvp' := Asm.row_slice h1.pieces
  obtain ⟨pp, pc, hvp⟩ := hvp'
  rw [hvp] at cp
  have hn0 : B.n0 = w.heap.size := h4
  obtain ⟨O, hO⟩ : ∃ O, S.origin % 4294967296 = O := ⟨_, rfl⟩
  rw [hO]
  have hP3 := ((h1.setOther km.1 (by decide) km.2 0 (.int .u32 O)).setOther (setCell_row km.1 0 (.int .u32 O) (cs' := #[.int .u32 O, .slice none 0 0, .slice none 0 0]) rfl) (by decide) km.2 1 (.slice none 0 0)).setOther (setCell_row (setCell_row km.1 0 (.int .u32 O) (cs' := #[.int .u32 O, .slice none 0 0, .slice none 0 0]) rfl) 1 (.slice none 0 0) (cs' := #[.int .u32 O, .slice none 0 0, .slice none 0 0]) rfl) (by decide) km.2 2 (.slice lp S.labels.length lc)
  have Lm := setCell_row (setCell_row (setCell_row km.1 0 (.int .u32 O) (cs' := #[.int .u32 O, .slice none 0 0, .slice none 0 0]) rfl) 1 (.slice none 0 0) (cs' := #[.int .u32 O, .slice none 0 0, .slice none 0 0]) rfl) 2 (.slice lp S.labels.length lc) (cs' := #[.int .u32 O, .slice none 0 0, .slice lp S.labels.length lc]) rfl
  have far3 : ∀ {g : Nat} {o : Obj}, W1.heap[g]? = some o → g ≠ w.heap.size → (((W1.setCell ⟨w.heap.size, 0, none⟩ (.int .u32 O)).setCell ⟨w.heap.size, 1, none⟩ (.slice none 0 0)).setCell ⟨w.heap.size, 2, none⟩ (.slice lp S.labels.length lc)).heap[g]? = some o := fun hg hne => setCell_far (setCell_far (setCell_far hg hne 0 _) hne 1 _) hne 2 _
  have Le := far3 ke.1 (by omega)
  have Ll := far3 kl.1 (by omega)
  have Lv := far3 kv.1 (by omega)
  have Lb := ((hbel.setCell (p := ⟨w.heap.size, 0, none⟩) (Nat.le_refl _) (.int .u32 O)).setCell (p := ⟨w.heap.size, 1, none⟩) (Nat.le_refl _) (.slice none 0 0)).setCell (p := ⟨w.heap.size, 2, none⟩) (Nat.le_refl _) (.slice lp S.labels.length lc)
  have Ld := far3 (g := D) hdf (by omega)
  have cp3 : (((W1.setCell ⟨w.heap.size, 0, none⟩ (.int .u32 O)).setCell ⟨w.heap.size, 1, none⟩ (.slice none 0 0)).setCell ⟨w.heap.size, 2, none⟩ (.slice lp S.labels.length lc)).cell? ⟨w.heap.size + 1 + 1 + 1 + 1, 5, none⟩ = some (.slice pp S.pieces.length pc) := by have h := (blk_facts hP3.own).1 5; rw [h2] at h; exact h.trans (by rw [← hvp]; rfl)
  have cv3 : (((W1.setCell ⟨w.heap.size, 0, none⟩ (.int .u32 O)).setCell ⟨w.heap.size, 1, none⟩ (.slice none 0 0)).setCell ⟨w.heap.size, 2, none⟩ (.slice lp S.labels.length lc)).cell? ⟨w.heap.size + 1 + 1 + 1 + 1 + 1, 0, none⟩ = some (.pointer (some ⟨w.heap.size + 1 + 1 + 1 + 1, 0, none⟩)) := (blk_facts Lv).1 0
  clear far3
  generalize ((W1.setCell ⟨w.heap.size, 0, none⟩ (.int .u32 O)).setCell ⟨w.heap.size, 1, none⟩ (.slice none 0 0)).setCell ⟨w.heap.size, 2, none⟩ (.slice lp S.labels.length lc) = Z0 at hP3 Lm Le Ll Lv Lb Ld cp3 cv3 ⊢
  have hzd : Below Z0.heap.size Z0 Z0.drew := below_drewN' (Below.refl _ _) 1
  obtain ⟨Z, hZ⟩ : ∃ Z, Z0.drew = Z := ⟨_, rfl⟩
  have cpz : Z.cell? ⟨w.heap.size + 1 + 1 + 1 + 1, 5, none⟩ = some (.slice pp S.pieces.length pc) := hZ ▸ cp3
  have cvz : Z.cell? ⟨w.heap.size + 1 + 1 + 1 + 1 + 1, 0, none⟩ = some (.pointer (some ⟨w.heap.size + 1 + 1 + 1 + 1, 0, none⟩)) := hZ ▸ cv3
  have hran : Asm.ran S 0 S.line = S := by
   have e1 : (S.pieces.take 0).map (Asm.Piece.done S) ++ S.pieces.drop 0 = S.pieces := by simp
   unfold Asm.ran
   rw [e1, ← hSt]
  have hLI : Asm.LI w S B O 0 Z := by
   rw [hZ] at hzd
   refine ⟨⟨S.line, hran ▸ hP3.kept hzd⟩, ⟨.slice none 0 0, by rw [hvl]; exact blk_keep hzd Lm, World.ownsRow_nil _ _ _ _⟩, blk_keep hzd Le, blk_keep hzd Ll, by rw [h2]; exact blk_keep hzd Lv, Lb.trans (hzd.mono Lb.size)⟩
  have zpz : w.heap.size + 1 + 1 + 1 + 1 < Z.heap.size := by have := hLI.below.size; obtain ⟨ln, hq⟩ := hLI.par; exact h2 ▸ blk_size hq.own
  have Ldz : Z.heap[D]? = some (.deferred (some [])) := by rw [← hZ]; exact Ld
  rw [hZ]
  go_wp2_with fail
  clear cpz cvz zpz cp3 cv3 hP3 Lm Le Ll Lv Lb Ld hzd hZ hran cvd cod cld cv co cl cp m0 m1 m2 dm gm zm zp h1 h3
  have ho0 := km.2
  have ho1 := ke.2
  have ho2 := kl.2
  have ho5 := kv.2
  clear km ke kl kv
  go_loopw [38] (fun v wr => ∃ k : Nat, v = .int .i64 k ∧ k ≤ S.pieces.length ∧ Asm.LI w S B O k wr ∧ wr.heap[D]? = some (.deferred (some []))) (fun v _ => S.pieces.length - (intOf v).toNat)
  case atStart => exact ⟨0, rfl, Nat.zero_le _, hLI, Ldz⟩
  case round =>
   clear hLI Ldz
   obtain ⟨k, rfl, hk, hLI, Ldz⟩ := hrel
   obtain ⟨line, hP⟩ := hLI.par
   obtain ⟨vW, hm, hW⟩ := hLI.m
   have hplb := hb.pieces
   obtain ⟨wp, wc, rfl⟩ := Asm.row_slice hW
   obtain ⟨dm, gm⟩ := blk_facts hm
   obtain ⟨dv, _⟩ := blk_facts hLI.v
   obtain ⟨db, gb⟩ := blk_facts hP.own
   have cv : wr.cell? ⟨w.heap.size + 1 + 1 + 1 + 1 + 1, 0, none⟩ = some (.pointer (some ⟨w.heap.size + 1 + 1 + 1 + 1, 0, none⟩)) := by have h := dv 0; rw [h2] at h; exact h
   have zv := blk_size hLI.v
   have zm := blk_size hm
   have m0 : wr.cell? ⟨w.heap.size, 0, none⟩ = some (.int .u32 O) := dm 0
   have m1 : wr.cell? ⟨w.heap.size, 1, none⟩ = some (.slice wp k wc) := dm 1
   have m2 : wr.cell? ⟨w.heap.size, 2, none⟩ = some B.vl := dm 2
   have gm1 : wr.frozen? ⟨w.heap.size, 1, none⟩ = false := gm 1
   have cb0 : wr.cell? ⟨w.heap.size + 1 + 1 + 1 + 1, 0, none⟩ = some (.int .i64 line) := by have h := db 0; rw [h2] at h; exact h
   have gb0 : wr.frozen? ⟨w.heap.size + 1 + 1 + 1 + 1, 0, none⟩ = false := by have h := gb 0; rw [h2] at h; exact h
   have zb : w.heap.size + 1 + 1 + 1 + 1 < wr.heap.size := h2 ▸ blk_size hP.own
   clear dm gm dv db gb
   by_cases hlt : k < S.pieces.length
   · obtain ⟨g, cap, bv, bi, hgv, hg1, hg2, hg3, hfs, p0, p1, p2, kV, kI⟩ := hP.piece (Asm.ran_at S k line hlt)
     rw [Asm.ran_length S k line hk] at hgv hg1
     rw [hvp] at hgv
     injection hgv with q1 q2 q3
     subst q1
     subst q3
     obtain ⟨x, hx⟩ : ∃ x, S.pieces[k] = x := ⟨_, rfl⟩
     rw [hx] at p0 p1 kV kI
     have hxm : x ∈ S.pieces := hx ▸ List.getElem_mem hlt
     have hok := hpo x hxm
     have sg := Asm.setCell_grown wr (w.heap.size + 1 + 1 + 1 + 1) 0 (.int .i64 x.line)
     have hPx : Asm.Par B (Asm.ran S k x.line) (wr.setCell ⟨w.heap.size + 1 + 1 + 1 + 1, 0, none⟩ (.int .i64 x.line)) := by
      have h : Asm.Par B (Asm.ran S k x.line) (wr.setCell ⟨B.b, 0, none⟩ (.int .i64 x.line)) := (hP.set 0 (.int .i64 x.line) B.vt x.line [] (Asm.ran S k line).origin (Asm.ran S k line).placed (Asm.ran S k line).count rfl hP.toks).1
      rw [h2] at h
      exact h
     have bV : Below (wr.setCell ⟨w.heap.size + 1 + 1 + 1 + 1, 0, none⟩ (.int .i64 x.line)).heap.size (wr.setCell ⟨w.heap.size + 1 + 1 + 1 + 1, 0, none⟩ (.int .i64 x.line)) ((wr.setCell ⟨w.heap.size + 1 + 1 + 1 + 1, 0, none⟩ (.int .i64 x.line)).alloc (.cells #[.int .i64 x.line, .int .i64 x.at_, (.func (.func 135) #[] #[.pointer (some ⟨bv, 0, none⟩), .pointer (some ⟨bi, 0, none⟩)])] 82)) := below_alloc' (Below.refl _ _) _
     have toV : ∀ {g : Nat} {o : Obj}, wr.heap[g]? = some o → g ≠ w.heap.size + 1 + 1 + 1 + 1 → ((wr.setCell ⟨w.heap.size + 1 + 1 + 1 + 1, 0, none⟩ (.int .i64 x.line)).alloc (.cells #[.int .i64 x.line, .int .i64 x.at_, (.func (.func 135) #[] #[.pointer (some ⟨bv, 0, none⟩), .pointer (some ⟨bi, 0, none⟩)])] 82)).heap[g]? = some o := fun hg hne => blk_keep bV (setCell_far hg hne 0 _)
     have hPV := hPx.kept bV
     have kVV := toV kV (fun e => by rw [e, ← h2, hP.own] at kV; injection (Option.some.inj kV) with _ q; exact absurd q (by decide))
     have kIV := toV kI (fun e => by rw [e, ← h2, hP.own] at kI; injection (Option.some.inj kI) with _ q; exact absurd q (by decide))
     have hmV := toV hm (by omega)
     have heV := toV hLI.e (by omega)
     have hlV := toV hLI.l (by omega)
     have hvV := toV hLI.v (by omega)
     have hdV := toV Ldz (by omega)
     have hWV : ((wr.setCell ⟨w.heap.size + 1 + 1 + 1 + 1, 0, none⟩ (.int .i64 x.line)).alloc (.cells #[.int .i64 x.line, .int .i64 x.at_, (.func (.func 135) #[] #[.pointer (some ⟨bv, 0, none⟩), .pointer (some ⟨bi, 0, none⟩)])] 82)).ownsRow w.heap.size 23 1 (.slice wp k wc) k (Asm.wordsTo S k) := ownsRow_below' (hW.kept sg (.inr fun e => by
      obtain ⟨c, hc⟩ := Asm.row_type hW e
      rw [← h2, hP.own] at hc
      injection (Option.some.inj hc) with _ q
      exact absurd q (by decide))) bV
     have hbV : Below w.heap.size w ((wr.setCell ⟨w.heap.size + 1 + 1 + 1 + 1, 0, none⟩ (.int .i64 x.line)).alloc (.cells #[.int .i64 x.line, .int .i64 x.at_, (.func (.func 135) #[] #[.pointer (some ⟨bv, 0, none⟩), .pointer (some ⟨bi, 0, none⟩)])] 82)) := (hLI.below.setCell (p := ⟨w.heap.size + 1 + 1 + 1 + 1, 0, none⟩) (by show w.heap.size ≤ w.heap.size + 1 + 1 + 1 + 1; omega) _).trans (bV.mono (by have := sg.size; have := hLI.below.size; omega))
     have hLV : Isa.Laid ((wr.setCell ⟨w.heap.size + 1 + 1 + 1 + 1, 0, none⟩ (.int .i64 x.line)).alloc (.cells #[.int .i64 x.line, .int .i64 x.at_, (.func (.func 135) #[] #[.pointer (some ⟨bv, 0, none⟩), .pointer (some ⟨bi, 0, none⟩)])] 82)) := hL.below hbV
     have hgI : w.heap.size ≤ bi := by
      have := hP.fbase _ (List.mem_of_getElem? hfs) bi (by simp)
      omega
     have hlay := hL.lt
     have htab : 4 < w.heap.size := by obtain ⟨u, gr, h⟩ := hL.tab; exact blk_size h
     have henc := fun (Y : World) (hY : Below ((wr.setCell ⟨w.heap.size + 1 + 1 + 1 + 1, 0, none⟩ (.int .i64 x.line)).alloc (.cells #[.int .i64 x.line, .int .i64 x.at_, (.func (.func 135) #[] #[.pointer (some ⟨bv, 0, none⟩), .pointer (some ⟨bi, 0, none⟩)])] 82)).heap.size ((wr.setCell ⟨w.heap.size + 1 + 1 + 1 + 1, 0, none⟩ (.int .i64 x.line)).alloc (.cells #[.int .i64 x.line, .int .i64 x.at_, (.func (.func 135) #[] #[.pointer (some ⟨bv, 0, none⟩), .pointer (some ⟨bi, 0, none⟩)])] 82)) Y) => encoded1_calls B (Asm.ran S k x.line) x.line x.at_ .nilFunc x.ins x.v hok.ins hok.len hok.val hok.at0 hok.at1 hok.v0 hok.v1 hok.n0 hok.n1 hok.enc Y (hLV.below hY) (hPV.kept hY) bv bi bv bi (by omega) (by omega) (blk_keep hY kVV) (blk_keep hY kIV)
     rw [h2] at henc
     obtain ⟨i0, hinf, hz0, hz1, hz2⟩ := info_parts asm_info22
     go_wp2_with fail
     have hxV : ((wr.setCell ⟨w.heap.size + 1 + 1 + 1 + 1, 0, none⟩ (.int .i64 x.line)).alloc (.cells #[.int .i64 x.line, .int .i64 x.at_, (.func (.func 135) #[] #[.pointer (some ⟨bv, 0, none⟩), .pointer (some ⟨bi, 0, none⟩)])] 82)).heap[wr.heap.size]? = some (.cells #[.int .i64 x.line, .int .i64 x.at_, (.func (.func 135) #[] #[.pointer (some ⟨bv, 0, none⟩), .pointer (some ⟨bi, 0, none⟩)])] 82 (0, 0)) := by have h := heap_alloc_new (wr.setCell ⟨w.heap.size + 1 + 1 + 1 + 1, 0, none⟩ (.int .i64 x.line)) (.cells #[.int .i64 x.line, .int .i64 x.at_, (.func (.func 135) #[] #[.pointer (some ⟨bv, 0, none⟩), .pointer (some ⟨bi, 0, none⟩)])] 82); rw [show (wr.setCell ⟨w.heap.size + 1 + 1 + 1 + 1, 0, none⟩ (.int .i64 x.line)).heap.size = wr.heap.size by simp] at h; exact h
     generalize hV : ((wr.setCell ⟨w.heap.size + 1 + 1 + 1 + 1, 0, none⟩ (.int .i64 x.line)).alloc (.cells #[.int .i64 x.line, .int .i64 x.at_, (.func (.func 135) #[] #[.pointer (some ⟨bv, 0, none⟩), .pointer (some ⟨bi, 0, none⟩)])] 82)) = V at hxV hPV kVV kIV hmV heV hlV hvV hdV hWV hbV hLV henc bV ⊢
     clear hV bV sg toV
     have kx : True := trivial
     obtain ⟨dmV, _⟩ := blk_facts hmV
     have n1 : V.cell? ⟨w.heap.size, 1, none⟩ = some (.slice wp k wc) := dmV 1
     have n1d : V.drew.cell? ⟨w.heap.size, 1, none⟩ = some (.slice wp k wc) := n1
     have nv : V.cell? ⟨w.heap.size + 1 + 1 + 1 + 1 + 1, 0, none⟩ = some (.pointer (some ⟨w.heap.size + 1 + 1 + 1 + 1, 0, none⟩)) := by have h := (blk_facts hvV).1 0; rw [h2] at h; exact h
     have nvd : V.drew.cell? ⟨w.heap.size + 1 + 1 + 1 + 1 + 1, 0, none⟩ = some (.pointer (some ⟨w.heap.size + 1 + 1 + 1 + 1, 0, none⟩)) := nv
     obtain ⟨dxV, _⟩ := blk_facts hxV
     have x0 : V.cell? ⟨wr.heap.size, 0, none⟩ = some (.int .i64 x.line) := dxV 0
     have x1 : V.cell? ⟨wr.heap.size, 1, none⟩ = some (.int .i64 x.at_) := dxV 1
     have x2 : V.cell? ⟨wr.heap.size, 2, none⟩ = some (.func (.func 135) #[] #[.pointer (some ⟨bv, 0, none⟩), .pointer (some ⟨bi, 0, none⟩)]) := dxV 2
     have x0d : V.drew.cell? ⟨wr.heap.size, 0, none⟩ = some (.int .i64 x.line) := x0
     have x1d : V.drew.cell? ⟨wr.heap.size, 1, none⟩ = some (.int .i64 x.at_) := x1
     have x2d : V.drew.cell? ⟨wr.heap.size, 2, none⟩ = some (.func (.func 135) #[] #[.pointer (some ⟨bv, 0, none⟩), .pointer (some ⟨bi, 0, none⟩)]) := x2
     clear dmV dxV
     have hVd : Below V.heap.size V V.drew := below_drewN' (Below.refl _ _) 1
     have hencD := henc V.drew hVd
     clear henc
     obtain ⟨wd, hwd⟩ : ∃ wd, Asm.wordAt (Asm.ran S k x.line) x.at_ x.ins x.v = wd := ⟨_, rfl⟩
     obtain ⟨ins', hins'⟩ : ∃ ins' : Asm.Ins, ({ x.ins with imm := Asm.numAt (Asm.ran S k x.line) x.at_ x.ins x.v } : Asm.Ins) = ins' := ⟨_, rfl⟩
     rw [hwd, hins'] at hencD
     have HWD := Lib.hid (And.intro hwd hins')
     clear hwd hins'
     have hk63 : k + 1 ≤ maxLen := by unfold maxLen; omega
     have hk64 : (k + 1) * 4 ≤ 140737488355328 := by omega
     have hnX : wr.heap.size ≠ w.heap.size := by omega
     have hnV : w.heap.size + 1 + 1 + 1 + 1 + 1 ≠ w.heap.size := by omega
     have hvV' := hvV
     rw [h2] at hvV'
     refine wp_region_noPanic ?_
     refine wp_region_held_drew (S := fun w' => w'.cell? ⟨wr.heap.size, 0, none⟩ = some (.int .i64 x.line) ∧ w'.cell? ⟨wr.heap.size, 1, none⟩ = some (.int .i64 x.at_) ∧ w'.cell? ⟨wr.heap.size, 2, none⟩ = some (.func (.func 135) #[] #[.pointer (some ⟨bv, 0, none⟩), .pointer (some ⟨bi, 0, none⟩)]) ∧ w'.cell? ⟨w.heap.size + 1 + 1 + 1 + 1 + 1, 0, none⟩ = some (.pointer (some ⟨w.heap.size + 1 + 1 + 1 + 1, 0, none⟩))) (by kernel_rfl) ⟨x0d, x1d, x2d, nvd⟩ (fun hHeld => ?_)
     refine wpAnyH_take (i := 0) (v := ?v0) rfl (by kernel_rfl) (by kernel_rfl) (by kernel_rfl) (fun _ _ _ h => h) (Or.inl ⟨by rfl, ?hy0⟩) (by assumption) ?rest0
     case hy0 => (intro w' hSw; (try dsimp only at hSw); go_simp; (try with_reducible rfl))
     try simp only [Act.put, List.setIfInBounds_toArray, List.set_cons_zero, List.set_cons_succ]
     refine wpAnyH_take (i := 2) (v := ?v2) rfl (by kernel_rfl) (by kernel_rfl) (by kernel_rfl) (fun _ _ _ h => h) (Or.inl ⟨by rfl, ?hy2⟩) (by assumption) ?rest2
     case hy2 => (intro w' hSw; (try dsimp only at hSw); go_simp; (try with_reducible rfl))
     try simp only [Act.put, List.setIfInBounds_toArray, List.set_cons_zero, List.set_cons_succ]
     refine wpAnyH_take (i := 3) (v := ?v3) rfl (by kernel_rfl) (by kernel_rfl) (by kernel_rfl) (fun _ _ _ h => h) (Or.inl ⟨by rfl, ?hy3⟩) (by assumption) ?rest3
     case hy3 => (intro w' hSw; (try dsimp only at hSw); go_simp; (try with_reducible rfl))
     try simp only [Act.put, List.setIfInBounds_toArray, List.set_cons_zero, List.set_cons_succ]
     refine wpAnyH_take (i := 4) (v := ?v4) rfl (by kernel_rfl) (by kernel_rfl) (by kernel_rfl) (fun _ _ _ h => h) (Or.inl ⟨by rfl, ?hy4⟩) (by assumption) ?rest4
     case hy4 => (intro w' hSw; (try dsimp only at hSw); go_simp; (try with_reducible rfl))
     try simp only [Act.put, List.setIfInBounds_toArray, List.set_cons_zero, List.set_cons_succ]
     refine wpAnyH_take (i := 5) (v := ?v5) rfl (by kernel_rfl) (by kernel_rfl) (by kernel_rfl) (fun _ _ _ h => h) (Or.inl ⟨by rfl, ?hy5⟩) (by assumption) ?rest5
     case hy5 => (intro w' hSw; (try dsimp only at hSw); go_simp; (try with_reducible rfl))
     try simp only [Act.put, List.setIfInBounds_toArray, List.set_cons_zero, List.set_cons_succ]
     refine wpAnyH_ready (rs := [1, 6]) (by kernel_rfl) (by simp) ?_
     refine AllReadyH.cons rfl (fun K hK => ?_) ?_
     · skip
       go_simp
       refine hK.out _ _ (by assumption) (fun hHeld => ?_)
       clear hK K
       try simp only [Act.put, List.setIfInBounds_toArray, List.set_cons_zero, List.set_cons_succ]
       refine wpAnyH_ready (rs := [6]) (by kernel_rfl) (by simp) ?_
       refine AllReadyH.cons rfl (fun K hK => ?_) AllReadyH.nil
       go_simp
       go_at_call 135
       refine hencD.mono ?_
       rintro e y2 ⟨g2, rfl, hg2, hc2, hbi2, ho2⟩
       have ho2' : Asm.Off (· = bi) V y2 := ⟨ho2.os, ho2.tape, ho2.output, ho2.size, ho2.block⟩
       have hWy := ho2'.farRow kIV hWV (by decide)
       have hmy := ho2'.far kIV hmV (by decide)
       have hxy := ho2'.far kIV hxV (by decide)
       have hvy := ho2'.far kIV hvV' (by decide)
       have n1y : y2.cell? ⟨w.heap.size, 1, none⟩ = some (.slice wp k wc) := (blk_facts hmy).1 1
       have x0y : y2.cell? ⟨wr.heap.size, 0, none⟩ = some (.int .i64 x.line) := (blk_facts hxy).1 0
       have x1y : y2.cell? ⟨wr.heap.size, 1, none⟩ = some (.int .i64 x.at_) := (blk_facts hxy).1 1
       have x2y : y2.cell? ⟨wr.heap.size, 2, none⟩ = some (.func (.func 135) #[] #[.pointer (some ⟨bv, 0, none⟩), .pointer (some ⟨bi, 0, none⟩)]) := (blk_facts hxy).1 2
       have nvy : y2.cell? ⟨w.heap.size + 1 + 1 + 1 + 1 + 1, 0, none⟩ = some (.pointer (some ⟨w.heap.size + 1 + 1 + 1 + 1, 0, none⟩)) := (blk_facts hvy).1 0
       go_wp2_with fail
       refine hK.out _ _ ⟨x0y, x1y, x2y, nvy⟩ (fun hHeld => ?_)
       clear hK K
       try simp only [Act.put, List.setIfInBounds_toArray, List.set_cons_zero, List.set_cons_succ]
       refine wpAnyH_ready (rs := [7]) (by kernel_rfl) (by simp) ?_
       refine AllReadyH.cons rfl (fun K hK => ?_) AllReadyH.nil
       refine step_append_lies _ rfl _ _ 24 rfl w.heap.size 23 i0 _ 1 4 Tryz.underlying24 hinf hz0 hz1 hz2 rfl (by decide) _ _ _ rfl hWy ⟨g2, 0, none⟩ 1 1 [.int .u32 wd] rfl rfl (cell_one_at hc2) (by simp [Value.oneCell']) Nat.zero_lt_one hk63 hk64 (Nat.le_of_lt (blk_size hmy)) _ rfl ?_
       intro g6 cap6 w6 hrow6 hgr6 hgb6 hlt6
       have k6 := (hgr6.block w.heap.size (blk_size hmy) (Asm.rowNot hWy hmy (by decide))).trans hmy
       have kx6 := (hgr6.block wr.heap.size (blk_size hxy) (Asm.rowNot hWy hxy (by decide))).trans hxy
       have kv6 := (hgr6.block _ (blk_size hvy) (Asm.rowNot hWy hvy (by decide))).trans hvy
       have n1z : w6.cell? ⟨w.heap.size, 1, none⟩ = some (.slice wp k wc) := (blk_facts k6).1 1
       have f1z : w6.frozen? ⟨w.heap.size, 1, none⟩ = false := (blk_facts k6).2 1
       have x0z : w6.cell? ⟨wr.heap.size, 0, none⟩ = some (.int .i64 x.line) := (blk_facts kx6).1 0
       have x1z : w6.cell? ⟨wr.heap.size, 1, none⟩ = some (.int .i64 x.at_) := (blk_facts kx6).1 1
       have x2z : w6.cell? ⟨wr.heap.size, 2, none⟩ = some (.func (.func 135) #[] #[.pointer (some ⟨bv, 0, none⟩), .pointer (some ⟨bi, 0, none⟩)]) := (blk_facts kx6).1 2
       have nvz : w6.cell? ⟨w.heap.size + 1 + 1 + 1 + 1 + 1, 0, none⟩ = some (.pointer (some ⟨w.heap.size + 1 + 1 + 1 + 1, 0, none⟩)) := (blk_facts kv6).1 0
       refine hK.out _ _ ⟨x0z, x1z, x2z, nvz⟩ (fun hHeld => ?_)
       clear hK K
       try simp only [Act.put, List.setIfInBounds_toArray, List.set_cons_zero, List.set_cons_succ]
       refine wpAnyH_take (i := 8) (v := ?v8) rfl (by kernel_rfl) (by kernel_rfl) (by kernel_rfl) (fun _ _ _ h => h) (Or.inl ⟨by rfl, ?hy8⟩) (by assumption) ?rest8
       case hy8 => (intro w' hSw; (try dsimp only at hSw); go_simp; (try with_reducible rfl))
       try simp only [Act.put, List.setIfInBounds_toArray, List.set_cons_zero, List.set_cons_succ]
       refine wpAnyH_ready (rs := [9]) (by kernel_rfl) (by simp) ?_
       refine AllReadyH.cons rfl (fun K hK => ?_) AllReadyH.nil
       go_simp
       refine hK.out _ _ ⟨(blk_facts (setCell_far kx6 hnX 1 _)).1 0, (blk_facts (setCell_far kx6 hnX 1 _)).1 1, (blk_facts (setCell_far kx6 hnX 1 _)).1 2, (blk_facts (setCell_far kv6 hnV 1 _)).1 0⟩ (fun hHeld => ?_)
       clear hK K
       try simp only [Act.put, List.setIfInBounds_toArray, List.set_cons_zero, List.set_cons_succ]
       refine wpAnyH_done (by kernel_rfl) ?_ _
       refine NoPanic.normal ?_
       clear hencD
       have hnx := Asm.LI.next hlt hx hfs hPV ho2' HWD.out kIV hbi2 hWV hrow6 hgr6 hmV ho0 heV hlV hvV hbV hgI hdV
       go_wp2_with fail
       go_roundw
       case rel => exact ⟨k + 1, by go_num, by omega, hnx.1, hnx.2⟩
       case measure => simp [intOf]; omega
     · skip
       refine AllReadyH.cons rfl (fun K hK => ?_) AllReadyH.nil
       go_simp
       go_at_call 135
       refine hencD.mono ?_
       rintro e y2 ⟨g2, rfl, hg2, hc2, hbi2, ho2⟩
       have ho2' : Asm.Off (· = bi) V y2 := ⟨ho2.os, ho2.tape, ho2.output, ho2.size, ho2.block⟩
       have hWy := ho2'.farRow kIV hWV (by decide)
       have hmy := ho2'.far kIV hmV (by decide)
       have hxy := ho2'.far kIV hxV (by decide)
       have hvy := ho2'.far kIV hvV' (by decide)
       have n1y : y2.cell? ⟨w.heap.size, 1, none⟩ = some (.slice wp k wc) := (blk_facts hmy).1 1
       have x0y : y2.cell? ⟨wr.heap.size, 0, none⟩ = some (.int .i64 x.line) := (blk_facts hxy).1 0
       have x1y : y2.cell? ⟨wr.heap.size, 1, none⟩ = some (.int .i64 x.at_) := (blk_facts hxy).1 1
       have x2y : y2.cell? ⟨wr.heap.size, 2, none⟩ = some (.func (.func 135) #[] #[.pointer (some ⟨bv, 0, none⟩), .pointer (some ⟨bi, 0, none⟩)]) := (blk_facts hxy).1 2
       have nvy : y2.cell? ⟨w.heap.size + 1 + 1 + 1 + 1 + 1, 0, none⟩ = some (.pointer (some ⟨w.heap.size + 1 + 1 + 1 + 1, 0, none⟩)) := (blk_facts hvy).1 0
       go_wp2_with fail
       refine hK.out _ _ ⟨x0y, x1y, x2y, nvy⟩ (fun hHeld => ?_)
       clear hK K
       try simp only [Act.put, List.setIfInBounds_toArray, List.set_cons_zero, List.set_cons_succ]
       refine wpAnyH_ready (rs := [1]) (by kernel_rfl) (by simp) ?_
       refine AllReadyH.cons rfl (fun K hK => ?_) AllReadyH.nil
       go_simp
       refine hK.out _ _ (by assumption) (fun hHeld => ?_)
       clear hK K
       try simp only [Act.put, List.setIfInBounds_toArray, List.set_cons_zero, List.set_cons_succ]
       refine wpAnyH_ready (rs := [7]) (by kernel_rfl) (by simp) ?_
       refine AllReadyH.cons rfl (fun K hK => ?_) AllReadyH.nil
       refine step_append_lies _ rfl _ _ 24 rfl w.heap.size 23 i0 _ 1 4 Tryz.underlying24 hinf hz0 hz1 hz2 rfl (by decide) _ _ _ rfl hWy ⟨g2, 0, none⟩ 1 1 [.int .u32 wd] rfl rfl (cell_one_at hc2) (by simp [Value.oneCell']) Nat.zero_lt_one hk63 hk64 (Nat.le_of_lt (blk_size hmy)) _ rfl ?_
       intro g6 cap6 w6 hrow6 hgr6 hgb6 hlt6
       have k6 := (hgr6.block w.heap.size (blk_size hmy) (Asm.rowNot hWy hmy (by decide))).trans hmy
       have kx6 := (hgr6.block wr.heap.size (blk_size hxy) (Asm.rowNot hWy hxy (by decide))).trans hxy
       have kv6 := (hgr6.block _ (blk_size hvy) (Asm.rowNot hWy hvy (by decide))).trans hvy
       have n1z : w6.cell? ⟨w.heap.size, 1, none⟩ = some (.slice wp k wc) := (blk_facts k6).1 1
       have f1z : w6.frozen? ⟨w.heap.size, 1, none⟩ = false := (blk_facts k6).2 1
       have x0z : w6.cell? ⟨wr.heap.size, 0, none⟩ = some (.int .i64 x.line) := (blk_facts kx6).1 0
       have x1z : w6.cell? ⟨wr.heap.size, 1, none⟩ = some (.int .i64 x.at_) := (blk_facts kx6).1 1
       have x2z : w6.cell? ⟨wr.heap.size, 2, none⟩ = some (.func (.func 135) #[] #[.pointer (some ⟨bv, 0, none⟩), .pointer (some ⟨bi, 0, none⟩)]) := (blk_facts kx6).1 2
       have nvz : w6.cell? ⟨w.heap.size + 1 + 1 + 1 + 1 + 1, 0, none⟩ = some (.pointer (some ⟨w.heap.size + 1 + 1 + 1 + 1, 0, none⟩)) := (blk_facts kv6).1 0
       refine hK.out _ _ ⟨x0z, x1z, x2z, nvz⟩ (fun hHeld => ?_)
       clear hK K
       try simp only [Act.put, List.setIfInBounds_toArray, List.set_cons_zero, List.set_cons_succ]
       refine wpAnyH_take (i := 8) (v := ?v8b) rfl (by kernel_rfl) (by kernel_rfl) (by kernel_rfl) (fun _ _ _ h => h) (Or.inl ⟨by rfl, ?hy8b⟩) (by assumption) ?rest8b
       case hy8b => (intro w' hSw; (try dsimp only at hSw); go_simp; (try with_reducible rfl))
       try simp only [Act.put, List.setIfInBounds_toArray, List.set_cons_zero, List.set_cons_succ]
       refine wpAnyH_ready (rs := [9]) (by kernel_rfl) (by simp) ?_
       refine AllReadyH.cons rfl (fun K hK => ?_) AllReadyH.nil
       go_simp
       refine hK.out _ _ ⟨(blk_facts (setCell_far kx6 hnX 1 _)).1 0, (blk_facts (setCell_far kx6 hnX 1 _)).1 1, (blk_facts (setCell_far kx6 hnX 1 _)).1 2, (blk_facts (setCell_far kv6 hnV 1 _)).1 0⟩ (fun hHeld => ?_)
       clear hK K
       try simp only [Act.put, List.setIfInBounds_toArray, List.set_cons_zero, List.set_cons_succ]
       refine wpAnyH_done (by kernel_rfl) ?_ _
       refine NoPanic.normal ?_
       clear hencD
       have hnx := Asm.LI.next hlt hx hfs hPV ho2' HWD.out kIV hbi2 hWV hrow6 hgr6 hmV ho0 heV hlV hvV hbV hgI hdV
       go_wp2_with fail
       go_roundw
       case rel => exact ⟨k + 1, by go_num, by omega, hnx.1, hnx.2⟩
       case measure => simp [intOf]; omega
   · have hke : k = S.pieces.length := by omega
     rw [hvl] at m2 hm
     obtain ⟨de, ge⟩ := blk_facts hLI.e
     obtain ⟨dl, gl⟩ := blk_facts hLI.l
     have e0 : wr.cell? ⟨w.heap.size + 1, 0, none⟩ = some (.int .i64 0) := de 0
     have l0 : wr.cell? ⟨w.heap.size + 1 + 1, 0, none⟩ = some (.int .i64 0) := dl 0
     have ge0 : wr.frozen? ⟨w.heap.size + 1, 0, none⟩ = false := ge 0
     have gl0 : wr.frozen? ⟨w.heap.size + 1 + 1, 0, none⟩ = false := gl 0
     obtain ⟨_, gmm⟩ := blk_facts hm
     have gm0 : wr.frozen? ⟨w.heap.size, 0, none⟩ = false := gmm 0
     have gm2 : wr.frozen? ⟨w.heap.size, 2, none⟩ = false := gmm 2
     clear de ge dl gl gmm
     subst hke
     go_wp2_with fail
     have q0 : wr.setCell ⟨w.heap.size, 0, none⟩ (.int .u32 O) = wr := setCell_self hm rfl
     have q1 : wr.setCell ⟨w.heap.size, 1, none⟩ (.slice wp S.pieces.length wc) = wr := setCell_self hm rfl
     have q2 : wr.setCell ⟨w.heap.size, 2, none⟩ (.slice lp S.labels.length lc) = wr := setCell_self hm rfl
     have q3 : wr.setCell ⟨w.heap.size + 1, 0, none⟩ (.int .i64 0) = wr := setCell_self hLI.e rfl
     have q4 : wr.setCell ⟨w.heap.size + 1 + 1, 0, none⟩ (.int .i64 0) = wr := setCell_self hLI.l rfl
     rw [q0, q1, q2, q3, q4]
     refine assemble_leave _ _ w.heap.size (w.heap.size + 1) (w.heap.size + 1 + 1) D _ _ _ rfl rfl rfl O _ _ wr hm hLI.e hLI.l Ldz ?_
     intro Z9 hZ9
     have pg : wr.grownBy (wr.putObj D (.deferred none)) (some D) := ⟨rfl, rfl, rfl, by simp, fun j hj hne => World.putObj_heap_other (fun e => hne (by rw [e]))⟩
     have rk : ∀ {base : Nat} {e : TypeId} {size : Nat} {v : Value} {n : Nat} {xs : List Value}, wr.ownsRow base e size v n xs → Z9.ownsRow base e size v n xs := fun {base e size v n xs} h => ownsRow_below' (h.kept pg (.inr fun e2 => by
      obtain ⟨c, hc⟩ := Asm.row_type h e2
      rw [Ldz] at hc
      cases hc)) hZ9
     have hbl : Below w.heap.size w (wr.putObj D (.deferred none)) := hLI.below.trans ⟨rfl, rfl, rfl, by simp, fun j hj => World.putObj_heap_other (by omega)⟩
     have hlab : wr.ownsRow B.n0 42 2 B.vl S.labels.length (S.labels.flatMap Asm.labelCells) := hP.labels
     rw [h4, hvl] at hlab
     exact ⟨⟨_, _, by rw [hO], rk hW, rk hlab⟩, hbl.trans (hZ9.mono hbl.size)⟩
end Go.Proofs.YtabmlbnnhhpaoaaGreatDoor
