/- What this claim needs of AsmHex, AsmImg, AsmBld, AsmDis0, AsmSound. -/
import Derived.Test.YtabmlbnnhhpaoaaGreatDoorEMIsaReg
import Derived.Test.YtabmlbnnhhpaoaaGreatDoorEMIsaBase
import Derived.Test.YtabmlbnnhhpaoaaGreatDoorEMAsmBase
import Derived.Laws.IdiomStrings
import Derived.Lib.Hide
import Derived.Test.YtabmlbnnhhpaoaaGreatDoorEMAsmTok
import Derived.Deep.RegionHeld3
import Derived.Deep.QuietTactic
import Derived.BigQuiet
import Derived.Test.YtabmlbnnhhpaoaaGreatDoorEShelf
import Derived.Shelf.Strings.Builder1
import Derived.Test.YtabmlbnnhhpaoaaGreatDoorEMAsmIns
set_option linter.unusedSimpArgs false
set_option linter.unusedVariables false
set_option maxHeartbeats 4000000
set_option maxRecDepth 100000
namespace Go.Proofs.YtabmlbnnhhpaoaaGreatDoor
open Go.RowKit Go.Shelf
namespace Hex
structure Laid (w : World) : Prop where
 tz : ∃ t fr cs, w.heap[6]? = some (.cells cs t fr) ∧ cs[15]? = some (.int .u8 4)
theorem Laid.below {w w1 : World} (h : Laid w) (hb : Below w.heap.size w w1) : Laid w1 := by
 obtain ⟨t, fr, cs, h1, h2⟩ := h
 exact ⟨t, fr, cs, blk_keep hb h1, h2⟩
theorem Laid.cell {w : World} (h : Laid w) : w.cell? ⟨6, 15, none⟩ = some (.int .u8 4) := by
 obtain ⟨t, fr, cs, h1, h2⟩ := h
 rw [cell_of_row w _ 15 cs t fr h1, h2]
theorem Laid.lt {w : World} (h : Laid w) : 6 < w.heap.size := by
 obtain ⟨t, fr, cs, h1, h2⟩ := h
 exact blk_size h1
def dig (n : Nat) : UInt8 := if n < 10 then UInt8.ofNat (48 + n) else UInt8.ofNat (87 + n)
def text (n : Nat) : List UInt8 := if h : n < 16 then [dig n] else text (n / 16) ++ [dig (n % 16)]
termination_by n
decreasing_by omega
theorem text_big (n : Nat) (h : ¬ n < 16) : text n = text (n / 16) ++ [dig (n % 16)] := by rw [text, dif_neg h]
theorem text_small (n : Nat) (h : n < 16) : text n = [dig n] := by rw [text, dif_pos h]
theorem text_pos (n : Nat) : 1 ≤ (text n).length := by
 by_cases h : n < 16
 · rw [text_small n h]; simp
 · rw [text_big n h]; simp
theorem text_len : ∀ (k n : Nat), n < 16 ^ (k + 1) → (text n).length ≤ k + 1
 | 0, n, h => by rw [text_small n (by simpa using h)]; simp
 | k + 1, n, h => by
  by_cases hs : n < 16
  · rw [text_small n hs]; simp
  · rw [text_big n hs]
    have := text_len k (n / 16) (by rw [Nat.div_lt_iff_lt_mul (by decide)]; rw [Nat.pow_succ] at h; exact h)
    simp; omega
end Hex
theorem hex_tz64_calls (w : World) (hL : Hex.Laid w) : Calls Tryz.prog 166 #[.int .u64 16] w fun e w' => e = .returned (.int .i64 4) ∧ Below w.heap.size w w' := by
 have hc := hL.cell
 have hz := hL.lt
 have hx : IntKind.u64.wrap (bits BinOp.and IntKind.u64 16 (IntKind.u64.wrap (-16)) * 285870213051353865) / 288230376151711744 = 15 := by kernel_rfl
 go_enter Tryz.func166, Tryz.ntmps166
 go_wp2_with fail
 go_ret
 exact ⟨rfl, Below.refl _ _⟩
theorem hex_tz_calls (w : World) (hL : Hex.Laid w) : Calls Tryz.prog 161 #[.int .u64 16] w fun e w' => e = .returned (.int .i64 4) ∧ Below w.heap.size w w' := by
 go_enter Tryz.func161, Tryz.ntmps161
 go_wp2_with fail
 refine (hex_tz64_calls _ hL).mono ?_
 rintro e w1 ⟨rfl, hb1⟩
 go_wp2_with fail
 go_ret
 exact ⟨rfl, hb1⟩
theorem hex_pow_calls (w : World) : Calls Tryz.prog 160 #[.int .i64 16] w fun e w' => e = .returned (.bool true) ∧ w' = w := by
 go_enter Tryz.func160, Tryz.ntmps160
 go_wp2_with fail
 go_ret
 exact ⟨rfl, rfl⟩
theorem Hex.setRow {w : World} {g : Nat} {t : TypeId} {fr : Nat × Nat} {cs : Array Value} (h : w.heap[g]? = some (.cells cs t fr)) (i : Nat) (v : Value) : (w.setCell ⟨g, i, none⟩ v).heap[g]? = some (.cells (cs.setIfInBounds i v) t fr) := by
 have hz := blk_size h
 obtain ⟨_, h2⟩ := Array.getElem?_eq_some_iff.1 h
 simp [World.setCell, Array.getElem?_modify, h, h2]
theorem hex_index (n : Nat) (hn : n < 16) (W : World) : (Instr.index 9 (.string ⟨#[48, 49, 50, 51, 52, 53, 54, 55, 56, 57, 97, 98, 99, 100, 101, 102, 103, 104, 105, 106, 107, 108, 109, 110, 111, 112, 113, 114, 115, 116, 117, 118, 119, 120, 121, 122]⟩) (.int .u64 (n : Int))).run Tryz.prog W = .ok (.int .u8 ((Hex.dig n).toNat : Int)) W :=
 match n, hn with
 | 0, _ => by kernel_rfl
 | 1, _ => by kernel_rfl
 | 2, _ => by kernel_rfl
 | 3, _ => by kernel_rfl
 | 4, _ => by kernel_rfl
 | 5, _ => by kernel_rfl
 | 6, _ => by kernel_rfl
 | 7, _ => by kernel_rfl
 | 8, _ => by kernel_rfl
 | 9, _ => by kernel_rfl
 | 10, _ => by kernel_rfl
 | 11, _ => by kernel_rfl
 | 12, _ => by kernel_rfl
 | 13, _ => by kernel_rfl
 | 14, _ => by kernel_rfl
 | 15, _ => by kernel_rfl
 | n + 16, h => absurd h (by omega)
theorem Hex.put {cs : Array Value} (hcs : cs.size = 65) {ds : List UInt8} (d : UInt8) (hlen : ds.length + 1 ≤ 8) (hds : ∀ j (h : j < ds.length), cs[65 - ds.length + j]? = some (.int .u8 (ds[j].toNat : Int))) :
 ∀ j (h : j < (d :: ds).length), (cs.setIfInBounds (65 - ds.length - 1) (.int .u8 (d.toNat : Int)))[65 - (d :: ds).length + j]? = some (.int .u8 ((d :: ds)[j].toNat : Int)) := by
 intro j h
 cases j with
 | zero =>
  rw [show 65 - (d :: ds).length + 0 = 65 - ds.length - 1 by simp; omega, Array.getElem?_setIfInBounds_self_of_lt (by omega)]
  rfl
 | succ j =>
  have hj : j < ds.length := by simpa using h
  rw [Array.getElem?_setIfInBounds_ne (by simp; omega), show 65 - (d :: ds).length + (j + 1) = 65 - ds.length + j by simp; omega, hds j hj]
  rfl
theorem wraps_u64 (n : Int) (h0 : 0 ≤ n) (h1 : n < 2 ^ 64) : IntKind.u64.wrap n = n := by rw [IntKind.wrap_u64]; omega
theorem u64_low4 (u : Nat) (h : u < 18446744073709551616) : bits .and .u64 (u : Int) 15 = ((u % 16 : Nat) : Int) := by
 have := bits_mask .u64 64 (by decide) wraps_u64 4 (by decide) (u : Int) (by omega) (by omega)
 rw [show (2 : Int) ^ 4 - 1 = 15 by decide] at this
 rw [this]
 omega
theorem hex_bits_calls (n : Nat) (hn : n < 4294967296) (w : World) (hL : Hex.Laid w) : Calls Tryz.prog 144 #[.slice none 0 0, .int .u64 (n : Int), .int .i64 16, .bool false, .bool false] w fun e w' => e = .returned (.tuple #[.slice none 0 0, .string ⟨(Hex.text n).toArray⟩]) ∧ Below w.heap.size w w' := by
 go_enter Tryz.func144, Tryz.ntmps144
 go_wp2_with fail
 refine (hex_pow_calls _).mono ?_
 rintro e w1 ⟨rfl, rfl⟩
 go_wp2_with fail
 refine (hex_tz_calls _ ?hl).mono ?_
 case hl => exact hL.below (below_alloc' (Below.refl _ _) _)
 rintro e w1 ⟨rfl, hb1⟩
 have k1 := blk_keep hb1 (heap_alloc_new _ _)
 have hs1 := hb1.size
 have HB1 := Lib.hid (below_next (below_alloc' (Below.refl _ _) _) hb1)
 clear hb1
 have hs1 := blk_size k1
 go_wp2_with fail
 go_loopw [1, 13] (fun v1 v13 wr => ∃ (u : Nat) (ds : List UInt8) (cs : Array Value), v1 = .int .u64 (u : Int) ∧ v13 = .int .i64 (65 - (ds.length : Int)) ∧ Hid (Hex.text n = Hex.text u ++ ds) ∧ ds.length + (Hex.text u).length ≤ 8 ∧ u < 4294967296 ∧ wr.heap[w.heap.size]? = some (.cells cs 247 (0, 0)) ∧ cs.size = 65 ∧ Hid (∀ j (h : j < ds.length), cs[65 - ds.length + j]? = some (.int .u8 (ds[j].toNat : Int))) ∧ Hid (Below w.heap.size w wr)) (fun v _ _ => (intOf v).toNat)
 case atStart => exact ⟨n, [], _, rfl, rfl, Lib.hid (by simp), by simpa using Hex.text_len 7 n (by omega), hn, k1, by kernel_rfl, Lib.hid (fun j h => by simp at h), HB1⟩
 case round =>
  clear k1 HB1 hs1
  obtain ⟨u, ds, cs, rfl, rfl, hT, hlen, hu, k1, hcs, hds, HB⟩ := hrel
  have hp := Hex.text_pos u
  obtain ⟨d1, f1⟩ := blk_facts k1
  have c0 : wr.cell? ⟨w.heap.size, 65 - ds.length - 1, none⟩ = some cs[65 - ds.length - 1] := by rw [d1, Array.getElem?_eq_getElem]
  have g0 : wr.frozen? ⟨w.heap.size, 65 - ds.length - 1, none⟩ = false := f1 _
  have hz := blk_size k1
  have hsl : ∀ W : World, (Instr.sliceAt 247 (.pointer (some ⟨w.heap.size, 0, none⟩)) (some (.int .i64 (65 - (ds.length : Int) - 1))) none none).run Tryz.prog W = .ok (.slice (some ⟨w.heap.size, 65 - ds.length - 1, none⟩) (ds.length + 1) (ds.length + 1)) W := fun W => by
   have ha : Tryz.prog.underlying 247 = some (.array (Tryz.prog.arrayLen 247) (Tryz.prog.elem 247)) := by kernel_rfl
   have hl : Tryz.prog.arrayLen 247 = 65 := by kernel_rfl
   have hs8 : ∀ W : World, (sizeOf (Tryz.prog.elem 247)).run Tryz.prog W = .ok 1 W := fun _ => by kernel_rfl
   have e0 : (65 - (ds.length : Int) - 1).toNat = 65 - ds.length - 1 := by omega
   rw [run_sliceAt_array_l W 247 ⟨w.heap.size, 0, none⟩ ha .i64 (65 - (ds.length : Int) - 1) (by omega) (by rw [hl]; omega), hs8, hl, e0]
   have h1 : ¬ (65 = 65 - ds.length - 1) := by omega
   simp [Result.andThen, slicedAt, Addr.add, h1]
   omega
  clear d1 f1
  by_cases hs : u < 16
  · have hx := hex_index u hs
    have e1 : Hex.text u = [Hex.dig u] := Hex.text_small u hs
    have hlen2 : ds.length + 1 ≤ 8 := by rw [e1] at hlen; simpa using hlen
    have h16 : ((16 : Int) ≤ (u : Int)) = False := by simp; omega
    have k2 : (wr.setCell ⟨w.heap.size, 65 - ds.length - 1, none⟩ (.int .u8 ((Hex.dig u).toNat : Int))).heap[w.heap.size]? = some (.cells (cs.setIfInBounds (65 - ds.length - 1) (.int .u8 ((Hex.dig u).toNat : Int))) 247 (0, 0)) := Hex.setRow k1 _ _
    have hcv := run_convert_bytes_back (P := Tryz.prog) (wr.setCell ⟨w.heap.size, 65 - ds.length - 1, none⟩ (.int .u8 ((Hex.dig u).toNat : Int))) 47 9 5 ⟨w.heap.size, 65 - ds.length - 1, none⟩ (ds.length + 1) (Hex.dig u :: ds) Tryz.underlying47 Tryz.underlying5 Tryz.underlying9 (fun j hj => by
     have h := Hex.put hcs (Hex.dig u) hlen2 hds.out j hj
     rw [← (blk_facts k2).1] at h
     have e2 : (⟨w.heap.size, 65 - ds.length - 1, none⟩ : Addr).add j = ⟨w.heap.size, 65 - (Hex.dig u :: ds).length + j, none⟩ := by
      have h3 : 65 - ds.length - 1 = 65 - (Hex.dig u :: ds).length := by simp; omega
      rw [h3]
      unfold Addr.add
      split <;> simp_all
     rw [e2]
     exact h)
    simp only [List.length_cons] at hcv
    have hr : Hex.text n = Hex.dig u :: ds := by rw [hT.out, e1]; rfl
    go_wp2_with fail
    go_ret2
    exact ⟨rfl, HB.out.setCell (p := ⟨w.heap.size, 65 - ds.length - 1, none⟩) (Nat.le_refl _) _⟩
  · have hx := hex_index (u % 16) (Nat.mod_lt _ (by decide))
    simp only [Int.natCast_emod, Int.cast_ofNat_Int] at hx
    have hm := u64_low4 u (by omega)
    simp only [Int.natCast_emod, Int.cast_ofNat_Int] at hm
    have hlen2 : (ds.length + 1) + (Hex.text (u / 16)).length ≤ 8 := by rw [Hex.text_big u hs] at hlen; simp at hlen; omega
    have h16 : ((16 : Int) ≤ (u : Int)) = True := by simp; omega
    go_wp2_with fail
    go_roundw
    case rel =>
     refine ⟨u / 16, Hex.dig (u % 16) :: ds, _, by simp, by simp; omega, Lib.hid (by rw [hT.out, Hex.text_big u hs]; simp), by simpa using hlen2, by omega, Hex.setRow k1 _ _, by simpa using hcs, Lib.hid (Hex.put hcs _ (by have := Hex.text_pos (u / 16); omega) hds.out), Lib.hid (HB.out.setCell (p := ⟨w.heap.size, 65 - ds.length - 1, none⟩) (Nat.le_refl _) _)⟩
    case measure => simp [intOf]; omega
theorem hex_fmtIn_calls (n : Nat) (hn : n < 4294967296) (w : World) (hL : Hex.Laid w) : Calls Tryz.prog 116 #[.int .u64 (n : Int), .int .i64 16] w fun e w' => e = .returned (.string ⟨(Hex.text n).toArray⟩) ∧ Below w.heap.size w w' := by
 go_enter Tryz.func116, Tryz.ntmps116
 go_wp2_with fail
 refine (hex_bits_calls n hn _ hL).mono ?_
 rintro e w1 ⟨rfl, hb1⟩
 go_wp2_with fail
 go_ret
 exact ⟨rfl, hb1⟩
theorem hex_fmt_calls (n : Nat) (hn : n < 4294967296) (w : World) (hL : Hex.Laid w) : Calls Tryz.prog 63 #[.int .u64 (n : Int), .int .i64 16] w fun e w' => e = .returned (.string ⟨(Hex.text n).toArray⟩) ∧ Below w.heap.size w w' := by
 go_enter Tryz.func63, Tryz.ntmps63
 go_wp2_with fail
 refine (hex_fmtIn_calls n hn _ hL).mono ?_
 rintro e w1 ⟨rfl, hb1⟩
 go_wp2_with fail
 go_ret
 exact ⟨rfl, hb1⟩
namespace Hex
def eight (n : Nat) : List UInt8 := [48, 120] ++ List.replicate (8 - (text n).length) 48 ++ text n
theorem repeatL_one (c : Nat) : Lib.repeatL [48] c = List.replicate c 48 := by
 induction c with
 | zero => rfl
 | succ c ih => simp [Lib.repeatL, ih, List.replicate_succ]
end Hex
theorem hex_repeat (c : Nat) (hc : c ≤ 8) (w : World) : Calls Tryz.prog 64 #[.string ⟨#[48]⟩, .int .i64 (c : Int)] w fun e w' => e = .returned (.string ⟨(List.replicate c (48 : UInt8)).toArray⟩) ∧ Below w.heap.size w w' := by
 match c, hc with
 | 0, _ =>
  refine (Tryz.strings_Repeat_zero ⟨#[48]⟩ w).mono ?_
  rintro e w' ⟨rfl, rfl⟩
  exact ⟨rfl, Below.refl _ _⟩
 | 1, _ =>
  refine (Tryz.strings_Repeat_one ⟨#[48]⟩ w).mono ?_
  rintro e w' ⟨rfl, rfl⟩
  exact ⟨rfl, Below.refl _ _⟩
 | c + 2, hc =>
  refine (Tryz.strings_Repeat_main ⟨#[48]⟩ (c + 2) w (by omega) (by omega) (by show 1 * (c + 2) ≤ _; omega) (by decide)).mono ?_
  rintro e w' ⟨rfl, hb⟩
  exact ⟨by rw [show (⟨#[48]⟩ : ByteArray).data.toList = [48] from rfl, Hex.repeatL_one], hb⟩
theorem eight_calls (n : Nat) (hn : n < 4294967296) (w : World) (hL : Hex.Laid w) : Calls Tryz.prog 30 #[.int .u32 (n : Int)] w fun e w' => e = .returned (.string ⟨(Hex.eight n).toArray⟩) ∧ Below w.heap.size w w' := by
 have hl1 := Hex.text_pos n
 have hl2 := Hex.text_len 7 n (by omega)
 have hsz : (⟨(Hex.text n).toArray⟩ : ByteArray).size = (Hex.text n).length := by simp [ByteArray.size]
 have hsub : (8 : Int) - ((Hex.text n).length : Int) = ((8 - (Hex.text n).length : Nat) : Int) := by omega
 have hrep := fun W => hex_repeat (8 - (Hex.text n).length) (by omega) W
 have hj : ((⟨#[48, 120]⟩ : ByteArray) ++ ⟨(List.replicate (8 - (Hex.text n).length) (48 : UInt8)).toArray⟩) ++ ⟨(Hex.text n).toArray⟩ = ⟨(Hex.eight n).toArray⟩ := by
  apply ByteArray.ext
  simp [Hex.eight]
 go_enter Tryz.func30, Tryz.ntmps30
 go_wp2_with fail
 refine (hex_fmt_calls n hn _ hL).mono ?_
 rintro e w1 ⟨rfl, hb1⟩
 go_wp2_with fail
 refine (hrep _).mono ?_
 rintro e w2 ⟨rfl, hb2⟩
 go_wp2_with fail
 go_ret
 refine ⟨?_, below_next hb1 hb2⟩
 rw [← hj]
 simp
end Go.Proofs.YtabmlbnnhhpaoaaGreatDoor
set_option maxHeartbeats 4000000
set_option maxRecDepth 100000
namespace Go.Proofs.YtabmlbnnhhpaoaaGreatDoor
open Go.RowKit Go.Shelf
namespace Asm
def RowView (w : World) (T : TypeId) (v : Value) (n : Nat) (xs : List Value) : Prop :=
 ∃ p cap, v = .slice p n cap ∧ n ≤ cap ∧ cap ≤ maxLen ∧ (n ≠ 0 → ∃ g o cur fr, p = some ⟨g, o, none⟩ ∧ w.heap[g]? = some (.cells cur T fr) ∧ ∀ (j : Nat) (u : Value), xs[j]? = some u → cur[o + j]? = some u)
theorem RowView.cells {w : World} {T : TypeId} {v : Value} {n : Nat} {xs : List Value} (h : RowView w T v n xs) (hn : n ≠ 0) :
 ∃ g o cap, v = .slice (some ⟨g, o, none⟩) n cap ∧ n ≤ cap ∧ cap ≤ maxLen ∧ g < w.heap.size ∧ ∀ (j : Nat) (u : Value), xs[j]? = some u → w.cell? ⟨g, o + j, none⟩ = some u := by
 obtain ⟨p, cap, rfl, h1, h2, h3⟩ := h
 obtain ⟨g, o, cur, fr, rfl, hg, hu⟩ := h3 hn
 exact ⟨g, o, cap, rfl, h1, h2, blk_size hg, fun j u hj => by rw [cell_of_row w g (o + j) cur T fr hg]; exact hu j u hj⟩
theorem RowView.keep {w w' : World} {T : TypeId} {v : Value} {n : Nat} {xs : List Value} (h : RowView w T v n xs) (hk : ∀ (g : Nat) (cur : Array Value) (fr : Nat × Nat), w.heap[g]? = some (.cells cur T fr) → w'.heap[g]? = some (.cells cur T fr)) : RowView w' T v n xs := by
 obtain ⟨p, cap, e, h1, h2, h3⟩ := h
 refine ⟨p, cap, e, h1, h2, fun hn => ?_⟩
 obtain ⟨g, o, cur, fr, ep, hg, hu⟩ := h3 hn
 exact ⟨g, o, cur, fr, ep, hk g cur fr hg, hu⟩
theorem RowView.below {w w' : World} {T : TypeId} {v : Value} {n : Nat} {xs : List Value} (h : RowView w T v n xs) (hb : Below w.heap.size w w') : RowView w' T v n xs := h.keep fun g cur fr hg => blk_keep hb hg
abbrev Lab := List UInt8 × Nat
def labCells (x : Lab) : List Value := [.string ⟨x.1.toArray⟩, .int .u32 (x.2 : Int)]
theorem labs_at : ∀ (ls : List Lab) (i : Nat) (x : Lab), ls[i]? = some x → (ls.flatMap labCells)[i * 2]? = some (.string ⟨x.1.toArray⟩) ∧ (ls.flatMap labCells)[i * 2 + 1]? = some (.int .u32 (x.2 : Int))
 | [], i, x, h => by simp at h
 | y :: l, 0, x, h => by simp at h; subst h; simp [labCells]
 | y :: l, i + 1, x, h => by
  have := labs_at l i x (by simpa using h)
  rw [show (i + 1) * 2 = i * 2 + 2 by omega, List.flatMap_cons, List.getElem?_append_right (by simp [labCells]), List.getElem?_append_right (by simp [labCells])]
  simp only [labCells, List.length_cons, List.length_nil]
  rw [show i * 2 + 2 - (0 + 1 + 1) = i * 2 by omega, show i * 2 + 2 + 1 - (0 + 1 + 1) = i * 2 + 1 by omega]
  exact this
def cmpI (a b : Int) : Int := if a < b then -1 else if b < a then 1 else 0
def rises : List Lab → Bool
 | [] => true
 | x :: l => (match l with | [] => true | y :: _ => decide (x.2 ≤ y.2)) && rises l
def risesTo (ls : List Lab) : Nat → Bool
 | 0 => true
 | i + 1 => (match ls[i]?, ls[i + 1]? with | some x, some y => decide (x.2 ≤ y.2) | _, _ => true) && risesTo ls i
theorem risesTo_cons (x : Lab) (l : List Lab) : ∀ i, risesTo (x :: l) (i + 1) = (risesTo (x :: l) 1 && risesTo l i)
 | 0 => by simp [risesTo]
 | i + 1 => by
  have e : risesTo (x :: l) (i + 1 + 1) = ((match l[i]?, l[i + 1]? with | some x, some y => decide (x.2 ≤ y.2) | _, _ => true) && risesTo (x :: l) (i + 1)) := rfl
  have e2 : risesTo l (i + 1) = ((match l[i]?, l[i + 1]? with | some x, some y => decide (x.2 ≤ y.2) | _, _ => true) && risesTo l i) := rfl
  rw [e, e2, risesTo_cons x l i]
  cases (match l[i]?, l[i + 1]? with | some x, some y => decide (x.2 ≤ y.2) | _, _ => true) <;> simp
theorem rises_eq : ∀ ls : List Lab, rises ls = risesTo ls (ls.length - 1)
 | [] => rfl
 | [x] => rfl
 | x :: y :: l => by
  have := rises_eq (y :: l)
  rw [rises, this]
  simp only [List.length_cons, Nat.add_sub_cancel]
  rw [risesTo_cons]
  simp [risesTo]
end Asm
theorem nan32_calls (a : Int) (w : World) : Calls Tryz.prog 114 #[.int .u32 a] w fun e w' => e = .returned (.bool false) ∧ w' = w := by
 go_enter Tryz.func114, Tryz.ntmps114
 go_wp2_with fail
 go_ret
 exact ⟨rfl, rfl⟩
theorem cmp32_calls (a b : Int) (w : World) : Calls Tryz.prog 61 #[.int .u32 a, .int .u32 b] w fun e w' => e = .returned (.int .i64 (Asm.cmpI a b)) ∧ w' = w := by
 go_enter Tryz.func61, Tryz.ntmps61
 go_wp2_with fail
 refine (nan32_calls a _).mono ?_
 rintro e w1 ⟨rfl, rfl⟩
 go_wp2_with fail
 refine (nan32_calls b _).mono ?_
 rintro e w1 ⟨rfl, rfl⟩
 by_cases h1 : a < b
 · go_wp2_with fail
   go_ret
   exact ⟨by simp [Asm.cmpI, h1], rfl⟩
 · by_cases h2 : b < a
   · go_wp2_with fail
     go_ret
     exact ⟨by simp [Asm.cmpI, h1, h2], rfl⟩
   · go_wp2_with fail
     go_ret
     exact ⟨by unfold Asm.cmpI; rw [if_neg (by omega), if_neg (by omega)]; rfl, rfl⟩
theorem soundcmp_calls (x y : ByteArray) (a b : Int) (w : World) : Calls Tryz.prog 60 #[.agg #[.string x, .int .u32 a], .agg #[.string y, .int .u32 b]] w fun e w' => e = .returned (.int .i64 (Asm.cmpI a b)) ∧ Below w.heap.size w w' := by
 go_enter Tryz.func60, Tryz.ntmps60
 go_wp2_with fail
 refine (cmp32_calls a b _).mono ?_
 rintro e w1 ⟨rfl, rfl⟩
 go_wp2_with fail
 go_ret
 exact ⟨rfl, below_alloc' (below_alloc' (Below.refl _ _) _) _⟩
theorem idx_lab (g o n cap k : Nat) (hk : k < n) (W : World) : (Instr.indexAt 25 (.slice (some ⟨g, o, none⟩) n cap) (.int .i64 (k : Int))).run Tryz.prog W = .ok (.pointer (some ⟨g, o + k * 2, none⟩)) W := by
 have hs : (sizeOf (Tryz.prog.elem 25)).run Tryz.prog W = .ok 2 W := by kernel_rfl
 rw [run_indexAt_slice (P := Tryz.prog) (w := W) 25 ⟨g, o, none⟩ n cap .i64 (k : Int) (by kernel_rfl), if_pos ⟨by omega, by omega⟩, hs]
 simp [Result.andThen, Addr.add]
theorem sorted_calls {T : TypeId} (ls : List Asm.Lab) (lv : Value) (w : World) (hv : Asm.RowView w T lv ls.length (ls.flatMap Asm.labCells)) (hlen : ls.length ≤ 140737488355328) :
 Calls Tryz.prog 59 #[lv, .func (.func 60) #[] #[]] w fun e w' => e = .returned (.bool (Asm.rises ls)) ∧ Below w.heap.size w w' := by
 rw [Asm.rises_eq]
 by_cases h0 : ls.length = 0
 · obtain ⟨p, cap, rfl, _⟩ := hv
   have hz : ls = [] := List.eq_nil_of_length_eq_zero h0
   rw [h0]
   go_enter Tryz.func59, Tryz.ntmps59
   go_wp2_with fail
   refine wp_loop_rounds 1 ?_
   rw [rounds_succ]
   go_wp2_with fail
   go_ret
   exact ⟨by rw [hz]; rfl, Below.refl _ _⟩
 · obtain ⟨g, o, cap, rfl, hc1, hc2, hg, hcell⟩ := hv.cells h0
   obtain ⟨n, hn⟩ : ∃ n, ls.length = n := ⟨_, rfl⟩
   rw [hn] at h0 hlen hc1 ⊢
   have henter : ∀ args w, (callFunc 60 args).run Tryz.prog w = .ok (.enter 60 args) w := enters_of Tryz.func60 (by kernel_rfl) rfl
   have HC := Lib.hid hcell
   have HN := Lib.hid hn
   clear hcell hn
   go_enter Tryz.func59, Tryz.ntmps59
   go_wp2_with fail
   go_loopw [5] (fun v wr => ∃ i : Nat, v = .int .i64 (i : Int) ∧ i < n ∧ Hid (Asm.risesTo ls (n - 1) = Asm.risesTo ls i) ∧ Hid (Below w.heap.size w wr)) (fun v _ => (intOf v).toNat)
   case atStart => exact ⟨n - 1, by congr 1; omega, by omega, Lib.hid rfl, Lib.hid (Below.refl _ _)⟩
   case round =>
    obtain ⟨i, rfl, hi, HR, HB⟩ := hrel
    cases i with
    | zero =>
     go_wp2_with fail
     go_ret
     exact ⟨by rw [HR.out]; rfl, HB.out⟩
    | succ i =>
     obtain ⟨x, hx⟩ : ∃ x, ls[i]? = some x := ⟨ls[i]'(by have := HN.out; omega), List.getElem?_eq_getElem _⟩
     obtain ⟨y, hy⟩ : ∃ y, ls[i + 1]? = some y := ⟨ls[i + 1]'(by have := HN.out; omega), List.getElem?_eq_getElem _⟩
     have a1 := Asm.labs_at ls i x hx
     have a2 := Asm.labs_at ls (i + 1) y hy
     have kb := fun j u h => (HB.out.cell (p := ⟨g, o + j, none⟩) hg).trans (HC.out j u h)
     have c0 : wr.cell? ⟨g, o + i * 2, none⟩ = some (.string ⟨x.1.toArray⟩) := kb _ _ a1.1
     have c1 : wr.cell? ⟨g, o + i * 2 + 1, none⟩ = some (.int .u32 (x.2 : Int)) := kb _ _ a1.2
     have c2 : wr.cell? ⟨g, o + (i + 1) * 2, none⟩ = some (.string ⟨y.1.toArray⟩) := kb _ _ a2.1
     have c3 : wr.cell? ⟨g, o + (i + 1) * 2 + 1, none⟩ = some (.int .u32 (y.2 : Int)) := kb _ _ a2.2
     clear a1 a2 kb
     go_wp2_with fail
     have b5 : IntKind.i64.wrap (((i + 1 : Nat) : Int) - 1) = (i : Int) := by rw [show ((i + 1 : Nat) : Int) - 1 = i by omega]; exact IntWalk.i64_in _ (by omega)
     have b6 : IntKind.i64.wrap (i : Int) = (i : Int) := IntWalk.i64_in _ (by omega)
     have b7 : IntKind.i64.wrap ((i : Int) + 1 - 1) = (i : Int) := by rw [show (i : Int) + 1 - 1 = i by omega]; exact b6
     have hgr : g < wr.heap.size := Nat.lt_of_lt_of_le hg HB.out.size
     have ix0 := fun W => idx_lab g o n cap i (by omega) W
     have ix1 := fun W => idx_lab g o n cap (i + 1) hi W
     have ix2 : ∀ W : World, (Instr.indexAt 25 (.slice (some ⟨g, o, none⟩) n cap) (.int .i64 ((i : Int) + 1))).run Tryz.prog W = .ok (.pointer (some ⟨g, o + (i + 1) * 2, none⟩)) W := ix1
     go_region_held3 (fun w' => w'.cell? ⟨g, o + i * 2, none⟩ = some (.string ⟨x.1.toArray⟩) ∧ w'.cell? ⟨g, o + i * 2 + 1, none⟩ = some (.int .u32 (x.2 : Int)) ∧ w'.cell? ⟨g, o + (i + 1) * 2, none⟩ = some (.string ⟨y.1.toArray⟩) ∧ w'.cell? ⟨g, o + (i + 1) * 2 + 1, none⟩ = some (.int .u32 (y.2 : Int))) (first | exact ⟨c0, c1, c2, c3⟩ | exact ⟨(hb2.cell (p := ⟨g, _, none⟩) hgr).trans c0, (hb2.cell (p := ⟨g, _, none⟩) hgr).trans c1, (hb2.cell (p := ⟨g, _, none⟩) hgr).trans c2, (hb2.cell (p := ⟨g, _, none⟩) hgr).trans c3⟩ | assumption)
      ((go_at_call 60; refine (soundcmp_calls _ _ _ _ _).mono ?_; rintro e w2 ⟨rfl, hb2⟩))
     all_goals
      have hst : Below w.heap.size w w2 := below_next (below_drewN' HB.out 1) hb2
      clear b5 b6 b7 ix0 ix1 ix2 hgr
      by_cases hlt : y.2 < x.2
      · have hr : Asm.risesTo ls (n - 1) = false := by rw [HR.out, Asm.risesTo, hx, hy]; simp; omega
        have hc : Asm.cmpI (y.2 : Int) (x.2 : Int) = -1 := by unfold Asm.cmpI; rw [if_pos (by omega)]
        rw [hc]
        go_wp2_with fail
        go_ret
        exact ⟨by rw [hr]; rfl, hst⟩
      · have hr : Asm.risesTo ls (n - 1) = Asm.risesTo ls i := by rw [HR.out, Asm.risesTo, hx, hy]; simp; omega
        have hc : Asm.cmpI (y.2 : Int) (x.2 : Int) = 0 ∨ Asm.cmpI (y.2 : Int) (x.2 : Int) = 1 := by unfold Asm.cmpI; rw [if_neg (by omega)]; split <;> simp
        rcases hc with hc | hc
        all_goals
         rw [hc]
         go_wp2_with fail
         refine ⟨⟨i, rfl, by omega, Lib.hid hr, Lib.hid hst⟩, ?_⟩
         simp [intOf]
end Go.Proofs.YtabmlbnnhhpaoaaGreatDoor
set_option maxHeartbeats 2000000
set_option maxRecDepth 100000
namespace Go.Proofs.YtabmlbnnhhpaoaaGreatDoor
open Go.RowKit Go.Shelf
def Asm.Bld (n0 b : Nat) (v : Value) (t : List UInt8) (w : World) : Prop :=
 ∃ p, (p = Value.pointer none ∨ p = Value.pointer (some ⟨b, 0, none⟩)) ∧ Lib.BuilderAt 85 5 n0 b p (Lib.byteCells t) w ∧ w.heap[b]? = some (.cells #[p, v] 85 (0, 0)) ∧ w.ownsRow n0 5 1 v t.length (Lib.byteCells t)
theorem bld_info : (Tryz.prog.info? 85).map (·.size) = some 2 := by kernel_rfl
theorem bld_lies : liesAt Tryz.prog Tryz.prog.depth 85 (2 / Tryz.prog.cellsOf 85) 0 85 1 = true := by kernel_rfl
theorem bld_byte : (Tryz.prog.info? 5).map (fun i => (i.zero, i.size, i.bytes)) = some (some (.int .u8 0), 1, 1) := by kernel_rfl
theorem Asm.Bld.isBuilder {n0 b : Nat} {v : Value} {t : List UInt8} {w : World} (h : Asm.Bld n0 b v t w) : Lib.IsBuilder 85 5 n0 b (Lib.byteCells t) w := by
 obtain ⟨p, rfl | rfl, h, _⟩ := h
 · exact .inl h
 · exact .inr h
theorem Asm.Bld.mk' {n0 b : Nat} {v : Value} {t : List UInt8} {w : World} {p : Value} (hp : p = Value.pointer none ∨ p = Value.pointer (some ⟨b, 0, none⟩)) (hb : n0 ≤ b) (hk : w.heap[b]? = some (.cells #[p, v] 85 (0, 0))) (hr : w.ownsRow n0 5 1 v t.length (Lib.byteCells t)) : Asm.Bld n0 b v t w :=
 ⟨p, hp, ⟨hb, v, hk, by simpa [Lib.byteCells_length] using hr, Lib.ownBlock_ne hr hk (by decide)⟩, hk, hr⟩
theorem bld_check_used (b : Nat) (w : World) (h0 : w.cell? ⟨b, 0, none⟩ = some (.pointer (some ⟨b, 0, none⟩))) :
 Calls Tryz.prog 62 #[.pointer (some ⟨b, 0, none⟩)] w fun e w' => e = .returned (.tuple #[]) ∧ w' = w := by
 obtain ⟨j, hj, _⟩ := Option.map_eq_some_iff.1 bld_info
 go_enter Tryz.func62, Tryz.ntmps62
 go_wp2
 rw [Lib.run_neq_ptr_same w _ Tryz.underlying83 hj]
 go_wp2
 go_end0
 exact ⟨rfl, rfl⟩
theorem bld_check_fresh (b : Nat) (w : World) (h0 : w.cell? ⟨b, 0, none⟩ = some (.pointer none)) (hsh : w.shape? b = some (85, 2)) (hfz : w.frozen? ⟨b, 0, none⟩ = false) :
 Calls Tryz.prog 62 #[.pointer (some ⟨b, 0, none⟩)] w fun e w' => e = .returned (.tuple #[]) ∧ w' = w.setCell ⟨b, 0, none⟩ (.pointer (some ⟨b, 0, none⟩)) := by
 obtain ⟨j, hj, hjs⟩ := Option.map_eq_some_iff.1 bld_info
 go_enter Tryz.func62, Tryz.ntmps62
 go_wp2
 rw [Lib.run_to_unsafe w ⟨b, 0, none⟩ Tryz.underlying83 Tryz.underlying206 hj (by rw [hjs]; decide) hsh (Nat.zero_lt_succ 1)]
 simp only [Result.andThen]
 rw [Oper.upon_value]
 go_wp2
 rw [run_callFunc_extern Tryz.func115 (by kernel_rfl) (by kernel_rfl) (by kernel_rfl) (e := Extern.AbiNoEscape.same) (by kernel_rfl)]
 rw [Lib.run_noEscape]
 simp only [Result.andThen]
 rw [Oper.upon_value]
 go_wp2
 rw [Lib.run_from_unsafe w ⟨b, 0, none⟩ Tryz.underlying206 Tryz.underlying83 hj hsh bld_lies]
 simp only [Result.andThen]
 rw [Oper.upon_value]
 go_wp2
 go_end0
 exact ⟨rfl, rfl⟩
theorem bld_check (n0 b : Nat) (v : Value) (t : List UInt8) (w : World) (h : Asm.Bld n0 b v t w) :
 Calls Tryz.prog 62 #[.pointer (some ⟨b, 0, none⟩)] w fun e w' => e = .returned (.tuple #[]) ∧ Asm.Bld n0 b v t w' ∧ Asm.Off (· = b) w w' := by
 obtain ⟨p, hp, hB, hk, hr⟩ := h
 rcases hp with rfl | rfl
 · refine (bld_check_fresh b w hB.cell0 hB.shape hB.frozen0).mono ?_
   rintro e w' ⟨rfl, rfl⟩
   have hg := Asm.setCell_grown w b 0 (.pointer (some ⟨b, 0, none⟩))
   have k2 := setCell_row hk 0 (.pointer (some ⟨b, 0, none⟩)) (cs' := #[.pointer (some ⟨b, 0, none⟩), v]) rfl
   exact ⟨rfl, .mk' (.inr rfl) hB.1 k2 (hr.kept hg (.inr (Lib.ownBlock_ne hr hk (by decide)))), ⟨hg.os, hg.tape, hg.output, hg.size, fun g h1 h2 => hg.block g h1 (fun e => h2 (Option.some.inj e))⟩⟩
 · refine (bld_check_used b w hB.cell0).mono ?_
   rintro e w' ⟨rfl, rfl⟩
   exact ⟨rfl, .mk' (.inr rfl) hB.1 hk hr, Asm.Off.refl _ _⟩
theorem bld_write (n0 b : Nat) (v : Value) (t s : List UInt8) (w : World) (h : Asm.Bld n0 b v t w) (hlen : t.length + s.length ≤ 140737488355328) (hn : n0 ≤ w.heap.size) :
 Calls Tryz.prog 29 #[.pointer (some ⟨b, 0, none⟩), .string ⟨s.toArray⟩] w fun e w' => e = .returned (.tuple #[.int .i64 (s.length : Int), .nilIface]) ∧ ∃ v', Asm.Bld n0 b v' (t ++ s) w' ∧ Asm.Off (fun g => g = b ∨ v.ownBlock = some g) w w' := by
 obtain ⟨i0, hi, hz0, hz1, hz2⟩ := info_parts bld_byte
 have hsz : (⟨s.toArray⟩ : ByteArray).size = s.length := by simp [ByteArray.size]
 go_enter Tryz.func29, Tryz.ntmps29
 go_wp2_with fail
 refine (bld_check n0 b v t _ h).mono ?_
 rintro e w1 ⟨rfl, ⟨p, hp, hB, hk, hr⟩, ho1⟩
 have hs1 := ho1.size
 have c1 : w1.cell? ⟨b, 1, none⟩ = some v := by rw [Lib.cell_of_heap hk]; rfl
 have z1 := blk_size hk
 have hne : v.ownBlock ≠ some b := Lib.ownBlock_ne hr hk (by decide)
 go_wp2_with (at_builtin; refine Lib.wpList_append_own_string _ rfl _ _ 47 9 rfl n0 5 i0 Tryz.underlying47 Tryz.underlying9 hi hz0 hz1 hz2 _ _ _ rfl hr ⟨s.toArray⟩ rfl ?c3 ?c4 ?c5 ?_)
 case c3 => unfold maxLen; omega
 case c4 => omega
 case c5 => omega
 intro v' w2 hown' hgrow _
 have hb2 : w2.heap[b]? = some (.cells #[p, v] 85 (0, 0)) := (hgrow.block b z1 (fun e => hne e.symm)).trans hk
 have d1 : w2.cell? ⟨b, 1, none⟩ = some v := by rw [Lib.cell_of_heap hb2]; rfl
 have f1 : w2.frozen? ⟨b, 1, none⟩ = false := Lib.frozen_of_heap hb2 1
 have z2 := blk_size hb2
 obtain ⟨ao, n', cap, rfl⟩ : ∃ ao n' cap, v' = .slice ao n' cap := by
  rcases hown'.2 with ⟨hv, _⟩ | ⟨g, cap, cur, hv, _⟩
  · exact ⟨_, _, _, hv⟩
  · exact ⟨_, _, _, hv⟩
 have HO := Lib.hid hown'
 clear hown'
 go_wp2_with fail
 go_ret2
 have hg := Asm.setCell_grown w2 b 1 (.slice ao n' cap)
 have hr' : w2.ownsRow n0 5 1 (.slice ao n' cap) (t ++ s).length (Lib.byteCells (t ++ s)) := by
  have h := HO.out
  rw [List.length_append, Lib.byteCells_append]; exact h
 refine ⟨rfl, .slice ao n' cap, .mk' hp hB.1 (setCell_row hb2 1 _ rfl) (hr'.kept hg (.inr (Lib.ownBlock_ne hr' hb2 (by decide)))), ?_⟩
 refine ⟨hg.os.trans (hgrow.os.trans ho1.os), hg.tape.trans (hgrow.tape.trans ho1.tape), hg.output.trans (hgrow.output.trans ho1.output), Nat.le_trans hs1 (Nat.le_trans hgrow.size hg.size), fun g h1 h2 => ?_⟩
 have hgb : g ≠ b := fun e => h2 (.inl e)
 exact (hg.block g (by have := hgrow.size; omega) (fun e => hgb (Option.some.inj e))).trans ((hgrow.block g (by omega) (fun e => h2 (.inr e.symm))).trans (ho1.block g h1 hgb))
end Go.Proofs.YtabmlbnnhhpaoaaGreatDoor
set_option maxHeartbeats 4000000
set_option maxRecDepth 100000
namespace Go.Proofs.YtabmlbnnhhpaoaaGreatDoor
open Go.RowKit Go.Shelf
namespace Asm
def takeAt (at_ : Nat) : List Lab → List UInt8 × List Lab
 | [] => ([], [])
 | x :: l => if x.2 = at_ then (x.1 ++ [58, 10] ++ (takeAt at_ l).1, (takeAt at_ l).2) else ([], x :: l)
def labText (l : List Lab) : List UInt8 := l.flatMap fun x => x.1 ++ [58, 10]
theorem takeAt_len (a : Nat) : ∀ l : List Lab, (takeAt a l).1.length + (labText (takeAt a l).2).length = (labText l).length
 | [] => rfl
 | x :: l => by
  have := takeAt_len a l
  unfold takeAt
  split
  · simp [labText] at this ⊢; omega
  · simp
structure Stays (n0 bb lb : Nat) (w w' : World) : Prop where
 os : w'.os = w.os
 tape : w'.tape = w.tape
 output : w'.output = w.output
 size : w.heap.size ≤ w'.heap.size
 block : ∀ g o, w.heap[g]? = some o → g ≠ bb → g ≠ lb → (g < n0 ∨ ∀ cs fr, o ≠ .cells cs 5 fr) → w'.heap[g]? = some o
theorem Stays.refl (n0 bb lb : Nat) (w : World) : Stays n0 bb lb w w := ⟨rfl, rfl, rfl, Nat.le_refl _, fun _ _ h _ _ _ => h⟩
theorem Stays.trans {n0 bb lb : Nat} {w w1 w2 : World} (h : Stays n0 bb lb w w1) (k : Stays n0 bb lb w1 w2) : Stays n0 bb lb w w2 :=
 ⟨k.os.trans h.os, k.tape.trans h.tape, k.output.trans h.output, Nat.le_trans h.size k.size, fun g o h1 h2 h3 h4 => k.block g o (h.block g o h1 h2 h3 h4) h2 h3 h4⟩
theorem Stays.of_below {n0 bb lb : Nat} {w w1 : World} (h : Below w.heap.size w w1) : Stays n0 bb lb w w1 := ⟨h.os, h.tape, h.output, h.size, fun g o h1 _ _ _ => blk_keep h h1⟩
theorem Stays.below {n0 bb lb : Nat} {w w' : World} (h : Stays n0 bb lb w w') (hb : n0 ≤ bb) (hl : n0 ≤ lb) (hn : n0 ≤ w.heap.size) : Below n0 w w' :=
 ⟨h.os, h.tape, h.output, h.size, fun g hg => by
  have hlt : g < w.heap.size := by omega
  have := h.block g _ (Array.getElem?_eq_getElem hlt) (by omega) (by omega) (.inl hg)
  rw [this, Array.getElem?_eq_getElem hlt]⟩
theorem Stays.of_write {n0 bb lb : Nat} {v : Value} {t : List UInt8} {w w' : World} (hB : Bld n0 bb v t w) (h : Off (fun g => g = bb ∨ v.ownBlock = some g) w w') : Stays n0 bb lb w w' :=
 ⟨h.os, h.tape, h.output, h.size, fun g o h1 h2 _ h4 => (h.block g (blk_size h1) (fun e => by
  rcases e with e | e
  · exact h2 e
  · obtain ⟨p, _, _, _, hr⟩ := hB
    obtain ⟨cur, hc⟩ := row_type hr e
    rw [h1] at hc
    rcases h4 with h4 | h4
    · have := (row_lt hr g e).1; omega
    · exact h4 _ _ (Option.some.inj hc))).trans h1⟩
theorem Bld.below {n0 b : Nat} {v : Value} {t : List UInt8} {w w' : World} (h : Bld n0 b v t w) (hb : Below w.heap.size w w') : Bld n0 b v t w' := by
 obtain ⟨p, hp, hB, hk, hr⟩ := h
 exact .mk' hp hB.1 (blk_keep hb hk) (ownsRow_below' hr hb)
theorem Bld.setOther {n0 b : Nat} {v : Value} {t : List UInt8} {w : World} (h : Bld n0 b v t w) {g : Nat} {cur : Array Value} {T : TypeId} {fr : Nat × Nat} (hg : w.heap[g]? = some (.cells cur T fr)) (h1 : T ≠ 5) (h2 : T ≠ 85) (i : Nat) (x : Value) : Bld n0 b v t (w.setCell ⟨g, i, none⟩ x) := by
 obtain ⟨p, hp, hB, hk, hr⟩ := h
 have hgr := setCell_grown w g i x
 refine .mk' hp hB.1 ((hgr.block b (blk_size hk) (fun e => by cases e; rw [hg] at hk; cases hk; exact h2 rfl)).trans hk) (hr.kept hgr (.inr fun e => ?_))
 obtain ⟨c, hc⟩ := row_type hr e
 rw [hg] at hc
 cases hc
 exact h1 rfl
theorem Stays.setLeft (n0 bb lb : Nat) (w : World) (i : Nat) (x : Value) : Stays n0 bb lb w (w.setCell ⟨lb, i, none⟩ x) := by
 have hg := setCell_grown w lb i x
 exact ⟨hg.os, hg.tape, hg.output, hg.size, fun g o h1 h2 h3 h4 => (hg.block g (blk_size h1) (fun e => h3 (Option.some.inj e))).trans h1⟩
def RowLow (n0 : Nat) (w : World) (v : Value) (n : Nat) (xs : List Value) : Prop :=
 ∃ p cap, v = .slice p n cap ∧ n ≤ cap ∧ cap ≤ maxLen ∧ (n ≠ 0 → ∃ g o cur T fr, p = some ⟨g, o, none⟩ ∧ g < n0 ∧ w.heap[g]? = some (.cells cur T fr) ∧ ∀ (j : Nat) (u : Value), xs[j]? = some u → cur[o + j]? = some u)
theorem RowLow.of_view {w : World} {T : TypeId} {v : Value} {n : Nat} {xs : List Value} (h : RowView w T v n xs) : RowLow w.heap.size w v n xs := by
 obtain ⟨p, cap, e, h1, h2, h3⟩ := h
 refine ⟨p, cap, e, h1, h2, fun hn => ?_⟩
 obtain ⟨g, o, cur, fr, ep, hg, hu⟩ := h3 hn
 exact ⟨g, o, cur, T, fr, ep, blk_size hg, hg, hu⟩
theorem RowLow.keep {n0 : Nat} {w w' : World} {v : Value} {n : Nat} {xs : List Value} (h : RowLow n0 w v n xs) (hk : ∀ (g : Nat) (o : Obj), g < n0 → w.heap[g]? = some o → w'.heap[g]? = some o) : RowLow n0 w' v n xs := by
 obtain ⟨p, cap, e, h1, h2, h3⟩ := h
 refine ⟨p, cap, e, h1, h2, fun hn => ?_⟩
 obtain ⟨g, o, cur, T, fr, ep, hl, hg, hu⟩ := h3 hn
 exact ⟨g, o, cur, T, fr, ep, hl, hk g _ hl hg, hu⟩
theorem RowLow.below {n0 : Nat} {w w' : World} {v : Value} {n : Nat} {xs : List Value} (h : RowLow n0 w v n xs) (hb : Below w.heap.size w w') : RowLow n0 w' v n xs := h.keep fun g o _ hg => blk_keep hb hg
theorem RowLow.stays {n0 bb lb : Nat} {w w' : World} {v : Value} {n : Nat} {xs : List Value} (h : RowLow n0 w v n xs) (hs : Stays n0 bb lb w w') (hb : n0 ≤ bb) (hl : n0 ≤ lb) : RowLow n0 w' v n xs := h.keep fun g o hg hk => hs.block g o hk (by omega) (by omega) (.inl hg)
theorem RowLow.cells {n0 : Nat} {w : World} {v : Value} {n : Nat} {xs : List Value} (h : RowLow n0 w v n xs) (hn : n ≠ 0) :
 ∃ g o cap, v = .slice (some ⟨g, o, none⟩) n cap ∧ n ≤ cap ∧ cap ≤ maxLen ∧ g < w.heap.size ∧ ∀ (j : Nat) (u : Value), xs[j]? = some u → w.cell? ⟨g, o + j, none⟩ = some u := by
 obtain ⟨p, cap, rfl, h1, h2, h3⟩ := h
 obtain ⟨g, o, cur, T, fr, rfl, hl, hg, hu⟩ := h3 hn
 exact ⟨g, o, cap, rfl, h1, h2, blk_size hg, fun j u hj => by rw [cell_of_row w g (o + j) cur T fr hg]; exact hu j u hj⟩
theorem labs_tail {n0 : Nat} {w : World} {x : Lab} {l : List Lab} {g o cap : Nat} (h : RowLow n0 w (.slice (some ⟨g, o, none⟩) (l.length + 1) cap) (l.length + 1) ((x :: l).flatMap labCells)) (v : Value)
 (hv : v = .slice (some ⟨g, o + 2, none⟩) l.length (cap - 1) ∨ (cap = 1 ∧ v = .slice (some ⟨g, o, none⟩) l.length 0)) : RowLow n0 w v l.length (l.flatMap labCells) := by
 obtain ⟨p, c, e, h1, h2, h3⟩ := h
 injection e with e1 e2 e3
 subst e1
 subst e3
 obtain ⟨g', o', cur, T, fr, ep, hl, hg, hu⟩ := h3 (by omega)
 injection ep with ep
 injection ep with ep1 ep2 ep3
 subst ep1
 subst ep2
 rcases hv with rfl | ⟨rfl, rfl⟩
 · refine ⟨_, _, rfl, by omega, by omega, fun _ => ⟨g, o + 2, cur, T, fr, rfl, hl, hg, fun j u hj => ?_⟩⟩
   have := hu (j + 2) u (by rw [List.flatMap_cons, List.getElem?_append_right (by simp [labCells])]; simpa [labCells] using hj)
   rw [show o + 2 + j = o + (j + 2) by omega]
   exact this
 · have : l.length = 0 := by omega
   exact ⟨_, _, rfl, by omega, by omega, fun hn => absurd this hn⟩
theorem dis_round {n0 bb lb : Nat} {v' : Value} {t' s : List UInt8} {x : Lab} {l : List Lab} {g o cap : Nat} {wr w2 : World} {v2 : Value} (hB : Bld n0 bb v' t' wr) (hL : wr.heap[lb]? = some (.cells #[.slice (some ⟨g, o, none⟩) (l.length + 1) cap] 25 (0, 0)))
 (hlb : n0 ≤ lb) (hv : RowLow n0 wr (.slice (some ⟨g, o, none⟩) (l.length + 1) cap) (l.length + 1) ((x :: l).flatMap labCells)) (hB2 : Bld n0 bb v2 (t' ++ s) w2) (ho2 : Off (fun g => g = bb ∨ v'.ownBlock = some g) wr w2) :
 w2.heap[lb]? = some (.cells #[.slice (some ⟨g, o, none⟩) (l.length + 1) cap] 25 (0, 0)) ∧ ∀ v, (v = .slice (some ⟨g, o + 2, none⟩) l.length (cap - 1) ∨ (cap = 1 ∧ v = .slice (some ⟨g, o, none⟩) l.length 0)) →
  Bld n0 bb v2 (t' ++ s) (w2.setCell ⟨lb, 0, none⟩ v) ∧ (w2.setCell ⟨lb, 0, none⟩ v).heap[lb]? = some (.cells #[v] 25 (0, 0)) ∧ RowLow n0 (w2.setCell ⟨lb, 0, none⟩ v) v l.length (l.flatMap labCells) ∧ Stays n0 bb lb wr (w2.setCell ⟨lb, 0, none⟩ v) := by
 have st := Stays.of_write (lb := lb) hB ho2
 have k2 : w2.heap[lb]? = some (.cells #[.slice (some ⟨g, o, none⟩) (l.length + 1) cap] 25 (0, 0)) := (ho2.block lb (blk_size hL) (fun e => by
  obtain ⟨p, _, _, hk, hr⟩ := hB
  rcases e with e | e
  · rw [e, hk] at hL; cases hL
  · obtain ⟨c, hc⟩ := row_type hr e
    rw [hL] at hc
    cases hc)).trans hL
 refine ⟨k2, fun v hvv => ⟨hB2.setOther k2 (by decide) (by decide) 0 v, setCell_row k2 0 v rfl, ?_, st.trans (Stays.setLeft _ _ _ _ _ _)⟩⟩
 have hbb : n0 ≤ bb := by obtain ⟨p, _, hb, _⟩ := hB; exact hb.1
 exact ((labs_tail (hv.stays st hbb hlb) v hvv).stays (Stays.setLeft n0 bb lb _ 0 v) hbb hlb)
def leftLen (lb : Nat) (w : World) : Nat := match w.cell? ⟨lb, 0, none⟩ with | some (.slice _ n _) => n | _ => 0
end Asm
theorem dislab_calls (n0 bb lb at_ : Nat) (v : Value) (t : List UInt8) (ls : List Asm.Lab) (lv : Value) (w : World) (hat : at_ ≤ 4294967296) (hB : Asm.Bld n0 bb v t w) (hl : w.heap[lb]? = some (.cells #[lv] 25 (0, 0))) (hv : Asm.RowLow n0 w lv ls.length (ls.flatMap Asm.labCells))
 (hn0 : n0 ≤ w.heap.size) (hlb : n0 ≤ lb) (hlen : t.length + (Asm.labText ls).length ≤ 140737488355328) (hls : ∀ x ∈ ls, x.2 < 4294967296) :
 Calls Tryz.prog 31 #[.int .i64 (at_ : Int), .pointer (some ⟨lb, 0, none⟩), .pointer (some ⟨bb, 0, none⟩)] w fun e w' => e = .returned (.tuple #[]) ∧ ∃ v' lv', Asm.Bld n0 bb v' (t ++ (Asm.takeAt at_ ls).1) w' ∧ w'.heap[lb]? = some (.cells #[lv'] 25 (0, 0)) ∧ Asm.RowLow n0 w' lv' (Asm.takeAt at_ ls).2.length ((Asm.takeAt at_ ls).2.flatMap Asm.labCells) ∧ Asm.Stays n0 bb lb w w' := by
 obtain ⟨T, hT⟩ : ∃ T, t.length + (Asm.labText ls).length = T := ⟨_, rfl⟩
 rw [hT] at hlen
 have HT := Lib.hid hT
 have HL := Lib.hid hl
 have HX := Lib.hid hls
 clear hT hl hls
 go_enter Tryz.func31, Tryz.ntmps31
 go_wp2_with fail
 go_loopw [4] (fun _ wr => ∃ (t' : List UInt8) (ls' : List Asm.Lab) (v' lv' : Value), Hid (t ++ (Asm.takeAt at_ ls).1 = t' ++ (Asm.takeAt at_ ls').1 ∧ (Asm.takeAt at_ ls).2 = (Asm.takeAt at_ ls').2) ∧ Hid (Asm.Bld n0 bb v' t' wr) ∧ Hid (wr.heap[lb]? = some (.cells #[lv'] 25 (0, 0))) ∧ Asm.RowLow n0 wr lv' ls'.length (ls'.flatMap Asm.labCells) ∧ Hid (t'.length + (Asm.labText ls').length = T ∧ ∀ x ∈ ls', x.2 < 4294967296) ∧ Hid (Asm.Stays n0 bb lb w wr)) (fun _ wr => Asm.leftLen lb wr)
 case atStart => exact ⟨t, ls, v, lv, Lib.hid ⟨rfl, rfl⟩, Lib.hid hB, HL, hv, Lib.hid ⟨HT.out, HX.out⟩, Lib.hid (Asm.Stays.refl _ _ _ _)⟩
 case round =>
  clear hB hv HL HT HX
  obtain ⟨t', ls', v', lv', HR, HB, HL, hv, HT, HS⟩ := hrel
  have c0 : wr.cell? ⟨lb, 0, none⟩ = some lv' := (blk_facts HL.out).1 0
  have zl := blk_size HL.out
  have f0 : wr.frozen? ⟨lb, 0, none⟩ = false := (blk_facts HL.out).2 0
  cases ls' with
  | nil =>
   have hv0 := hv
   obtain ⟨p, cap, rfl, _⟩ := hv
   simp only [List.length_nil] at c0
   have fin : ∃ v2 lv2, Asm.Bld n0 bb v2 (t ++ (Asm.takeAt at_ ls).1) wr ∧ wr.heap[lb]? = some (.cells #[lv2] 25 (0, 0)) ∧ Asm.RowLow n0 wr lv2 (Asm.takeAt at_ ls).2.length ((Asm.takeAt at_ ls).2.flatMap Asm.labCells) ∧ Asm.Stays n0 bb lb w wr := by
    rw [HR.out.1, HR.out.2]
    exact ⟨_, _, by simpa [Asm.takeAt] using HB.out, HL.out, hv0, HS.out⟩
   have FIN := Lib.hid fin
   clear fin hv0
   go_wp2_with fail
   go_end0
   exact ⟨rfl, FIN.out⟩
  | cons x l =>
   obtain ⟨g, o, cap, rfl, hc1, hc2, hg, hcell⟩ := hv.cells (by simp)
   have e0 : wr.cell? ⟨g, o, none⟩ = some (.string ⟨x.1.toArray⟩) := hcell 0 _ rfl
   have e1 : wr.cell? ⟨g, o + 1, none⟩ = some (.int .u32 (x.2 : Int)) := hcell 1 _ rfl
   clear hcell
   have hx2 : (x.2 : Int) < 4294967296 := by have := HT.out.2 x (by simp); omega
   have HV := Lib.hid hv
   simp only [List.length_cons] at hc1 hv c0
   by_cases hx : x.2 = at_
   · have hxi : ((x.2 : Int) == (at_ : Int)) = true := by simp [hx]
     have hsz : t'.length + (x.1.length + 2) + (Asm.labText l).length = T := by have := HT.out.1; simp [Asm.labText] at this ⊢; omega
     have s1 : ¬ (9223372036854775807 < x.1.length + 2) := by omega
     have hcat : (⟨x.1.toArray⟩ : ByteArray) ++ ⟨#[58, 10]⟩ = ⟨(x.1 ++ [58, 10]).toArray⟩ := by apply ByteArray.ext; simp
     have hW := bld_write n0 bb v' t' (x.1 ++ [58, 10]) wr HB.out (by simp; omega) (Nat.le_trans hn0 HS.out.size)
     rw [← hcat] at hW
     have HW := Lib.hid hW
     clear hcat hW
     go_wp2_with fail
     refine HW.out.mono ?_
     rintro e w2 ⟨rfl, v2, hB2, ho2⟩
     obtain ⟨k2, hfin⟩ := Asm.dis_round (s := x.1 ++ [58, 10]) HB.out HL.out hlb hv hB2 ho2
     have d0 : w2.cell? ⟨lb, 0, none⟩ = some (.slice (some ⟨g, o, none⟩) (l.length + 1) cap) := (blk_facts k2).1 0
     have d1 : w2.frozen? ⟨lb, 0, none⟩ = false := (blk_facts k2).2 0
     have z2 := blk_size k2
     have hR1 : t ++ (Asm.takeAt at_ ls).1 = (t' ++ (x.1 ++ [58, 10])) ++ (Asm.takeAt at_ l).1 ∧ (Asm.takeAt at_ ls).2 = (Asm.takeAt at_ l).2 := by
      have e : Asm.takeAt at_ (x :: l) = (x.1 ++ [58, 10] ++ (Asm.takeAt at_ l).1, (Asm.takeAt at_ l).2) := by rw [Asm.takeAt, if_pos hx]
      rw [HR.out.1, HR.out.2, e]
      simp
     have hT1 : (t' ++ (x.1 ++ [58, 10])).length + (Asm.labText l).length = T := by simp only [List.length_append, List.length_cons, List.length_nil]; omega
     have HR1 := Lib.hid hR1
     have HT1 := Lib.hid (And.intro hT1 (fun y (hy : y ∈ l) => HT.out.2 y (List.mem_cons_of_mem x hy)))
     have HF := Lib.hid hfin
     have hmes : Asm.leftLen lb wr = l.length + 1 := by unfold Asm.leftLen; rw [c0]
     have HM := Lib.hid hmes
     clear hR1 hT1 hfin k2 ho2 hmes hsz hxi
     by_cases hc1' : cap = 1
     · subst hc1'
       have hl0 : l.length = 0 := by omega
       obtain ⟨q1, q2, q3, q4⟩ := HF.out _ (.inr ⟨rfl, rfl⟩)
       rw [hl0] at q1 q2 q3 q4 d0
       have Q := Lib.hid (And.intro q1 (And.intro q2 (And.intro q3 q4)))
       clear q1 q2 q3 q4
       go_wp2_with fail
       refine ⟨⟨_, l, v2, _, HR1, Lib.hid Q.out.1, Lib.hid Q.out.2.1, by rw [hl0]; exact Q.out.2.2.1, HT1, Lib.hid (HS.out.trans Q.out.2.2.2)⟩, ?_⟩
       have hm2 : Asm.leftLen lb (w2.setCell ⟨lb, 0, none⟩ (.slice (some ⟨g, o, none⟩) 0 0)) = 0 := by unfold Asm.leftLen; rw [(blk_facts Q.out.2.1).1 0]; rfl
       rw [hm2, HM.out]
       omega
     · obtain ⟨q1, q2, q3, q4⟩ := HF.out _ (.inl rfl)
       have Q := Lib.hid (And.intro q1 (And.intro q2 (And.intro q3 q4)))
       clear q1 q2 q3 q4
       go_wp2_with fail
       refine ⟨⟨_, l, v2, _, HR1, Lib.hid Q.out.1, Lib.hid Q.out.2.1, Q.out.2.2.1, HT1, Lib.hid (HS.out.trans Q.out.2.2.2)⟩, ?_⟩
       have hm2 : Asm.leftLen lb (w2.setCell ⟨lb, 0, none⟩ (.slice (some ⟨g, o + 2, none⟩) l.length (cap - 1))) = l.length := by unfold Asm.leftLen; rw [(blk_facts Q.out.2.1).1 0]; rfl
       rw [hm2, HM.out]
       omega
   · have hxi : ((x.2 : Int) == (at_ : Int)) = false := by simp; omega
     have hxn : (x.2 == at_) = false := by simp; omega
     have fin : ∃ v2 lv2, Asm.Bld n0 bb v2 (t ++ (Asm.takeAt at_ ls).1) wr ∧ wr.heap[lb]? = some (.cells #[lv2] 25 (0, 0)) ∧ Asm.RowLow n0 wr lv2 (Asm.takeAt at_ ls).2.length ((Asm.takeAt at_ ls).2.flatMap Asm.labCells) ∧ Asm.Stays n0 bb lb w wr := by
      rw [HR.out.1, HR.out.2]
      have e : Asm.takeAt at_ (x :: l) = ([], x :: l) := by unfold Asm.takeAt; rw [if_neg hx]
      rw [e]
      exact ⟨_, _, by simpa using HB.out, HL.out, HV.out, HS.out⟩
     have FIN := Lib.hid fin
     clear fin
     go_wp2_with fail
     go_end0
     exact ⟨rfl, FIN.out⟩
end Go.Proofs.YtabmlbnnhhpaoaaGreatDoor
set_option maxHeartbeats 4000000
set_option maxRecDepth 100000
namespace Go.Proofs.YtabmlbnnhhpaoaaGreatDoor
open Go.RowKit Go.Shelf
namespace Asm
def labelsOk (o to_ : Nat) : List (List UInt8) → List Lab → Bool
 | _, [] => true
 | seen, x :: l => nameOk x.1 && (!seen.contains x.1 && (decide (x.2 % 4 = 0) && (decide (o ≤ x.2) && (decide (x.2 ≤ to_) && labelsOk o to_ (x.1 :: seen) l))))
def sound (o n : Nat) (ls : List Lab) : Bool :=
 decide (o % 4 = 0) && (decide (n ≤ 4096) && (decide (o + 4 * n ≤ 4294967296) && (labelsOk o (o + 4 * n) [] ls && rises ls)))
end Asm
theorem sound_calls {T : TypeId} (o n : Nat) (ho : o < 4294967296) (hn : n ≤ 140737488355328) (pw : Option Addr) (cw : Nat) (ls : List Asm.Lab) (lv : Value) (w : World) (hv : Asm.RowView w T lv ls.length (ls.flatMap Asm.labCells)) (hll : ls.length ≤ 140737488355328)
 (hnm : ∀ x ∈ ls, x.1.length ≤ 9223372036854775806 ∧ x.2 < 4294967296) :
 Calls Tryz.prog 28 #[.agg #[.int .u32 (o : Int), .slice pw n cw, lv]] w fun e w' => e = .returned (.bool (Asm.sound o n ls)) ∧ Below w.heap.size w w' := by
 have hmm := @run_makeMap Tryz.prog
 obtain ⟨pl, cl, rfl⟩ : ∃ p c, lv = .slice p ls.length c := by obtain ⟨p, c, e, _⟩ := hv; exact ⟨p, c, e⟩
 have HV := Lib.hid hv
 have HM := Lib.hid hnm
 clear hv hnm
 have K0 := heap_alloc_new w (.cells #[.int .u32 (o : Int), .slice pw n cw, .slice pl ls.length cl] 27)
 have B0 : Below w.heap.size w (w.alloc (.cells #[.int .u32 (o : Int), .slice pw n cw, .slice pl ls.length cl] 27)) := below_alloc' (Below.refl _ _) _
 obtain ⟨len, hlen⟩ : ∃ len, ls.length = len := ⟨_, rfl⟩
 rw [hlen] at K0 B0 hll ⊢
 have HLEN := Lib.hid hlen
 clear hlen
 have w4 : IntKind.i64.wrap (4 * (n : Int)) = 4 * (n : Int) := IntWalk.i64_in _ (by omega)
 have w5 : IntKind.i64.wrap ((o : Int) + 4 * (n : Int)) = (o : Int) + 4 * (n : Int) := IntWalk.i64_in _ (by omega)
 go_enter Tryz.func28, Tryz.ntmps28
 go_wp2_with fail
 go_quiet (fail)
 by_cases h4 : o % 4 = 0
 · have q1 : ((o : Int) % 4 != 0) = false := by simp; omega
   by_cases hn4 : n ≤ 4096
   · have q2 : decide ((4096 : Int) < (n : Int)) = false := by simp; omega
     by_cases hto : o + 4 * n ≤ 4294967296
     · have q3 : decide (4294967296 < (o : Int) + 4 * (n : Int)) = false := by simp; omega
       go_wp2_with fail
       have BA : Below w.heap.size w (((w.alloc (.cells #[.int .u32 (o : Int), .slice pw n cw, .slice pl len cl] 27)).drewN nq).alloc (.map #[] 0)) := below_alloc' (below_drewN' B0 _) _
       have KA : (((w.alloc (.cells #[.int .u32 (o : Int), .slice pw n cw, .slice pl len cl] 27)).drewN nq).alloc (.map #[] 0)).heap[w.heap.size]? = some (.cells #[.int .u32 (o : Int), .slice pw n cw, .slice pl len cl] 27 (0, 0)) := blk_alloc _ (by simpa using K0)
       have MA : (((w.alloc (.cells #[.int .u32 (o : Int), .slice pw n cw, .slice pl len cl] 27)).drewN nq).alloc (.map #[] 0)).ownsMap Tryz.prog 9 Asm.RV (w.heap.size + 1) 0 (.map []) := by
        have h := World.ownsMap_made ((w.alloc (.cells #[.int .u32 (o : Int), .slice pw n cw, .slice pl len cl] 27)).drewN nq) Tryz.prog 9 Asm.RV
        rw [show ((w.alloc (.cells #[.int .u32 (o : Int), .slice pw n cw, .slice pl len cl] 27)).drewN nq).heap.size = w.heap.size + 1 by simp] at h
        exact h
       have HA := Lib.hid BA
       have HMA := Lib.hid MA
       clear BA MA B0 K0
       go_loopw [36] (fun v wr => ∃ (k : Nat) (seen : List (List UInt8)), v = .int .i64 (k : Int) ∧ k ≤ len ∧ Hid (Asm.labelsOk o (o + 4 * n) [] ls = Asm.labelsOk o (o + 4 * n) seen (ls.drop k)) ∧ wr.heap[w.heap.size]? = some (.cells #[.int .u32 (o : Int), .slice pw n cw, .slice pl len cl] 27 (0, 0)) ∧ Hid (∃ D, wr.ownsMap Tryz.prog 9 Asm.RV (w.heap.size + 1) k D ∧ ∀ x, D.atKey (.string x) (.held (.bool false)) = .held (.bool (seen.contains x))) ∧ Hid (Below w.heap.size w wr)) (fun v _ => len - (intOf v).toNat)
       case atStart => exact ⟨0, [], rfl, Nat.zero_le _, Lib.hid rfl, KA, Lib.hid ⟨_, HMA.out, fun x => rfl⟩, HA⟩
       case round =>
        clear KA HA HMA
        obtain ⟨k, seen, rfl, hk, HR, KB, HD, HB⟩ := hrel
        by_cases hlt : k < len
        · obtain ⟨x, hx⟩ : ∃ x, ls[k]? = some x := ⟨ls[k]'(by have := HLEN.out; omega), List.getElem?_eq_getElem _⟩
          obtain ⟨g, og, cap, ep, hc1, hc2, hg, hcell⟩ := HV.out.cells (by have := HLEN.out; omega)
          injection ep with ep1 ep2 ep3
          subst ep1
          subst ep3
          have a1 := Asm.labs_at ls k x hx
          have c0 : wr.cell? ⟨g, og + k * 2, none⟩ = some (.string ⟨x.1.toArray⟩) := (HB.out.cell (p := ⟨g, og + k * 2, none⟩) hg).trans (hcell _ _ a1.1)
          have c1 : wr.cell? ⟨g, og + k * 2 + 1, none⟩ = some (.int .u32 (x.2 : Int)) := (HB.out.cell (p := ⟨g, og + k * 2 + 1, none⟩) hg).trans (hcell _ _ a1.2)
          obtain ⟨hx1, hx2⟩ := HM.out x (List.mem_of_getElem? hx)
          have ix := fun W => idx_lab g og len cl k hlt W
          have hdrop : ls.drop k = x :: ls.drop (k + 1) := by
           obtain ⟨h1, h2⟩ := List.getElem?_eq_some_iff.1 hx
           rw [List.drop_eq_getElem_cons h1, h2]
          have hstep : Asm.labelsOk o (o + 4 * n) seen (ls.drop k) = (Asm.nameOk x.1 && (!seen.contains x.1 && (decide (x.2 % 4 = 0) && (decide (o ≤ x.2) && (decide (x.2 ≤ o + 4 * n) && Asm.labelsOk o (o + 4 * n) (x.1 :: seen) (ls.drop (k + 1))))))) := by rw [hdrop]; rfl
          have HS := Lib.hid hstep
          clear hcell a1 hdrop hstep hc1 hc2
          have BX : Below w.heap.size w (wr.alloc (.cells #[.string ⟨x.1.toArray⟩, .int .u32 (x.2 : Int)] 42)) := below_alloc' HB.out _
          have KX := heap_alloc_new wr (.cells #[.string ⟨x.1.toArray⟩, .int .u32 (x.2 : Int)] 42)
          have KBX := blk_alloc (.cells #[.string ⟨x.1.toArray⟩, .int .u32 (x.2 : Int)] 42) KB
          have hBX := Lib.hid BX
          have hKX := Lib.hid KX
          have hKBX := Lib.hid KBX
          clear BX KX KBX
          go_wp2_with fail
          refine (asmName_calls x.1 hx1 _).mono ?_
          rintro e w1 ⟨rfl, h9⟩
          rw [h9]
          clear h9
          cases hnm : Asm.nameOk x.1 with
          | false =>
           have hres : Asm.sound o n ls = false := by unfold Asm.sound; rw [HR.out, HS.out, hnm]; simp
           go_wp2_with fail
           go_ret
           exact ⟨by rw [hres]; rfl, hBX.out⟩
          | true =>
           obtain ⟨D, hD, hat⟩ := HD.out
           have hkey : keyOf Tryz.prog 9 (.string ⟨x.1.toArray⟩) = some (.string x.1) := Go.WideMaps.keyOf_string_mk Tryz.underlying9 (by simp [ByteArray.size, maxLen]; omega)
           obtain ⟨v, ps, hlk, hv0⟩ := (hD.alloc (.cells #[.string ⟨x.1.toArray⟩, .int .u32 (x.2 : Int)] 42)).lookup (Maps.string_keyed Tryz.underlying9) Tryz.underlying136 (Tryz.zeroValue4 _) (show Asm.RV (.bool false) = _ from rfl) hkey
           rw [hat x.1] at hv0
           have hvb : v = .bool (seen.contains x.1) := by injection (congrArg Prod.fst (Option.some.inj hv0))
           subst hvb
           obtain ⟨W2, hup, hD2, hg2⟩ := (hD.alloc (.cells #[.string ⟨x.1.toArray⟩, .int .u32 (x.2 : Int)] 42)).update (Maps.string_keyed Tryz.underlying9) Tryz.underlying136 (by unfold maxLen; omega) hkey (show Asm.RV (.bool true) = _ from rfl)
           have hat2 : ∀ y, (D.put (.string x.1) (.held (.bool true))).atKey (.string y) (.held (.bool false)) = .held (.bool ((x.1 :: seen).contains y)) := by
            intro y
            by_cases hy : y = x.1
            · subst hy
              rw [Maps.atKey_put_same hD.isMap (by simp [WideAt.IsKeyLit])]
              simp
            · rw [Maps.atKey_put_other (by intro e; injection e with e; exact hy e), hat y]
              simp [hy]
           have hl2 := (hg2.block w.heap.size (blk_size hKBX.out) (fun e => by have := Option.some.inj e; omega)).trans hKBX.out
           have hb2 : Below w.heap.size w W2 := hBX.out.grown hg2 hBX.out.size (fun k e => by cases e; omega)
           have HU := Lib.hid hup
           have HL2 := Lib.hid hl2
           have HLK := Lib.hid hlk
           clear hup hl2 hlk hv0
           cases hse : seen.contains x.1 with
           | true =>
            have hres : Asm.sound o n ls = false := by unfold Asm.sound; rw [HR.out, HS.out, hnm, hse]; simp
            have hlk := HLK.out
            rw [hse] at hlk
            go_wp2_with fail
            go_ret
            exact ⟨by rw [hres]; rfl, hBX.out⟩
           | false =>
            have hlk := HLK.out
            rw [hse] at hlk
            by_cases m4 : x.2 % 4 = 0
            · have m4' : ((x.2 : Int) % 4 != 0) = false := by simp; omega
              by_cases mo : o ≤ x.2
              · have mo' : decide ((x.2 : Int) < (o : Int)) = false := by simp; omega
                by_cases mt : x.2 ≤ o + 4 * n
                · have mt' : decide ((o : Int) + 4 * (n : Int) < (x.2 : Int)) = false := by simp; omega
                  have hup := HU.out
                  have hl2 := HL2.out
                  go_wp2_with fail
                  go_roundw
                  case rel => exact ⟨k + 1, x.1 :: seen, by go_num, by omega, Lib.hid (by rw [HR.out, HS.out, hnm, hse]; simp [m4, mo, mt]), HL2.out, Lib.hid ⟨_, hD2, hat2⟩, Lib.hid hb2⟩
                  case measure => simp [intOf]; omega
                · have hres : Asm.sound o n ls = false := by unfold Asm.sound; rw [HR.out, HS.out, decide_eq_false mt]; simp
                  have mt' : decide ((o : Int) + 4 * (n : Int) < (x.2 : Int)) = true := by simp; omega
                  go_wp2_with fail
                  go_ret
                  exact ⟨by rw [hres]; rfl, hBX.out⟩
              · have hres : Asm.sound o n ls = false := by unfold Asm.sound; rw [HR.out, HS.out, decide_eq_false mo]; simp
                have mo' : decide ((x.2 : Int) < (o : Int)) = true := by simp; omega
                go_wp2_with fail
                go_ret
                exact ⟨by rw [hres]; rfl, hBX.out⟩
            · have hres : Asm.sound o n ls = false := by unfold Asm.sound; rw [HR.out, HS.out, decide_eq_false m4]; simp
              have m4' : ((x.2 : Int) % 4 != 0) = true := by simp; omega
              go_wp2_with fail
              go_ret
              exact ⟨by rw [hres]; rfl, hBX.out⟩
        · obtain rfl : len = ls.length := HLEN.out.symm
          obtain rfl : k = ls.length := by omega
          have c2 : wr.cell? ⟨w.heap.size, 2, none⟩ = some (.slice pl ls.length cl) := (blk_facts KB).1 2
          have hz := blk_size KB
          have hv2 := HV.out.below HB.out
          have hd : ls.drop ls.length = [] := List.drop_eq_nil_of_le (Nat.le_refl _)
          have hres : Asm.sound o n ls = Asm.rises ls := by unfold Asm.sound; rw [HR.out, hd, decide_eq_true h4, decide_eq_true hn4, decide_eq_true hto]; simp [Asm.labelsOk]
          have HRES := Lib.hid hres
          clear hres hd
          go_wp2_with fail
          refine (sorted_calls ls _ _ hv2 hll).mono ?_
          rintro e w2 ⟨rfl, hb2⟩
          go_wp2_with fail
          go_ret
          exact ⟨by rw [HRES.out]; rfl, below_next HB.out hb2⟩
     · have q3 : decide (4294967296 < (o : Int) + 4 * (n : Int)) = true := by simp; omega
       go_wp2_with fail
       go_ret
       exact ⟨by simp [Asm.sound, hto], by first | exact below_drewN' B0 _ | exact B0⟩
   · have q2 : decide ((4096 : Int) < (n : Int)) = true := by simp; omega
     go_wp2_with fail
     go_ret
     exact ⟨by simp [Asm.sound, hn4], by first | exact below_drewN' B0 _ | exact B0⟩
 · have q1 : ((o : Int) % 4 != 0) = true := by simp; omega
   go_wp2_with fail
   go_ret
   exact ⟨by simp [Asm.sound, h4], by first | exact below_drewN' B0 _ | exact B0⟩
end Go.Proofs.YtabmlbnnhhpaoaaGreatDoor
