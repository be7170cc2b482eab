/-
  The walk of one block.
-/
import Derived.Test.YtmeilpehlkpofaaStart
import Derived.StillTailTactics
import Derived.Great.BuildSlice
namespace Go.Proofs.Ytmeilpehlkpofaa
open Go.RowKit
open sha

def xo (x y : W32) : W32 := x ^^^ y
def oo (x y : W32) : W32 := x ||| y
def an (x y : W32) : W32 := x &&& y
def ad (x y : W32) : W32 := x + y
def no (x : W32) : W32 := ~~~x
def sr (n : Nat) (x : W32) : W32 := x >>> n
def sl (n : Nat) (x : W32) : W32 := x <<< n
theorem rule_xo (x y : W32) : bits .xor .u32 (x.toNat : Int) (y.toNat : Int) = ((xo x y).toNat : Int) := xor32 x y
theorem rule_oo (x y : W32) : bits .or .u32 (x.toNat : Int) (y.toNat : Int) = ((oo x y).toNat : Int) := or32 x y
theorem rule_an (x y : W32) : bits .and .u32 (x.toNat : Int) (y.toNat : Int) = ((an x y).toNat : Int) := and32 x y
theorem rule_ad (x y : W32) : ((x.toNat : Int) + (y.toNat : Int)) % 4294967296 = ((ad x y).toNat : Int) := add32 x y
theorem rule_adw (x y : W32) : IntKind.u32.wrap ((x.toNat : Int) + (y.toNat : Int)) = ((ad x y).toNat : Int) := by rw [IntKind.wrap_u32]; exact add32 x y
theorem rule_sr (n : Nat) (x : W32) : (x.toNat : Int) / ((2 ^ n : Nat) : Int) = ((sr n x).toNat : Int) := (shr32 x n).symm
theorem rule_sl (n : Nat) (x : W32) : IntKind.u32.wrap ((x.toNat : Int) * 2 ^ n) = ((sl n x).toNat : Int) := shl32n x n
theorem wp_still_tail_v {P : Program} {id : Nat} {Q : Exit → Act → World → Prop} {a : Act} {w : World} {l : List Oper} (n : Nat) (hm : P.follows .mixedOrders = true) (hB : Region.lexTailB .any l.toArray n = true)
    (h : ∀ w1, w1 = w.drew → wpStill P l.toArray w1 (fun a' => wpList P l.toArray Q (l.drop n) a' w1) (l.take n) a) : (Code.region id l.toArray true).wp P Q a w :=
  wp_region_still_tail n hm hB (h _ rfl)
theorem w8_int (x : UInt8) : ((w8 x).toNat : Int) = (x.toNat : Int) := by
  have := x.toNat_lt
  rw [w8, BitVec.toNat_ofNat, Nat.mod_eq_of_lt (by omega)]
theorem rotl_m (x : W32) (m : Int) (h1 : -31 ≤ m) (h2 : m ≤ -1) (w : World) :
    Calls Try.prog 31 #[.int .u32 (x.toNat : Int), .int .i64 m] w fun e w' => e = .returned (.int .u32 ((rotr x (-m).toNat).toNat : Int)) ∧ w' = w :=
  rotl_any x (-m).toNat m (by omega) (by omega) (by omega) w
theorem fill_get {l : List W32} {j i : Nat} (h : i < j) : (fill l j)[i]? = l[i]? := by
  unfold fill
  rcases Nat.lt_or_ge i l.length with hl | hl
  · rw [List.getElem?_append_left (by rw [List.length_take]; omega), List.getElem?_take, if_pos h]
  · rw [List.getElem?_eq_none hl, List.getElem?_eq_none]
    simp; omega
theorem fill_rest {l : List W32} {j i : Nat} (h : j ≤ i) (hl : i < l.length) : (fill l j)[i]? = some 0 := by
  unfold fill
  rw [List.getElem?_append_right (by rw [List.length_take]; omega), List.length_take, List.getElem?_replicate]
  simp; omega
theorem sch_cell (l : List UInt8) {j i : Nat} (h : i < j) (hj : j ≤ 64) : ∃ x, (fill (sch l 64) j)[i]? = some x ∧ (sch l j).getD i 0 = x := by
  have hi : i < (sch l j).length := by rw [sch_length]; exact h
  refine ⟨(sch l j)[i], ?_, ?_⟩
  · rw [fill_get h, sch_get l h hj, List.getElem?_eq_getElem hi]
  · rw [List.getD_eq_getElem?_getD, List.getElem?_eq_getElem hi]; rfl
theorem sch_next (l : List UInt8) {j : Nat} (h : j < 64) : (sch l 64)[j]? = some (nextW l (sch l j) j) := by
  rw [sch_get l (Nat.lt_succ_self j) (by omega), sch_new]
theorem row_set (l : List W32) (i : Nat) (x : W32) : ((u32s l).toArray).setIfInBounds i (.int .u32 (x.toNat : Int)) = (u32s (l.set i x)).toArray := by
  rw [List.setIfInBounds_toArray, u32s_set]
theorem row_get {l : List W32} {i : Nat} {x : W32} (h : l[i]? = some x) : ((u32s l).toArray)[i]? = some (.int .u32 (x.toNat : Int)) := by
  rw [List.getElem?_toArray]; exact u32s_get h
theorem zero64 (w : World) : (zeroValue 46).run Try.prog w = .ok (.agg (u32s (List.replicate 64 0)).toArray) w := by kernel_rfl

theorem grown_new {w w' : World} {row : Option Nat} {S j : Nat} {u : Value} (h : w.grownBy w' row) (hS : w.heap.size ≤ S) : w.grownBy (w'.setCell ⟨S, j, none⟩ u) row :=
  ⟨h.os, h.tape, h.output, by simpa using h.size, fun k hk hne => by rw [Below.heap_setCell _ _ _ _ (by show k ≠ S; omega)]; exact h.block k hk hne⟩
theorem w8_wrap (y : UInt8) : IntKind.u32.wrap ((w8 y).toNat : Int) = ((w8 y).toNat : Int) := by
  have := (w8 y).isLt
  rw [IntKind.wrap_u32]; omega
theorem blk_cell {w wr : World} {B g o i : Nat} {l : List UInt8} (hb : Rb w B (some ⟨g, o, none⟩) 64 l) (hg : w.grownBy wr none) (hi : i < 64) :
    ∃ y, l.getD i 0 = y ∧ wr.cell? ⟨g, o + i, none⟩ = some (.int .u8 ((w8 y).toNat : Int)) := by
  obtain ⟨b, o', y, hA, hbB, hy, hc⟩ := hb.at_ hi
  cases hA
  refine ⟨y, by rw [List.getD_eq_getElem?_getD, hy]; rfl, ?_⟩
  rw [w8_int, hg.cell hc (by simp)]
theorem zero8 (w : World) : (zeroValue 47).run Try.prog w = .ok (.agg (u32s (List.replicate 8 0)).toArray) w := by kernel_rfl
theorem u32s_one (l : List W32) : ((u32s l).toArray).all (·.oneCell') = true := by
  rw [Array.all_eq_true_iff_forall_mem]
  intro u hu
  simp only [u32s, List.mem_toArray, List.mem_map] at hu
  obtain ⟨x, _, rfl⟩ := hu
  rfl
theorem rule_no (x : W32) : bits .xor .u32 (if IntKind.u32.signed = true then -1 else IntKind.u32.max) (x.toNat : Int) = ((no x).toNat : Int) := by
  rw [show (if IntKind.u32.signed = true then -1 else IntKind.u32.max) = (((-1#32 : W32).toNat : Nat) : Int) from by decide, xor32]
  congr 2
theorem grown_row {w w' : World} {row : Option Nat} {S : Nat} {cs : Array Value} (h : w.grownBy w' row) (hS : w.heap.size ≤ S) : w.grownBy (w'.setRow S cs) row :=
  ⟨h.os, h.tape, h.output, by simpa using h.size, fun k hk hne => by rw [setRow_other _ _ _ _ (by omega)]; exact h.block k hk hne⟩
theorem rounds_next {ks ws : List W32} {v : V8} {j : Nat} {k x : W32} (hk : ks[j]? = some k) (hx : ws[j]? = some x) : rounds ks ws v (j + 1) = rnd (rounds ks ws v j) k x := by
  rw [rounds, List.getD_eq_getElem?_getD, hk, List.getD_eq_getElem?_getD, hx]; rfl
theorem grown_more {w w' : World} {row : Option Nat} {o : Obj} (h : w.grownBy w' row) : w.grownBy (w'.alloc o) row :=
  ⟨h.os, h.tape, h.output, by have := h.size; simp; omega, fun k hk hne => by rw [Below.heap_alloc _ _ _ (by have := h.size; omega)]; exact h.block k hk hne⟩
/-- The first j of a, and what is left of b. -/
def mix (a b : List W32) (j : Nat) : List W32 := a.take j ++ b.drop j
theorem mix_set {a b : List W32} {j : Nat} {x : W32} (hab : a.length = b.length) (h : a[j]? = some x) : (mix a b j).set j x = mix a b (j + 1) := by
  have hj : j < a.length := (List.getElem?_eq_some_iff.1 h).1
  unfold mix
  rw [List.set_append_right _ _ (by rw [List.length_take]; omega), List.length_take, take_snoc h, show j - min j a.length = 0 from by omega, List.drop_eq_getElem_cons (by omega : j < b.length), List.set_cons_zero, List.append_assoc]
  rfl
theorem mix_get {a b : List W32} {j : Nat} (hab : a.length = b.length) (hj : j < b.length) : (mix a b j)[j]? = b[j]? := by
  unfold mix
  rw [List.getElem?_append_right (by rw [List.length_take]; omega), List.length_take, List.getElem?_drop]
  congr 1
  omega
theorem mix_length {a b : List W32} {j : Nat} (hab : a.length = b.length) : (mix a b j).length = b.length := by
  unfold mix; rw [List.length_append, List.length_take, List.length_drop]; omega
theorem mix_all {a b : List W32} {j : Nat} (hab : a.length = b.length) (hj : b.length ≤ j) : mix a b j = a := by
  unfold mix; rw [List.take_of_length_le (by omega), List.drop_eq_nil_of_le hj, List.append_nil]
theorem add8_get {u v : V8} {j : Nat} {x y : W32} (hx : u.l[j]? = some x) (hy : v.l[j]? = some y) : (add8 u v).l[j]? = some (ad x y) := by
  have e : (add8 u v).l = List.zipWith ad u.l v.l := rfl
  rw [e, List.getElem?_zipWith, hx, hy]
theorem grown_row_any {w w' : World} {row : Option Nat} (h : w.grownBy w' none) : w.grownBy w' row := ⟨h.os, h.tape, h.output, h.size, fun k hk _ => h.block k hk (by simp)⟩
set_option maxRecDepth 100000 in
set_option maxHeartbeats 3200000 in
theorem block_any {w : World} {S B N : Nat} {h : V8} {v : Value} {ad0 : Addr} {l : List UInt8} (c : Nat) (hS : w.heap[S]? = some (.cells (stz h.l K v N) 58 (0, 0))) (hb : Rb w B (some ad0) 64 l) (hB : B ≤ w.heap.size) (hc : 64 ≤ c) :
    Calls Try.prog 27 #[.pointer (some ⟨S, 0, none⟩), .slice (some ad0) 64 c] w fun e w' => e = .returned (.tuple #[]) ∧ w'.heap[S]? = some (.cells (stz (eatB h l).l K v N) 58 (0, 0)) ∧ w.grownBy w' (some S) := by
  have hz := zero64
  have hlen := hb.len
  obtain ⟨g, o, x0, hA, hgB, _, _⟩ := hb.at_ (j := 0) (by omega)
  injection hA with hA
  subst hA
  have H := hide (And.intro hS (And.intro hb (And.intro hB (And.intro hc (And.intro hlen hgB)))))
  clear hS hb hB hlen hgB
  go_enter Try.func27, Try.ntmps27
  go_wp2_with fail
  clear hz
  go_loopw [15] (fun i wr => ∃ j : Nat, j ≤ 64 ∧ i = .int .i64 j ∧ wr.heap[w.heap.size]? = some (.cells (u32s (fill (sch l 64) j)).toArray 46 (0, 0)) ∧ w.grownBy wr none ∧ wr.heap.size = w.heap.size + 1)
    (fun i _ => 64 - (intOf i).toNat)
  case atStart => exact ⟨0, by omega, rfl, by rw [fill_zero, sch_length]; exact heap_alloc_new w _, World.grownBy_alloc _ _ _, by simp⟩
  case round =>
    obtain ⟨j, hj, rfl, hW, hg, hsz⟩ := hrel
    by_cases hlt : (j : Int) < 64
    · have hcj : wr.cell? ⟨w.heap.size, j, none⟩ = some (.int .u32 0) := by
        rw [cell_of_row _ _ _ _ _ _ hW, row_get (fill_rest (Nat.le_refl j) (by rw [sch_length]; omega))]; rfl
      have hfj : wr.frozen? ⟨w.heap.size, j, none⟩ = false := frozen_of_row _ _ _ _ _ hW
      by_cases h16 : (j : Int) < 16
      · obtain ⟨y0, ey0, cy0⟩ : ∃ y, l.getD (4 * j) 0 = y ∧ wr.cell? ⟨g, o + 4 * j, none⟩ = some (.int .u8 ((w8 y).toNat : Int)) := blk_cell H.out.2.1 hg (by omega)
        obtain ⟨y1, ey1, cy1⟩ : ∃ y, l.getD (4 * j + 1) 0 = y ∧ wr.cell? ⟨g, o + (4 * j + 1), none⟩ = some (.int .u8 ((w8 y).toNat : Int)) := blk_cell H.out.2.1 hg (by omega)
        obtain ⟨y2, ey2, cy2⟩ : ∃ y, l.getD (4 * j + 2) 0 = y ∧ wr.cell? ⟨g, o + (4 * j + 2), none⟩ = some (.int .u8 ((w8 y).toNat : Int)) := blk_cell H.out.2.1 hg (by omega)
        obtain ⟨y3, ey3, cy3⟩ : ∃ y, l.getD (4 * j + 3) 0 = y ∧ wr.cell? ⟨g, o + (4 * j + 3), none⟩ = some (.int .u8 ((w8 y).toNat : Int)) := blk_cell H.out.2.1 hg (by omega)
        have hnw : nextW l (sch l j) j = oo (oo (oo (sl 24 (w8 y0)) (sl 16 (w8 y1))) (sl 8 (w8 y2))) (w8 y3) := by
          unfold nextW; rw [if_pos (by omega)]; unfold word; rw [ey0, ey1, ey2, ey3]; rfl
        have hnw : (sch l 64)[j]? = some (oo (oo (oo (sl 24 (w8 y0)) (sl 16 (w8 y1))) (sl 8 (w8 y2))) (w8 y3)) := by rw [sch_next l (by omega)]; exact congrArg some hnw
        have i0 : IntKind.i64.wrap (4 * (j : Int)) = 4 * (j : Int) := IntWalk.i64_in _ (by omega)
        have i1 : IntKind.i64.wrap (4 * (j : Int) + 1) = 4 * (j : Int) + 1 := IntWalk.i64_in _ (by omega)
        have i2 : IntKind.i64.wrap (4 * (j : Int) + 2) = 4 * (j : Int) + 2 := IntWalk.i64_in _ (by omega)
        have i3 : IntKind.i64.wrap (4 * (j : Int) + 3) = 4 * (j : Int) + 3 := IntWalk.i64_in _ (by omega)
        have n0 : (4 * (j : Int)).toNat = 4 * j := by omega
        have n1 : (4 * (j : Int) + 1).toNat = 4 * j + 1 := by omega
        have n2 : (4 * (j : Int) + 2).toNat = 4 * j + 2 := by omega
        have n3 : (4 * (j : Int) + 3).toNat = 4 * j + 3 := by omega
        have l0 : (0 : Int) ≤ 4 * (j : Int) := by omega
        have l1 : (0 : Int) ≤ 4 * (j : Int) + 1 := by omega
        have l2 : (0 : Int) ≤ 4 * (j : Int) + 2 := by omega
        have l3 : (0 : Int) ≤ 4 * (j : Int) + 3 := by omega
        have m0 : 4 * (j : Int) < 64 := by omega
        have m1 : 4 * (j : Int) + 1 < 64 := by omega
        have m2 : 4 * (j : Int) + 2 < 64 := by omega
        have m3 : 4 * (j : Int) + 3 < 64 := by omega
        have HJ := hide (And.intro hW (And.intro hg (And.intro hsz (And.intro hnw hj))))
        clear hW hg hsz hnw hj ey0 ey1 ey2 ey3
        have r0 : ∀ y : UInt8, IntKind.u32.wrap ((w8 y).toNat : Int) = ((w8 y).toNat : Int) := w8_wrap
        have r1 := rule_oo
        have r2 : ∀ x : W32, IntKind.u32.wrap ((x.toNat : Int) * 16777216) = ((sl 24 x).toNat : Int) := rule_sl 24
        have r3 : ∀ x : W32, IntKind.u32.wrap ((x.toNat : Int) * 65536) = ((sl 16 x).toNat : Int) := rule_sl 16
        have r4 : ∀ x : W32, IntKind.u32.wrap ((x.toNat : Int) * 256) = ((sl 8 x).toNat : Int) := rule_sl 8
        have q2 : ∀ x : W32, (x.toNat : Int) * 16777216 % 4294967296 = ((sl 24 x).toNat : Int) := fun x => by rw [← rule_sl 24, IntKind.wrap_u32]; rfl
        have q3 : ∀ x : W32, (x.toNat : Int) * 65536 % 4294967296 = ((sl 16 x).toNat : Int) := fun x => by rw [← rule_sl 16, IntKind.wrap_u32]; rfl
        have q4 : ∀ x : W32, (x.toNat : Int) * 256 % 4294967296 = ((sl 8 x).toNat : Int) := fun x => by rw [← rule_sl 8, IntKind.wrap_u32]; rfl
        go_wp2_with fail
        refine wp_still_tail_v 35 (by kernel_rfl) (by kernel_rfl) fun w4 hw4 => ?_
        simp only [List.take_succ_cons, List.take_zero, List.drop_succ_cons, List.drop_zero]
        have p0 : w4.cell? ⟨g, o + 4 * j, none⟩ = some (.int .u8 ((w8 y0).toNat : Int)) := by rw [hw4]; exact cy0
        have p1 : w4.cell? ⟨g, o + (4 * j + 1), none⟩ = some (.int .u8 ((w8 y1).toNat : Int)) := by rw [hw4]; exact cy1
        have p2 : w4.cell? ⟨g, o + (4 * j + 2), none⟩ = some (.int .u8 ((w8 y2).toNat : Int)) := by rw [hw4]; exact cy2
        have p3 : w4.cell? ⟨g, o + (4 * j + 3), none⟩ = some (.int .u8 ((w8 y3).toNat : Int)) := by rw [hw4]; exact cy3
        have pj : w4.cell? ⟨w.heap.size, j, none⟩ = some (.int .u32 0) := by rw [hw4]; exact hcj
        have pf : w4.frozen? ⟨w.heap.size, j, none⟩ = false := by rw [hw4]; exact hfj
        have HW := hide (And.intro hw4 (And.intro cy0 (And.intro cy1 (And.intro cy2 (And.intro cy3 (And.intro hcj hfj))))))
        clear hw4 cy0 cy1 cy2 cy3 hcj hfj
        repeat still_step
        refine wpStill_nil ?_
        go_wp2_with fail
        go_roundw
        case rel =>
          refine ⟨j + 1, by omega, by go_num, ?_, grown_new (by rw [HW.out.1]; exact grown_drewN HJ.out.2.1 1) (Nat.le_refl _), ?_⟩
          · rw [heap_setCell_same _ _ _ _ _ _ (by rw [HW.out.1]; exact HJ.out.1), row_set, fill_set HJ.out.2.2.2.1]
          · rw [World.size_setCell, HW.out.1]; exact HJ.out.2.2.1
        case measure => simp [intOf]; omega
      · obtain ⟨x16, e16, d16⟩ := sch_cell l (j := j) (i := j - 16) (by omega) (by omega)
        obtain ⟨x7, e7, d7⟩ := sch_cell l (j := j) (i := j - 7) (by omega) (by omega)
        obtain ⟨x15, e15, d15⟩ := sch_cell l (j := j) (i := j - 15) (by omega) (by omega)
        obtain ⟨x2, e2, d2⟩ := sch_cell l (j := j) (i := j - 2) (by omega) (by omega)
        have c16 : wr.cell? ⟨w.heap.size, j - 16, none⟩ = some (.int .u32 (x16.toNat : Int)) := by rw [cell_of_row _ _ _ _ _ _ hW, row_get e16]
        have c7 : wr.cell? ⟨w.heap.size, j - 7, none⟩ = some (.int .u32 (x7.toNat : Int)) := by rw [cell_of_row _ _ _ _ _ _ hW, row_get e7]
        have c15 : wr.cell? ⟨w.heap.size, j - 15, none⟩ = some (.int .u32 (x15.toNat : Int)) := by rw [cell_of_row _ _ _ _ _ _ hW, row_get e15]
        have c2 : wr.cell? ⟨w.heap.size, j - 2, none⟩ = some (.int .u32 (x2.toNat : Int)) := by rw [cell_of_row _ _ _ _ _ _ hW, row_get e2]
        have hnw : nextW l (sch l j) j = x16 + x7 + ssig0 x15 + ssig1 x2 := by
          unfold nextW; rw [if_neg (by omega), d16, d7, d15, d2]
        have hnw : (sch l 64)[j]? = some (ad (ad (ad x16 x7) (xo (xo (rotr x15 7) (rotr x15 18)) (sr 3 x15))) (xo (xo (rotr x2 17) (rotr x2 19)) (sr 10 x2))) := by rw [sch_next l (by omega)]; exact congrArg some hnw
        have i16 : IntKind.i64.wrap ((j : Int) - 16) = (j : Int) - 16 := IntWalk.i64_in _ (by omega)
        have i7 : IntKind.i64.wrap ((j : Int) - 7) = (j : Int) - 7 := IntWalk.i64_in _ (by omega)
        have i15 : IntKind.i64.wrap ((j : Int) - 15) = (j : Int) - 15 := IntWalk.i64_in _ (by omega)
        have i2 : IntKind.i64.wrap ((j : Int) - 2) = (j : Int) - 2 := IntWalk.i64_in _ (by omega)
        have n16 : ((j : Int) - 16).toNat = j - 16 := by omega
        have n7 : ((j : Int) - 7).toNat = j - 7 := by omega
        have n15 : ((j : Int) - 15).toNat = j - 15 := by omega
        have n2 : ((j : Int) - 2).toNat = j - 2 := by omega
        have l16 : (0 : Int) ≤ (j : Int) - 16 := by omega
        have l7 : (0 : Int) ≤ (j : Int) - 7 := by omega
        have l15 : (0 : Int) ≤ (j : Int) - 15 := by omega
        have l2 : (0 : Int) ≤ (j : Int) - 2 := by omega
        have k16 : (16 : Int) ≤ (j : Int) := by omega
        have k15 : (15 : Int) ≤ (j : Int) := by omega
        have k7 : (7 : Int) ≤ (j : Int) := by omega
        have k2 : (2 : Int) ≤ (j : Int) := by omega
        have m16 : (j : Int) - 16 < 64 := by omega
        have m7 : (j : Int) - 7 < 64 := by omega
        have m15 : (j : Int) - 15 < 64 := by omega
        have m2 : (j : Int) - 2 < 64 := by omega
        have HJ := hide (And.intro hW (And.intro hg (And.intro hsz (And.intro hnw (And.intro hj h16)))))
        clear hW hg hsz hnw hj e16 d16 e7 d7 e15 d15 e2 d2
        have r1 := rule_xo
        have r2 := rule_ad
        have r3 := rule_adw
        have r4 : ∀ x : W32, (x.toNat : Int) / 8 = ((sr 3 x).toNat : Int) := rule_sr 3
        have r5 : ∀ x : W32, (x.toNat : Int) / 1024 = ((sr 10 x).toNat : Int) := rule_sr 10
        have HR := hide rotl_m
        go_wp2_with fail
        go_quiet (fail)
        rename_i nq
        go_wp2_with fail
        refine wp_still_tail_v 29 (by kernel_rfl) (by kernel_rfl) fun w4 hw4 => ?_
        simp only [List.take_succ_cons, List.take_zero, List.drop_succ_cons, List.drop_zero]
        have p16 : w4.cell? ⟨w.heap.size, j - 16, none⟩ = some (.int .u32 (x16.toNat : Int)) := by rw [hw4]; exact c16
        have p7 : w4.cell? ⟨w.heap.size, j - 7, none⟩ = some (.int .u32 (x7.toNat : Int)) := by rw [hw4]; exact c7
        have pj : w4.cell? ⟨w.heap.size, j, none⟩ = some (.int .u32 0) := by rw [hw4]; exact hcj
        have pf : w4.frozen? ⟨w.heap.size, j, none⟩ = false := by rw [hw4]; exact hfj
        have HW := hide (And.intro hw4 (And.intro c16 (And.intro c7 (And.intro c15 (And.intro c2 (And.intro hcj hfj))))))
        clear hw4 c16 c7 c15 c2 hcj hfj
        repeat still_step
        still_call (HR.out _ _ (by decide) (by decide) _)
        repeat still_step
        still_call (HR.out _ _ (by decide) (by decide) _)
        repeat still_step
        still_call (HR.out _ _ (by decide) (by decide) _)
        repeat still_step
        still_call (HR.out _ _ (by decide) (by decide) _)
        repeat still_step
        refine wpStill_nil ?_
        go_wp2_with fail
        go_roundw
        case rel =>
          refine ⟨j + 1, by omega, by go_num, ?_, grown_new (by rw [HW.out.1]; exact grown_drewN (grown_drewN HJ.out.2.1 nq) 1) (Nat.le_refl _), ?_⟩
          · rw [heap_setCell_same _ _ _ _ _ _ (by rw [HW.out.1]; exact HJ.out.1), row_set, fill_set HJ.out.2.2.2.1]
          · rw [World.size_setCell, HW.out.1]; exact HJ.out.2.2.1
        case measure => simp [intOf]; omega
    · have ej : j = 64 := by omega
      have hW2 : wr.heap[w.heap.size]? = some (.cells (u32s (sch l 64)).toArray 46 (0, 0)) := by rw [hW, ej, fill_all (sch l 64) 64 (by rw [sch_length]; omega)]
      have hS2 : wr.heap[S]? = some (.cells (stz h.l K v N) 58 (0, 0)) := by
        rw [hg.block S (by
          rcases Nat.lt_or_ge S w.heap.size with hh | hh
          · exact hh
          · have := H.out.1; rw [Array.getElem?_eq_none hh] at this; cases this) (by simp)]
        exact H.out.1
      have hr2 : wr.rangeAt S 0 (u32s h.l) := fun i u hu => by
        rw [Nat.zero_add, cell_of_row _ _ _ _ _ _ hS2]
        simp only [stz, List.getElem?_toArray]
        rw [List.append_assoc, List.getElem?_append_left (List.getElem?_eq_some_iff.1 hu).1]
        exact hu
      have HJ := hide (And.intro hW2 (And.intro hS2 (And.intro hg (And.intro hsz hr2))))
      clear hW hW2 hS2 hg hsz hr2
      have hz := zero8
      go_wp2_with (first
        | ((with_reducible show wpList _ _ _ ({ dst := _, op := .load 47 _, type := _, pos := _, after := _, guard := _ } :: _) _ _); refine wpList_load_mid rfl 47 _ rfl S 0 rfl (u32s h.l) (.array 8 45) HJ.out.2.2.2.2 Try.underlying47 rfl (by kernel_rfl) ?_)
        | ((with_reducible show wpList _ _ _ ({ dst := _, op := .store 47 _ _, type := _, pos := _, after := _, guard := _ } :: _) _ _); refine wpList_store_row rfl 47 _ _ rfl _ _ rfl rfl _ _ (heap_alloc_new wr _) (by kernel_rfl) rfl (u32s_one _) ?_))
      clear hz
      rw [HJ.out.2.2.2.1]
      go_loopw [97] (fun i wx => ∃ j : Nat, j ≤ 64 ∧ i = .int .i64 j ∧ wx.heap[w.heap.size + 1]? = some (.cells (u32s (rounds K (sch l 64) h j).l).toArray 47 (0, 0)) ∧ wx.heap[w.heap.size]? = some (.cells (u32s (sch l 64)).toArray 46 (0, 0)) ∧ wx.heap[S]? = some (.cells (stz h.l K v N) 58 (0, 0)) ∧ w.grownBy wx none)
        (fun i _ => 64 - (intOf i).toNat)
      case atStart =>
        have hS5 : S < w.heap.size := by
          rcases Nat.lt_or_ge S w.heap.size with hh | hh
          · exact hh
          · have := H.out.1; rw [Array.getElem?_eq_none hh] at this; cases this
        have hsz := HJ.out.2.2.2.1
        refine ⟨0, by omega, rfl, ?_, ?_, ?_, grown_row (grown_more HJ.out.2.2.1) (by omega)⟩
        · rw [← hsz, setRow_heap _ _ _ _ _ _ (heap_alloc_new wr _)]; rfl
        · rw [setRow_other _ _ _ _ (by omega), Below.heap_alloc _ _ _ (by omega)]; exact HJ.out.1
        · rw [setRow_other _ _ _ _ (by omega), Below.heap_alloc _ _ _ (by omega)]; exact HJ.out.2.1
      case round =>
        obtain ⟨j, hj, rfl, hV, hW, hS, hg⟩ := hrel
        by_cases hlt : (j : Int) < 64
        · obtain ⟨V, hVV⟩ : ∃ V, V = rounds K (sch l 64) h j := ⟨_, rfl⟩
          rw [← hVV] at hV
          obtain ⟨kj, hkj⟩ : ∃ x, K[j]? = some x := ⟨_, List.getElem?_eq_getElem (by rw [K_length]; omega)⟩
          obtain ⟨wj, hwj⟩ : ∃ x, (sch l 64)[j]? = some x := ⟨_, List.getElem?_eq_getElem (by rw [sch_length]; omega)⟩
          have c0 : wr.cell? ⟨w.heap.size + 1, 0, none⟩ = some (.int .u32 (V.a.toNat : Int)) := by rw [cell_of_row _ _ _ _ _ _ hV]; rfl
          have c1 : wr.cell? ⟨w.heap.size + 1, 1, none⟩ = some (.int .u32 (V.b.toNat : Int)) := by rw [cell_of_row _ _ _ _ _ _ hV]; rfl
          have c2 : wr.cell? ⟨w.heap.size + 1, 2, none⟩ = some (.int .u32 (V.c.toNat : Int)) := by rw [cell_of_row _ _ _ _ _ _ hV]; rfl
          have c3 : wr.cell? ⟨w.heap.size + 1, 3, none⟩ = some (.int .u32 (V.d.toNat : Int)) := by rw [cell_of_row _ _ _ _ _ _ hV]; rfl
          have c4 : wr.cell? ⟨w.heap.size + 1, 4, none⟩ = some (.int .u32 (V.e.toNat : Int)) := by rw [cell_of_row _ _ _ _ _ _ hV]; rfl
          have c5 : wr.cell? ⟨w.heap.size + 1, 5, none⟩ = some (.int .u32 (V.f.toNat : Int)) := by rw [cell_of_row _ _ _ _ _ _ hV]; rfl
          have c6 : wr.cell? ⟨w.heap.size + 1, 6, none⟩ = some (.int .u32 (V.g.toNat : Int)) := by rw [cell_of_row _ _ _ _ _ _ hV]; rfl
          have c7 : wr.cell? ⟨w.heap.size + 1, 7, none⟩ = some (.int .u32 (V.h.toNat : Int)) := by rw [cell_of_row _ _ _ _ _ _ hV]; rfl
          have ck : wr.cell? ⟨S, 8 + j, none⟩ = some (.int .u32 (kj.toNat : Int)) := by rw [cell_of_row _ _ _ _ _ _ hS, stz_k rfl hkj]
          have cw : wr.cell? ⟨w.heap.size, j, none⟩ = some (.int .u32 (wj.toNat : Int)) := by rw [cell_of_row _ _ _ _ _ _ hW, row_get hwj]
          have r1 := rule_xo
          have r2 := rule_ad
          have r3 := rule_adw
          have r4 := rule_an
          have r5 := rule_no
          have HR := hide rotl_m
          have HX := hide (And.intro hV (And.intro hW (And.intro hS (And.intro hg (And.intro hVV (And.intro hkj hwj))))))
          clear hV hW hS hg hVV hkj hwj
          go_wp2_with fail
          go_quiet (fail)
          go_wp2_with fail
          refine wp_still_tail_v 33 (by kernel_rfl) (by kernel_rfl) fun w4 hw4 => ?_
          simp only [List.take_succ_cons, List.take_zero, List.drop_succ_cons, List.drop_zero]
          have p0 : w4.cell? ⟨w.heap.size + 1, 0, none⟩ = some (.int .u32 (V.a.toNat : Int)) := by rw [hw4]; exact c0
          have p1 : w4.cell? ⟨w.heap.size + 1, 1, none⟩ = some (.int .u32 (V.b.toNat : Int)) := by rw [hw4]; exact c1
          have p2 : w4.cell? ⟨w.heap.size + 1, 2, none⟩ = some (.int .u32 (V.c.toNat : Int)) := by rw [hw4]; exact c2
          have p3 : w4.cell? ⟨w.heap.size + 1, 3, none⟩ = some (.int .u32 (V.d.toNat : Int)) := by rw [hw4]; exact c3
          have p4 : w4.cell? ⟨w.heap.size + 1, 4, none⟩ = some (.int .u32 (V.e.toNat : Int)) := by rw [hw4]; exact c4
          have p5 : w4.cell? ⟨w.heap.size + 1, 5, none⟩ = some (.int .u32 (V.f.toNat : Int)) := by rw [hw4]; exact c5
          have p6 : w4.cell? ⟨w.heap.size + 1, 6, none⟩ = some (.int .u32 (V.g.toNat : Int)) := by rw [hw4]; exact c6
          have p7 : w4.cell? ⟨w.heap.size + 1, 7, none⟩ = some (.int .u32 (V.h.toNat : Int)) := by rw [hw4]; exact c7
          have pk : w4.cell? ⟨S, 8 + j, none⟩ = some (.int .u32 (kj.toNat : Int)) := by rw [hw4]; exact ck
          have pw : w4.cell? ⟨w.heap.size, j, none⟩ = some (.int .u32 (wj.toNat : Int)) := by rw [hw4]; exact cw
          have HW4 := hide hw4
          clear hw4
          clear c0 c1 c2 c3 c4 c5 c6 c7 ck cw
          repeat still_step
          still_call (HR.out _ _ (by decide) (by decide) _)
          repeat still_step
          still_call (HR.out _ _ (by decide) (by decide) _)
          repeat still_step
          still_call (HR.out _ _ (by decide) (by decide) _)
          repeat still_step
          refine wpStill_nil ?_
          go_wp2_with fail
          obtain ⟨T1, hT1⟩ : ∃ T1, T1 = ad (ad (ad (ad V.h (xo (xo (rotr V.e 6) (rotr V.e 11)) (rotr V.e 25))) (xo (an V.e V.f) (an (no V.e) V.g))) kj) wj := ⟨_, rfl⟩
          rw [← hT1]
          have HT1 := hide hT1
          clear hT1
          refine wp_still_tail_v 24 (by kernel_rfl) (by kernel_rfl) fun w5 hw5 => ?_
          simp only [List.take_succ_cons, List.take_zero, List.drop_succ_cons, List.drop_zero]
          have q0 : w5.cell? ⟨w.heap.size + 1, 0, none⟩ = some (.int .u32 (V.a.toNat : Int)) := by rw [hw5]; exact p0
          have q1 : w5.cell? ⟨w.heap.size + 1, 1, none⟩ = some (.int .u32 (V.b.toNat : Int)) := by rw [hw5]; exact p1
          have q2 : w5.cell? ⟨w.heap.size + 1, 2, none⟩ = some (.int .u32 (V.c.toNat : Int)) := by rw [hw5]; exact p2
          have q3 : w5.cell? ⟨w.heap.size + 1, 3, none⟩ = some (.int .u32 (V.d.toNat : Int)) := by rw [hw5]; exact p3
          have q4 : w5.cell? ⟨w.heap.size + 1, 4, none⟩ = some (.int .u32 (V.e.toNat : Int)) := by rw [hw5]; exact p4
          have q5 : w5.cell? ⟨w.heap.size + 1, 5, none⟩ = some (.int .u32 (V.f.toNat : Int)) := by rw [hw5]; exact p5
          have q6 : w5.cell? ⟨w.heap.size + 1, 6, none⟩ = some (.int .u32 (V.g.toNat : Int)) := by rw [hw5]; exact p6
          have q7 : w5.cell? ⟨w.heap.size + 1, 7, none⟩ = some (.int .u32 (V.h.toNat : Int)) := by rw [hw5]; exact p7
          have qk : w5.cell? ⟨S, 8 + j, none⟩ = some (.int .u32 (kj.toNat : Int)) := by rw [hw5]; exact pk
          have qw : w5.cell? ⟨w.heap.size, j, none⟩ = some (.int .u32 (wj.toNat : Int)) := by rw [hw5]; exact pw
          have HW5 := hide hw5
          clear hw5
          clear p0 p1 p2 p3 p4 p5 p6 p7 pk pw
          repeat still_step
          still_call (HR.out _ _ (by decide) (by decide) _)
          repeat still_step
          still_call (HR.out _ _ (by decide) (by decide) _)
          repeat still_step
          still_call (HR.out _ _ (by decide) (by decide) _)
          repeat still_step
          refine wpStill_nil ?_
          have e5 : (w5.heap[w.heap.size + 1]? = some (.cells (u32s V.l).toArray 47 (0, 0))) := by rw [HW5.out, HW4.out]; exact HX.out.1
          have HE5 := hide e5
          clear e5
          obtain ⟨T2, hT2⟩ : ∃ T2, T2 = ad (xo (xo (rotr V.a 2) (rotr V.a 13)) (rotr V.a 22)) (xo (xo (an V.a V.b) (an V.a V.c)) (an V.b V.c)) := ⟨_, rfl⟩
          rw [← hT2]
          have HT2 := hide hT2
          clear hT2
          go_wp2_with (first
            | ((with_reducible show wpList _ _ _ ({ dst := _, op := .build 47 _, type := _, pos := _, after := _, guard := _ } :: _) _ _); refine wpList_buildTo rfl 47 _ rfl (some 178) rfl (u32s [ad T1 T2, V.a, V.b, V.c, ad V.d T1, V.e, V.f, V.g]).toArray (by kernel_rfl) ?_)
            | ((with_reducible show wpList _ _ _ ({ dst := _, op := .store 47 _ _, type := _, pos := _, after := _, guard := _ } :: _) _ _); refine wpList_store_rowTo rfl 47 _ _ rfl rfl (w.heap.size + 1) (u32s [ad T1 T2, V.a, V.b, V.c, ad V.d T1, V.e, V.f, V.g]).toArray rfl rfl 47 _ HE5.out (by kernel_rfl) rfl (u32s_one _) ?_))
          go_roundw
          case rel =>
            have hS5 : S < w.heap.size := by
              rcases Nat.lt_or_ge S w.heap.size with hh | hh
              · exact hh
              · have := H.out.1; rw [Array.getElem?_eq_none hh] at this; cases this
            refine ⟨j + 1, by omega, by go_num, ?_, ?_, ?_, grown_row (by rw [HW5.out, HW4.out]; exact grown_drewN (grown_drewN (grown_drewN HX.out.2.2.2.1 _) 1) 1) (by omega)⟩
            · rw [setRow_heap _ _ _ _ _ _ HE5.out, rounds_next HX.out.2.2.2.2.2.1 HX.out.2.2.2.2.2.2, ← HX.out.2.2.2.2.1, HT1.out, HT2.out]; rfl
            · rw [setRow_other _ _ _ _ (by omega), HW5.out, HW4.out]; exact HX.out.2.1
            · rw [setRow_other _ _ _ _ (by omega), HW5.out, HW4.out]; exact HX.out.2.2.1
          case measure => simp [intOf]; omega
        · have ej : j = 64 := by omega
          rw [ej] at hV
          obtain ⟨V, hVV⟩ : ∃ V, V = rounds K (sch l 64) h 64 := ⟨_, rfl⟩
          rw [← hVV] at hV
          have hS5 : S < w.heap.size := by
            rcases Nat.lt_or_ge S w.heap.size with hh | hh
            · exact hh
            · have := H.out.1; rw [Array.getElem?_eq_none hh] at this; cases this
          have HX := hide (And.intro hV (And.intro hS (And.intro hg (And.intro hVV hS5))))
          clear hV hW hS hg hVV hS5
          go_wp2_with fail
          go_loopw [180] (fun i wx => ∃ j : Nat, j ≤ 8 ∧ i = .int .i64 j ∧ wx.heap[w.heap.size + 1]? = some (.cells (u32s V.l).toArray 47 (0, 0)) ∧ wx.heap[S]? = some (.cells (stz (mix (add8 h V).l h.l j) K v N) 58 (0, 0)) ∧ w.grownBy wx (some S))
            (fun i _ => 8 - (intOf i).toNat)
          case atStart => exact ⟨0, by omega, rfl, HX.out.1, HX.out.2.1, grown_row_any HX.out.2.2.1⟩
          case round =>
            obtain ⟨j, hj, rfl, hV, hS, hg⟩ := hrel
            by_cases hlt : (j : Int) < 8
            · obtain ⟨x, hx⟩ : ∃ x, h.l[j]? = some x := ⟨_, List.getElem?_eq_getElem (by rw [V8.l_length]; omega)⟩
              obtain ⟨y, hy⟩ : ∃ y, V.l[j]? = some y := ⟨_, List.getElem?_eq_getElem (by rw [V8.l_length]; omega)⟩
              have hxy := add8_get hx hy
              have cx : wr.cell? ⟨S, j, none⟩ = some (.int .u32 (x.toNat : Int)) := by rw [cell_of_row _ _ _ _ _ _ hS, stz_h (by rw [mix_get (a := (add8 h V).l) (b := h.l) rfl (by rw [V8.l_length]; omega)]; exact hx)]
              have cy : wr.cell? ⟨w.heap.size + 1, j, none⟩ = some (.int .u32 (y.toNat : Int)) := by rw [cell_of_row _ _ _ _ _ _ hV, row_get hy]
              have fx : wr.frozen? ⟨S, j, none⟩ = false := frozen_of_row _ _ _ _ _ hS
              have r2 := rule_ad
              have r3 := rule_adw
              have HX3 := hide (And.intro hV (And.intro hS (And.intro hg (And.intro hxy (And.intro hx hy)))))
              clear hV hS hg hxy hx hy
              go_wp2_with fail
              refine wp_still_tail_v 13 (by kernel_rfl) (by kernel_rfl) fun w4 hw4 => ?_
              simp only [List.take_succ_cons, List.take_zero, List.drop_succ_cons, List.drop_zero]
              have px : w4.cell? ⟨S, j, none⟩ = some (.int .u32 (x.toNat : Int)) := by rw [hw4]; exact cx
              have py : w4.cell? ⟨w.heap.size + 1, j, none⟩ = some (.int .u32 (y.toNat : Int)) := by rw [hw4]; exact cy
              have pf : w4.frozen? ⟨S, j, none⟩ = false := by rw [hw4]; exact fx
              have HW4 := hide hw4
              clear hw4 cx cy fx
              repeat still_step
              refine wpStill_nil ?_
              go_wp2_with fail
              go_roundw
              case rel =>
                refine ⟨j + 1, by omega, by go_num, ?_, ?_, grown_setCell (by rw [HW4.out]; exact grown_drewN HX3.out.2.2.1 1)⟩
                · rw [heap_setCell_other _ _ _ _ (by have := HX.out.2.2.2.2; show w.heap.size + 1 ≠ S; omega), HW4.out]; exact HX3.out.1
                · rw [heap_setCell_same _ _ _ _ _ _ (by rw [HW4.out]; exact HX3.out.2.1), stz_setH (by rw [mix_length (a := (add8 h V).l) (b := h.l) rfl, V8.l_length]; omega), mix_set (a := (add8 h V).l) (b := h.l) rfl HX3.out.2.2.2.1]
              case measure => simp [intOf]; omega
            · have hS2 : wr.heap[S]? = some (.cells (stz (eatB h l).l K v N) 58 (0, 0)) := by
                rw [hS, mix_all (a := (add8 h V).l) (b := h.l) rfl (by rw [V8.l_length]; omega), HX.out.2.2.2.1]; rfl
              have HE := hide (And.intro hS2 hg)
              clear hV hS hg hS2
              go_wp2_with fail
              exact bodyPost_end (v := .tuple #[]) (by simp [results, Try.results27, go_sem]) rfl ⟨rfl, HE.out.1, HE.out.2⟩
end Go.Proofs.Ytmeilpehlkpofaa
