/-
  The walk of frame.Decode.
-/
import Derived.Test.YtpglncaigmnjcaaRefEnc
namespace Go.Proofs.Ytpglncaigmnjcaa
open Go.RowKit

theorem bl_drewN {B : Nat} {a w : World} (h : Below B a w) (n : Nat) : Below B a (w.drewN n) := ⟨h.os, h.tape, h.output, h.size, h.block⟩
set_option maxRecDepth 100000 in
set_option maxHeartbeats 800000 in
theorem decode_form {w : World} {B n : Nat} {A : Option Addr} {l : List UInt8} (c : Nat) (hr : Rb w B A n l) (hB : B ≤ w.heap.size) (hn : n ≤ maxLen) (hf : n < 9 ∨ 8201 < n ∨ num l + 9 ≠ n) :
    Calls Try.prog 16 #[.slice A n c] w fun e w' => e = .returned (.tuple #[.agg #[.int .i64 0, .slice none 0 0], .int .i64 2]) ∧ Below w.heap.size w w' := by
  unfold maxLen at hn
  by_cases h9 : n < 9
  · have i1 : (n : Int) - 9 < 0 := by omega
    clear h9 hf hr hB
    go_enter Try.func16, Try.ntmps16
    go_wp2
    exact bodyPost_ret (v := .tuple #[.agg #[.int .i64 0, .slice none 0 0], .int .i64 2]) (by simp [results, Try.results16, go_sem]) rfl ⟨rfl, (Below.refl _ _).alloc (Nat.le_refl _) _⟩
  · obtain ⟨m, rfl⟩ : ∃ m, n = m + 9 := ⟨n - 9, by omega⟩
    by_cases h8 : 8192 < m
    · have i1 : (8192 : Int) < (m : Int) := by omega
      clear h9 hf hr hB h8
      go_enter Try.func16, Try.ntmps16
      go_wp2
      exact bodyPost_ret (v := .tuple #[.agg #[.int .i64 0, .slice none 0 0], .int .i64 2]) (by simp [results, Try.results16, go_sem]) rfl ⟨rfl, (Below.refl _ _).alloc (Nat.le_refl _) _⟩
    · have i1 : (m : Int) ≤ 8192 := by omega
      have hne : ((num l : Int) == (m : Int)) = false := by rw [beq_eq_false_iff_ne]; omega
      have hne2 : ((num l : Int) != (m : Int)) = true := by rw [bne_iff_ne]; omega
      have H := hide (And.intro hr hB)
      clear h9 hf hr hB h8 hn
      go_enter Try.func16, Try.ntmps16
      go_wp2_with fail
      refine (number_any c (H.out.1.alloc H.out.2 _) (by omega)).mono ?_
      rintro e w' ⟨rfl, k, rfl⟩
      go_wp2_with fail
      exact bodyPost_ret (v := .tuple #[.agg #[.int .i64 0, .slice none 0 0], .int .i64 2]) (by simp [results, Try.results16, go_sem]) rfl ⟨rfl, (((bl_drewN ((Below.refl _ _).alloc (Nat.le_refl _) _) _).setCell (Nat.le_refl _) _).setCell (Nat.le_refl _) _)⟩

set_option maxRecDepth 100000 in
set_option maxHeartbeats 800000 in
theorem decode_range {w : World} {B m : Nat} {A : Option Addr} {l : List UInt8} {x : UInt8} (c : Nat) (hr : Rb w B A (m + 9) l) (hB : B ≤ w.heap.size) (hm : m ≤ 8192) (hn : num l = m) (hx : l[4]? = some x) (hk : x.toNat < 1 ∨ 9 < x.toNat) :
    Calls Try.prog 16 #[.slice A (m + 9) c] w fun e w' => e = .returned (.tuple #[.agg #[.int .i64 0, .slice none 0 0], .int .i64 1]) ∧ Below w.heap.size w w' := by
  have i1 : (m : Int) ≤ 8192 := by omega
  obtain ⟨b, o, x', rfl, hbB, hx', hcell⟩ := hr.at_ (j := 4) (by omega)
  rw [hx] at hx'
  cases hx'
  have hne : ((num l : Int) == (m : Int)) = true := by rw [beq_iff_eq]; omega
  have hne2 : ((num l : Int) != (m : Int)) = false := by rw [hn]; simp
  have hc1 : (w.alloc (.cells #[.int .i64 0, .slice none 0 0] 40)).cell? ⟨b, o + 4, none⟩ = some (.int .u8 (x.toNat : Int)) := by
    rw [World.cell?_alloc_lt _ _ _ (by show b < _; omega)]; exact hcell
  have hx0 := x.toNat_lt
  have H := hide (And.intro hr (And.intro hB hn))
  clear hr hB hm hcell hx hn
  by_cases h1 : x.toNat < 1
  all_goals
    first
      | have j1 : (x.toNat : Int) < 1 := by omega
      | (have j1 : (1 : Int) ≤ (x.toNat : Int) := by omega
         have j2 : (9 : Int) < (x.toNat : Int) := by omega)
    clear hk h1
    go_enter Try.func16, Try.ntmps16
    go_wp2_with fail
    refine (number_any c (H.out.1.alloc H.out.2.1 _) (by omega)).mono ?_
    rintro e w' ⟨rfl, k, rfl⟩
    go_wp2_with fail
    exact bodyPost_ret (v := .tuple #[.agg #[.int .i64 0, .slice none 0 0], .int .i64 1]) (by simp [results, Try.results16, go_sem]) rfl ⟨rfl, (((bl_drewN ((Below.refl _ _).alloc (Nat.le_refl _) _) _).setCell (Nat.le_refl _) _).setCell (Nat.le_refl _) _)⟩

/-- the result's block stands as it was laid -/
structure KeepZ (w W : World) : Prop where
  below : Below w.heap.size w W
  blk : W.heap[w.heap.size]? = some (.cells #[.int .i64 0, .slice none 0 0] 40 (0, 0))
theorem KeepZ.start (w : World) : KeepZ w (w.alloc (.cells #[.int .i64 0, .slice none 0 0] 40)) :=
  ⟨(Below.refl _ _).alloc (Nat.le_refl _) _, heap_alloc_new w _⟩
theorem KeepZ.drewN {w W : World} (h : KeepZ w W) (n : Nat) : KeepZ w (W.drewN n) := ⟨bl_drewN h.below n, h.blk⟩
theorem KeepZ.lt {w W : World} (h : KeepZ w W) : w.heap.size < W.heap.size := by
  rcases Nat.lt_or_ge w.heap.size W.heap.size with h1 | h1
  · exact h1
  · have := h.blk
    rw [Array.getElem?_eq_none h1] at this
    cases this
theorem KeepZ.after {w W W' : World} (h : KeepZ w W) (hb : Below W.heap.size W W') : KeepZ w W' :=
  ⟨h.below.trans (hb.mono (Nat.le_of_lt h.lt)), (hb.block _ h.lt).trans h.blk⟩
theorem KeepZ.alloc {w W : World} (h : KeepZ w W) (o : Obj) : KeepZ w (W.alloc o) := h.after ((Below.refl _ _).alloc (Nat.le_refl _) _)
theorem KeepZ.cells {w W : World} (h : KeepZ w W) : W.cell? ⟨w.heap.size, 0, none⟩ = some (.int .i64 0) ∧ W.cell? ⟨w.heap.size, 1, none⟩ = some (.slice none 0 0) ∧ W.frozen? ⟨w.heap.size, 0, none⟩ = false ∧ W.frozen? ⟨w.heap.size, 1, none⟩ = false := by
  refine ⟨?_, ?_, frozen_of_row _ _ _ _ _ h.blk, frozen_of_row _ _ _ _ _ h.blk⟩
  · rw [cell_of_row _ _ _ _ _ _ h.blk]; rfl
  · rw [cell_of_row _ _ _ _ _ _ h.blk]; rfl
theorem sum_at {W : World} {b0 n' c' : Nat} {A' : Option Addr} {l : List UInt8} (hc : W.cell? ⟨b0, 0, none⟩ = some (.slice A' n' c')) (hr : Rb W W.heap.size A' n' l) (hn : n' ≤ maxLen) :
    Calls Try.prog 12 #[.slice (some ⟨b0, 0, none⟩) 1 1] W fun e w' => e = .returned (.int .u32 ((crc.sum l).toNat : Int)) ∧ Below W.heap.size W w' := by
  have hp : Rp W W.heap.size (some ⟨b0, 0, none⟩) 1 [l] := by
    refine ⟨rfl, fun j m hm => ?_⟩
    match j, hm with
    | 0, hm =>
      simp at hm
      subst hm
      exact ⟨b0, 0, A', n', c', rfl, World.block_lt_of_cell? W _ hc, hc, hr, hn⟩
    | j + 1, hm => simp at hm
  have h := sum_any 1 hp (Nat.le_refl _) (by unfold maxLen; omega)
  rw [show ([l] : List (List UInt8)).flatten = l from by simp] at h
  exact h

set_option maxRecDepth 100000 in
set_option maxHeartbeats 1600000 in
theorem decode_sum {w : World} {B m : Nat} {A : Option Addr} {l : List UInt8} {x : UInt8} (c : Nat) (hr : Rb w B A (m + 9) l) (hB : B ≤ w.heap.size) (hc : m + 9 ≤ c) (hm : m ≤ 8192) (hn : num l = m) (hx : l[4]? = some x) (hk1 : 1 ≤ x.toNat) (hk9 : x.toNat ≤ 9)
    (hs : (crc.sum ((l.drop 4).take (m + 1))).toNat ≠ num (l.drop (m + 5))) :
    Calls Try.prog 16 #[.slice A (m + 9) c] w fun e w' => e = .returned (.tuple #[.agg #[.int .i64 0, .slice none 0 0], .int .i64 6]) ∧ Below w.heap.size w w' := by
  have i1 : (m : Int) ≤ 8192 := by omega
  have i2 : 5 + (m : Int) ≤ (c : Int) := by omega
  have i3 : (4 : Int) ≤ 5 + (m : Int) := by omega
  have i4 : 5 + (m : Int) ≤ (m : Int) + 9 := by omega
  have i5 : (0 : Int) ≤ 5 + (m : Int) := by omega
  have i6 : IntKind.i64.wrap (5 + (m : Int)) = 5 + (m : Int) := IntWalk.i64_in _ (by omega)
  have i7 : (5 + (m : Int)).toNat = 5 + m := by omega
  have i8 : ¬ c = 4 := by omega
  have i9 : ¬ c = 5 + m := by omega
  have i10 : 5 + m - 4 = m + 1 := by omega
  have i11 : m + 9 - (5 + m) = 4 := by omega
  obtain ⟨b, o, x', rfl, hbB, hx', hcell⟩ := hr.at_ (j := 4) (by omega)
  rw [hx] at hx'
  cases hx'
  have hne : ((num l : Int) == (m : Int)) = true := by rw [beq_iff_eq]; omega
  have hne2 : ((num l : Int) != (m : Int)) = false := by rw [hn]; simp
  have hc1 : (w.alloc (.cells #[.int .i64 0, .slice none 0 0] 40)).cell? ⟨b, o + 4, none⟩ = some (.int .u8 (x.toNat : Int)) := by
    rw [World.cell?_alloc_lt _ _ _ (by show b < _; omega)]; exact hcell
  have hx0 := x.toNat_lt
  have j1 : (1 : Int) ≤ (x.toNat : Int) := by omega
  have j2 : (x.toNat : Int) ≤ 9 := by omega
  have hra : ∀ W, Below w.heap.size w W → Rb W W.heap.size (some ⟨b, o + 4, none⟩) (m + 1) ((l.drop 4).take (m + 1)) := fun W hb => by
    have h := ((hr.drop (m := 4) (C := some ⟨b, o + 4, none⟩) (fun _ => rfl)).take (m := m + 1) (by omega))
    exact ((h.more hB).below hb).more hb.size
  have hrb : ∀ W, Below w.heap.size w W → Rb W W.heap.size (some ⟨b, o + (5 + m), none⟩) 4 (l.drop (m + 5)) := fun W hb => by
    have h := hr.drop (m := m + 5) (C := some ⟨b, o + (5 + m), none⟩) (fun _ => by simp [Addr.add_lit, Nat.add_comm])
    rw [show m + 9 - (m + 5) = 4 from by omega] at h
    exact ((h.more hB).below hb).more hb.size
  have hsn : ((crc.sum ((l.drop 4).take (m + 1))).toNat : Int) ≠ (num (l.drop (m + 5)) : Int) := by omega
  have hsb : (((crc.sum ((l.drop 4).take (m + 1))).toNat : Int) != (num (l.drop (m + 5)) : Int)) = true := by rw [bne_iff_ne]; exact hsn
  obtain ⟨S1, hS1⟩ : ∃ S1, S1 = (crc.sum ((l.drop 4).take (m + 1))).toNat := ⟨_, rfl⟩
  obtain ⟨N1, hN1⟩ : ∃ N1, N1 = num (l.drop (m + 5)) := ⟨_, rfl⟩
  have hcs : ∀ W, KeepZ w W → W.cell? ⟨w.heap.size + 1, 0, none⟩ = some (.slice (some ⟨b, o + 4, none⟩) (m + 1) (c - 4)) → Calls Try.prog 12 #[.slice (some ⟨w.heap.size + 1, 0, none⟩) 1 1] W fun e w' => e = .returned (.int .u32 (S1 : Int)) ∧ KeepZ w w' := fun W hb hc => by
    rw [hS1]
    exact (sum_at hc (hra W hb.below) (by unfold maxLen; omega)).mono fun e w' ⟨h1, h2⟩ => ⟨h1, hb.after h2⟩
  have hcn : ∀ W, KeepZ w W → Calls Try.prog 24 #[.slice (some ⟨b, o + (5 + m), none⟩) 4 (c - (5 + m))] W fun e w' => e = .returned (.int .u32 (N1 : Int)) ∧ ∃ j, W.drewN j = w' := fun W hb => by
    rw [hN1]
    exact number_any _ (hrb W hb.below) (by omega)
  rw [← hS1, ← hN1] at hsb
  have HS := hide hcs
  have HN := hide hcn
  have HB1 : Hid (∀ j, KeepZ w ((w.alloc (.cells #[.int .i64 0, .slice none 0 0] 40)).drewN j)) := hide (fun j => (KeepZ.start w).drewN j)
  have H := hide (And.intro hr (And.intro hB hn))
  clear hr hB hm hcell hx hn hk1 hk9 hc hra hrb hsn hS1 hN1 hcs hcn hs
  go_enter Try.func16, Try.ntmps16
  go_wp2_with fail
  refine (number_any c (H.out.1.alloc H.out.2.1 _) (by omega)).mono ?_
  rintro e w' ⟨rfl, k, rfl⟩
  go_wp2_with fail
  go_region_with (first | (go_at_call 12; refine (HS.out _ ?_ ?_).mono ?_; (first | exact (HB1.out _).alloc _ | exact ((HB1.out _).alloc _).drewN _); simp [World.cell?_alloc_at]; rintro e w2 ⟨rfl, hb2⟩) | (go_at_call 24; refine (HN.out _ ?_).mono ?_; (first | assumption | exact HB1.out _ | exact (HB1.out _).alloc _); rintro e w3 ⟨rfl, j, rfl⟩))
  have hkz := hb2.drewN j
  obtain ⟨z0, z1, f0, f1⟩ := hkz.cells
  have HZ := hide hkz
  clear hb2 hkz hne hne2
  go_wp2_with fail
  exact bodyPost_ret (v := .tuple #[.agg #[.int .i64 0, .slice none 0 0], .int .i64 6]) (by simp [results, Try.results16, go_sem, z0, z1]) rfl ⟨rfl, (HZ.out.below.setCell (Nat.le_refl _) _).setCell (Nat.le_refl _) _⟩

set_option maxRecDepth 100000 in
set_option maxHeartbeats 1600000 in
theorem decode_ok {w : World} {B m : Nat} {A : Option Addr} {l : List UInt8} {x : UInt8} (c : Nat) (hr : Rb w B A (m + 9) l) (hB : B ≤ w.heap.size) (hc : m + 9 ≤ c) (hm : m ≤ 8192) (hn : num l = m) (hx : l[4]? = some x) (hk1 : 1 ≤ x.toNat) (hk9 : x.toNat ≤ 9)
    (hs : (crc.sum ((l.drop 4).take (m + 1))).toNat = num (l.drop (m + 5))) :
    Calls Try.prog 16 #[.slice A (m + 9) c] w fun e w' => ∃ A' c', e = .returned (.tuple #[.agg #[.int .i64 (x.toNat : Int), .slice A' m c'], .int .i64 0]) ∧ w'.ownsRow w.heap.size 5 1 (.slice A' m c') m (u8s ((l.drop 5).take m)) ∧ Below w.heap.size w w' := by
  have i1 : (m : Int) ≤ 8192 := by omega
  have i2 : 5 + (m : Int) ≤ (c : Int) := by omega
  have i3 : (4 : Int) ≤ 5 + (m : Int) := by omega
  have i4 : 5 + (m : Int) ≤ (m : Int) + 9 := by omega
  have i5 : (0 : Int) ≤ 5 + (m : Int) := by omega
  have i6 : IntKind.i64.wrap (5 + (m : Int)) = 5 + (m : Int) := IntWalk.i64_in _ (by omega)
  have i7 : (5 + (m : Int)).toNat = 5 + m := by omega
  have i8 : ¬ c = 4 := by omega
  have i9 : ¬ c = 5 + m := by omega
  have i10 : 5 + m - 4 = m + 1 := by omega
  have i12 : ¬ c = 5 := by omega
  have i13 : 5 + m - 5 = m := by omega
  have i14 : (5 : Int) ≤ 5 + (m : Int) := by omega
  have i11 : m + 9 - (5 + m) = 4 := by omega
  obtain ⟨b, o, x', rfl, hbB, hx', hcell⟩ := hr.at_ (j := 4) (by omega)
  rw [hx] at hx'
  cases hx'
  have hne : ((num l : Int) == (m : Int)) = true := by rw [beq_iff_eq]; omega
  have hne2 : ((num l : Int) != (m : Int)) = false := by rw [hn]; simp
  have hc1 : (w.alloc (.cells #[.int .i64 0, .slice none 0 0] 40)).cell? ⟨b, o + 4, none⟩ = some (.int .u8 (x.toNat : Int)) := by
    rw [World.cell?_alloc_lt _ _ _ (by show b < _; omega)]; exact hcell
  have hx0 := x.toNat_lt
  have j1 : (1 : Int) ≤ (x.toNat : Int) := by omega
  have j2 : (x.toNat : Int) ≤ 9 := by omega
  have hra : ∀ W, Below w.heap.size w W → Rb W W.heap.size (some ⟨b, o + 4, none⟩) (m + 1) ((l.drop 4).take (m + 1)) := fun W hb => by
    have h := ((hr.drop (m := 4) (C := some ⟨b, o + 4, none⟩) (fun _ => rfl)).take (m := m + 1) (by omega))
    exact ((h.more hB).below hb).more hb.size
  have hrb : ∀ W, Below w.heap.size w W → Rb W W.heap.size (some ⟨b, o + (5 + m), none⟩) 4 (l.drop (m + 5)) := fun W hb => by
    have h := hr.drop (m := m + 5) (C := some ⟨b, o + (5 + m), none⟩) (fun _ => by simp [Addr.add_lit, Nat.add_comm])
    rw [show m + 9 - (m + 5) = 4 from by omega] at h
    exact ((h.more hB).below hb).more hb.size
  have hrc : ∀ W, Below w.heap.size w W → Rb W W.heap.size (some ⟨b, o + 5, none⟩) m ((l.drop 5).take m) := fun W hb => by
    have h := ((hr.drop (m := 5) (C := some ⟨b, o + 5, none⟩) (fun _ => rfl)).take (m := m) (by omega))
    exact ((h.more hB).below hb).more hb.size
  have HRC := hide hrc
  have hsn : ((crc.sum ((l.drop 4).take (m + 1))).toNat : Int) = (num (l.drop (m + 5)) : Int) := by omega
  have hsb : (((crc.sum ((l.drop 4).take (m + 1))).toNat : Int) != (num (l.drop (m + 5)) : Int)) = false := by rw [hsn]; simp
  obtain ⟨S1, hS1⟩ : ∃ S1, S1 = (crc.sum ((l.drop 4).take (m + 1))).toNat := ⟨_, rfl⟩
  obtain ⟨N1, hN1⟩ : ∃ N1, N1 = num (l.drop (m + 5)) := ⟨_, rfl⟩
  have hcs : ∀ W, KeepZ w W → W.cell? ⟨w.heap.size + 1, 0, none⟩ = some (.slice (some ⟨b, o + 4, none⟩) (m + 1) (c - 4)) → Calls Try.prog 12 #[.slice (some ⟨w.heap.size + 1, 0, none⟩) 1 1] W fun e w' => e = .returned (.int .u32 (S1 : Int)) ∧ KeepZ w w' := fun W hb hc => by
    rw [hS1]
    exact (sum_at hc (hra W hb.below) (by unfold maxLen; omega)).mono fun e w' ⟨h1, h2⟩ => ⟨h1, hb.after h2⟩
  have hcn : ∀ W, KeepZ w W → Calls Try.prog 24 #[.slice (some ⟨b, o + (5 + m), none⟩) 4 (c - (5 + m))] W fun e w' => e = .returned (.int .u32 (N1 : Int)) ∧ ∃ j, W.drewN j = w' := fun W hb => by
    rw [hN1]
    exact number_any _ (hrb W hb.below) (by omega)
  rw [← hS1, ← hN1] at hsb
  have HS := hide hcs
  have HN := hide hcn
  have HB1 : Hid (∀ j, KeepZ w ((w.alloc (.cells #[.int .i64 0, .slice none 0 0] 40)).drewN j)) := hide (fun j => (KeepZ.start w).drewN j)
  have H := hide (And.intro hr (And.intro hB hn))
  clear hrc hr hB hm hcell hx hn hk1 hk9 hc hra hrb hsn hS1 hN1 hcs hcn hs
  go_enter Try.func16, Try.ntmps16
  go_wp2_with fail
  refine (number_any c (H.out.1.alloc H.out.2.1 _) (by omega)).mono ?_
  rintro e w' ⟨rfl, k, rfl⟩
  go_wp2_with fail
  go_region_with (first | (go_at_call 12; refine (HS.out _ ?_ ?_).mono ?_; (first | exact (HB1.out _).alloc _ | exact ((HB1.out _).alloc _).drewN _); simp [World.cell?_alloc_at]; rintro e w2 ⟨rfl, hb2⟩) | (go_at_call 24; refine (HN.out _ ?_).mono ?_; (first | assumption | exact HB1.out _ | exact (HB1.out _).alloc _); rintro e w3 ⟨rfl, j, rfl⟩))
  have hkz := hb2.drewN j
  have HZ := hide hkz
  have HM := hide (show m ≤ 1000000 by omega)
  clear hb2 hkz hne hne2
  obtain ⟨W4, hW4⟩ : ∃ W4, W4 = w2.drewN j := ⟨_, rfl⟩
  rw [← hW4] at HZ ⊢
  clear hW4
  go_wp2_with fail
  refine (clone_any _ (HRC.out _ HZ.out.below) (Nat.le_refl _) HM.out).mono ?_
  rintro e w5 ⟨A5, c5, rfl, hown5, hb5⟩
  have hkz := HZ.out.after hb5
  obtain ⟨z0, z1, f0, f1⟩ := hkz.cells
  have hlt := HZ.out.lt
  have HZ5 := hide (And.intro hkz (And.intro hown5 hlt))
  clear hkz hown5 hb5 hlt HZ
  go_wp2_with fail
  refine bodyPost_ret (v := .tuple #[.agg #[.int .i64 (x.toNat : Int), .slice A5 m c5], .int .i64 0]) (by simp [results, Try.results16, go_sem, z0, z1]) rfl ⟨A5, c5, rfl, ?_, (HZ5.out.1.below.setCell (Nat.le_refl _) _).setCell (Nat.le_refl _) _⟩
  have h1 := ownsRow_setCell_below (ownsRow_setCell_below HZ5.out.2.1 (a := ⟨w.heap.size, 0, none⟩) HZ5.out.2.2 (.int .i64 (x.toNat : Int))) (a := ⟨w.heap.size, 1, none⟩) HZ5.out.2.2 (.slice A5 m c5)
  refine ⟨h1.1, ?_⟩
  rcases h1.2 with h | ⟨g, cap, cur, hv, hg, r⟩
  · exact .inl h
  · exact .inr ⟨g, cap, cur, hv, by have := HZ5.out.2.2; omega, r⟩
end Go.Proofs.Ytpglncaigmnjcaa
