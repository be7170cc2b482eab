/-
  The walk of the reference's Decode.
-/
import Derived.Test.YtpglncaigmnjcaaDec
import Derived.Lib.Strings
namespace Go.Proofs.Ytpglncaigmnjcaa
open Go.RowKit

set_option maxRecDepth 100000 in
set_option maxHeartbeats 800000 in
theorem refdecode_form {w : World} (s : ByteArray) (hn : s.size ≤ 1000000) (hf : s.size < 9 ∨ 8201 < s.size ∨ num s.data.toList + 9 ≠ s.size) :
    Calls Try.prog 17 #[.string s] w fun e w' => e = .returned (.tuple #[.agg #[.int .i64 0, .string ⟨#[]⟩], .int .i64 2]) ∧ Below w.heap.size w w' := by
  by_cases h9 : s.size < 9
  · have i1 : (s.size : Int) < 9 := by omega
    clear h9 hf hn
    go_enter Try.func17, Try.ntmps17
    go_wp2
    exact bodyPost_ret (v := .tuple #[.agg #[.int .i64 0, .string ⟨#[]⟩], .int .i64 2]) (by simp [results, Try.results17, go_sem]) rfl ⟨rfl, (Below.refl _ _).alloc (Nat.le_refl _) _⟩
  · have i0 : (9 : Int) ≤ (s.size : Int) := by omega
    have i3 : (s.size : Int) ≤ 1000000 := by omega
    by_cases h8 : num s.data.toList + 9 = s.size
    · have i1 : (8192 : Int) < (num s.data.toList : Int) := by omega
      have hne : ((num s.data.toList : Int) == (s.size : Int) - 9) = true := by rw [beq_iff_eq]; omega
      have hne2 : ((num s.data.toList : Int) != (s.size : Int) - 9) = false := by rw [show (num s.data.toList : Int) = (s.size : Int) - 9 from by omega]; simp
      have H := hide (And.intro h9 hn)
      clear h9 hf hn h8
      go_enter Try.func17, Try.ntmps17
      go_wp2_with fail
      refine (refnumber_any s _ (by have := H.out.1; omega) (by have := H.out.2; unfold maxLen; omega)).mono ?_
      rintro e w' ⟨rfl, k, rfl⟩
      go_wp2_with fail
      refine (refnumber_any s _ (by have := H.out.1; omega) (by have := H.out.2; unfold maxLen; omega)).mono ?_
      rintro e w' ⟨rfl, k2, rfl⟩
      go_wp2_with fail
      exact bodyPost_ret (v := .tuple #[.agg #[.int .i64 0, .string ⟨#[]⟩], .int .i64 2]) (by simp [results, Try.results17, go_sem]) rfl ⟨rfl, by
        first
          | exact (((bl_drewN ((Below.refl _ _).alloc (Nat.le_refl _) _) _).setCell (Nat.le_refl _) _).setCell (Nat.le_refl _) _)
          | exact (((bl_drewN (bl_drewN ((Below.refl _ _).alloc (Nat.le_refl _) _) _) _).setCell (Nat.le_refl _) _).setCell (Nat.le_refl _) _)⟩
    · have hne : ((num s.data.toList : Int) == (s.size : Int) - 9) = false := by rw [beq_eq_false_iff_ne]; omega
      have hne2 : ((num s.data.toList : Int) != (s.size : Int) - 9) = true := by rw [bne_iff_ne]; omega
      have H := hide (And.intro h9 hn)
      clear h9 hf hn h8
      go_enter Try.func17, Try.ntmps17
      go_wp2_with fail
      refine (refnumber_any s _ (by have := H.out.1; omega) (by have := H.out.2; unfold maxLen; omega)).mono ?_
      rintro e w' ⟨rfl, k, rfl⟩
      go_wp2_with fail
      exact bodyPost_ret (v := .tuple #[.agg #[.int .i64 0, .string ⟨#[]⟩], .int .i64 2]) (by simp [results, Try.results17, go_sem]) rfl ⟨rfl, by
        first
          | exact (((bl_drewN ((Below.refl _ _).alloc (Nat.le_refl _) _) _).setCell (Nat.le_refl _) _).setCell (Nat.le_refl _) _)
          | exact (((bl_drewN (bl_drewN ((Below.refl _ _).alloc (Nat.le_refl _) _) _) _).setCell (Nat.le_refl _) _).setCell (Nat.le_refl _) _)⟩

/-- the result's block stands as it was laid -/
structure KeepC (T : TypeId) (cs : Array Value) (w W : World) : Prop where
  below : Below w.heap.size w W
  blk : W.heap[w.heap.size]? = some (.cells cs T (0, 0))
section
variable {T : TypeId} {cs : Array Value} {w W W' : World}
theorem KeepC.start (T : TypeId) (cs : Array Value) (w : World) : KeepC T cs w (w.alloc (.cells cs T)) :=
  ⟨(Below.refl _ _).alloc (Nat.le_refl _) _, heap_alloc_new w _⟩
theorem KeepC.drewN (h : KeepC T cs w W) (n : Nat) : KeepC T cs w (W.drewN n) := ⟨bl_drewN h.below n, h.blk⟩
theorem KeepC.drew (h : KeepC T cs w W) : KeepC T cs w W.drew := ⟨h.below.drew, h.blk⟩
theorem KeepC.lt (h : KeepC T cs w W) : w.heap.size < W.heap.size := by
  rcases Nat.lt_or_ge w.heap.size W.heap.size with h1 | h1
  · exact h1
  · have := h.blk
    rw [Array.getElem?_eq_none h1] at this
    cases this
theorem KeepC.after (h : KeepC T cs w W) (hb : Below W.heap.size W W') : KeepC T cs w W' :=
  ⟨h.below.trans (hb.mono (Nat.le_of_lt h.lt)), (hb.block _ h.lt).trans h.blk⟩
theorem KeepC.alloc (h : KeepC T cs w W) (o : Obj) : KeepC T cs w (W.alloc o) := h.after ((Below.refl _ _).alloc (Nat.le_refl _) _)
theorem KeepC.cell (h : KeepC T cs w W) (i : Nat) : W.cell? ⟨w.heap.size, i, none⟩ = cs[i]? := cell_of_row _ _ _ _ _ _ h.blk
theorem KeepC.free (h : KeepC T cs w W) (i : Nat) : W.frozen? ⟨w.heap.size, i, none⟩ = false := frozen_of_row _ _ _ _ _ h.blk
end

theorem ba_list (s : ByteArray) : s = ⟨s.data.toList.toArray⟩ := ba_eq rfl
theorem ba_ext (s : ByteArray) (a b : Nat) : s.extract a b = ⟨((s.data.toList.drop a).take (b - a)).toArray⟩ := ba_eq (Lib.extract_data s a b)

set_option maxRecDepth 100000 in
set_option maxHeartbeats 1600000 in
theorem refdecode_sum {w : World} (s : ByteArray) {x : UInt8} (h9 : 9 ≤ s.size) (hm : s.size ≤ 8201) (hn : num s.data.toList + 9 = s.size) (hx : s.data.toList[4]? = some x) (hk1 : 1 ≤ x.toNat) (hk9 : x.toNat ≤ 9)
    (hs : four (crc.sum ((s.data.toList.drop 4).take (s.size - 8))) ≠ s.data.toList.drop (s.size - 4)) :
    Calls Try.prog 17 #[.string s] w fun e w' => e = .returned (.tuple #[.agg #[.int .i64 0, .string ⟨#[]⟩], .int .i64 6]) ∧ Below w.heap.size w w' := by
  have i1 : (9 : Int) ≤ (s.size : Int) := by omega
  have i2 : (s.size : Int) ≤ 8201 := by omega
  have i3 : (num s.data.toList : Int) ≤ 8192 := by omega
  have hne : ((num s.data.toList : Int) == (s.size : Int) - 9) = true := by rw [beq_iff_eq]; omega
  have hne2 : ((num s.data.toList : Int) != (s.size : Int) - 9) = false := by rw [show (num s.data.toList : Int) = (s.size : Int) - 9 from by omega]; simp
  have i4 : IntKind.i64.wrap ((s.size : Int) - 4) = (s.size : Int) - 4 := IntWalk.i64_in _ (by omega)
  have i5 : ((s.size : Int) - 4).toNat = s.size - 4 := by omega
  have i6 : (4 : Int) ≤ (s.size : Int) - 4 := by omega
  have i7 : (s.size : Int) - 4 ≤ (s.size : Int) := by omega
  have i8 : (0 : Int) ≤ (s.size : Int) - 4 := by omega
  have i9 : (4 : Int) < (s.size : Int) := by omega
  have j0 : 4 < s.size := by omega
  have hx4 : s[4]'j0 = x := by
    rw [List.getElem?_eq_getElem (by simp; omega)] at hx
    injection hx
  have hx0 := x.toNat_lt
  have j1 : (1 : Int) ≤ (x.toNat : Int) := by omega
  have j2 : (x.toNat : Int) ≤ 9 := by omega
  obtain ⟨E1, hE1⟩ : ∃ E, E = (s.data.toList.drop 4).take (s.size - 8) := ⟨_, rfl⟩
  obtain ⟨E2, hE2⟩ : ∃ E, E = s.data.toList.drop (s.size - 4) := ⟨_, rfl⟩
  have e1 : s.extract 4 (s.size - 4) = ⟨E1.toArray⟩ := by rw [ba_ext, hE1, show s.size - 4 - 4 = s.size - 8 from by omega]
  have e2 : s.extract (s.size - 4) s.size = ⟨E2.toArray⟩ := by rw [ba_ext, hE2, List.take_of_length_le (by simp)]
  have hl1 : E1.length ≤ 1000000 := by rw [hE1]; simp; omega
  obtain ⟨F, hF⟩ : ∃ F, F = four (crc.sum E1) := ⟨_, rfl⟩
  rw [← hE1, ← hE2, ← hF] at hs
  have hb : (F == E2) = false := by rw [beq_eq_false_iff_ne]; exact hs
  have hb2 : (F != E2) = true := by rw [bne_iff_ne]; exact hs
  have HS : Hid (∀ W, Calls Try.prog 13 #[.string ⟨E1.toArray⟩] W fun e w' => e = .returned (.int .u32 ((crc.sum E1).toNat : Int)) ∧ W = w') := hide fun W => refsum_list E1 hl1 W
  have HF : Hid (∀ W, KeepC 45 #[.int .i64 0, .string ⟨#[]⟩] w W → Calls Try.prog 23 #[.int .u32 ((crc.sum E1).toNat : Int)] W fun e w' => e = .returned (.string ⟨F.toArray⟩) ∧ KeepC 45 #[.int .i64 0, .string ⟨#[]⟩] w w') := hide fun W hW => by
    rw [hF]
    exact (reffour_x _ W).mono fun e w' ⟨h1, h2⟩ => ⟨h1, hW.after h2⟩
  have HB1 : Hid (∀ j, KeepC 45 #[.int .i64 0, .string ⟨#[]⟩] w ((w.alloc (.cells #[.int .i64 0, .string ⟨#[]⟩] 45)).drewN j)) := hide fun j => (KeepC.start _ _ w).drewN j
  have H := hide (And.intro h9 hm)
  clear h9 hm hn hx hk1 hk9 hs hE1 hE2 hl1 hF
  go_enter Try.func17, Try.ntmps17
  go_wp2_with fail
  refine (refnumber_any s _ (by have := H.out.1; omega) (by have := H.out.2; unfold maxLen; omega)).mono ?_
  rintro e w' ⟨rfl, k, rfl⟩
  go_wp2_with fail
  refine (refnumber_any s _ (by have := H.out.1; omega) (by have := H.out.2; unfold maxLen; omega)).mono ?_
  rintro e w' ⟨rfl, k2, rfl⟩
  go_wp2_with fail
  go_region_with (first | (go_at_call 13; refine (HS.out _).mono ?_; rintro e w2 ⟨rfl, rfl⟩) | (go_at_call 23; refine (HF.out _ ?_).mono ?_; (exact HB1.out _); rintro e w3 ⟨rfl, hb3⟩))
  all_goals
    have z0 := hb3.cell 0
    have z1 := hb3.cell 1
    have f0 := hb3.free 0
    have f1 := hb3.free 1
    have HZ := hide hb3
    clear hb3 hne hne2
    go_wp2_with fail
    exact bodyPost_ret (v := .tuple #[.agg #[.int .i64 0, .string ⟨#[]⟩], .int .i64 6]) (by simp [results, Try.results17, go_sem, z0, z1]) rfl ⟨rfl, (HZ.out.below.setCell (Nat.le_refl _) _).setCell (Nat.le_refl _) _⟩
set_option maxRecDepth 100000 in
set_option maxHeartbeats 800000 in
theorem refdecode_range {w : World} (s : ByteArray) {x : UInt8} (h9 : 9 ≤ s.size) (hm : s.size ≤ 8201) (hn : num s.data.toList + 9 = s.size) (hx : s.data.toList[4]? = some x) (hk : x.toNat < 1 ∨ 9 < x.toNat) :
    Calls Try.prog 17 #[.string s] w fun e w' => e = .returned (.tuple #[.agg #[.int .i64 0, .string ⟨#[]⟩], .int .i64 1]) ∧ Below w.heap.size w w' := by
  have i1 : (9 : Int) ≤ (s.size : Int) := by omega
  have i2 : (s.size : Int) ≤ 8201 := by omega
  have i3 : (num s.data.toList : Int) ≤ 8192 := by omega
  have hne : ((num s.data.toList : Int) == (s.size : Int) - 9) = true := by rw [beq_iff_eq]; omega
  have hne2 : ((num s.data.toList : Int) != (s.size : Int) - 9) = false := by rw [show (num s.data.toList : Int) = (s.size : Int) - 9 from by omega]; simp
  have i9 : (4 : Int) < (s.size : Int) := by omega
  have j0 : 4 < s.size := by omega
  have hx4 : s[4]'j0 = x := by
    rw [List.getElem?_eq_getElem (by simp; omega)] at hx
    injection hx
  have hx0 := x.toNat_lt
  have H := hide (And.intro h9 hm)
  clear h9 hm hn hx
  by_cases h1 : x.toNat < 1
  all_goals
    first
      | have j1 : (x.toNat : Int) < 1 := by omega
      | (have j1 : (1 : Int) ≤ (x.toNat : Int) := by omega
         have j2 : (9 : Int) < (x.toNat : Int) := by omega)
    clear hk h1
    go_enter Try.func17, Try.ntmps17
    go_wp2_with fail
    refine (refnumber_any s _ (by have := H.out.1; omega) (by have := H.out.2; unfold maxLen; omega)).mono ?_
    rintro e w' ⟨rfl, k, rfl⟩
    go_wp2_with fail
    refine (refnumber_any s _ (by have := H.out.1; omega) (by have := H.out.2; unfold maxLen; omega)).mono ?_
    rintro e w' ⟨rfl, k2, rfl⟩
    go_wp2_with fail
    exact bodyPost_ret (v := .tuple #[.agg #[.int .i64 0, .string ⟨#[]⟩], .int .i64 1]) (by simp [results, Try.results17, go_sem]) rfl ⟨rfl, by
      first
        | exact (((bl_drewN ((Below.refl _ _).alloc (Nat.le_refl _) _) _).setCell (Nat.le_refl _) _).setCell (Nat.le_refl _) _)
        | exact (((bl_drewN (bl_drewN ((Below.refl _ _).alloc (Nat.le_refl _) _) _) _).setCell (Nat.le_refl _) _).setCell (Nat.le_refl _) _)⟩
end Go.Proofs.Ytpglncaigmnjcaa
