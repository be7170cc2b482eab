/-
  The walk of the reference's Decode, where the frame is whole.
-/
import Derived.Test.YtpglncaigmnjcaaRefDec
namespace Go.Proofs.Ytpglncaigmnjcaa
open Go.RowKit

set_option maxRecDepth 100000 in
set_option maxHeartbeats 1600000 in
theorem refdecode_ok {w : World} (s : ByteArray) {x : UInt8} (h9 : 9 ≤ s.size) (hm : s.size ≤ 8201) (hn : num s.data.toList + 9 = s.size) (hx : s.data.toList[4]? = some x) (hk1 : 1 ≤ x.toNat) (hk9 : x.toNat ≤ 9)
    (hs : four (crc.sum ((s.data.toList.drop 4).take (s.size - 8))) = s.data.toList.drop (s.size - 4)) :
    Calls Try.prog 17 #[.string s] w fun e w' => e = .returned (.tuple #[.agg #[.int .i64 (x.toNat : Int), .string ⟨((s.data.toList.drop 5).take (s.size - 9)).toArray⟩], .int .i64 0]) ∧ Below w.heap.size w w' := by
  have i1 : (9 : Int) ≤ (s.size : Int) := by omega
  have i2 : (s.size : Int) ≤ 8201 := by omega
  have i3 : (num s.data.toList : Int) ≤ 8192 := by omega
  have hne : ((num s.data.toList : Int) == (s.size : Int) - 9) = true := by rw [beq_iff_eq]; omega
  have hne2 : ((num s.data.toList : Int) != (s.size : Int) - 9) = false := by rw [show (num s.data.toList : Int) = (s.size : Int) - 9 from by omega]; simp
  have i4 : IntKind.i64.wrap ((s.size : Int) - 4) = (s.size : Int) - 4 := IntWalk.i64_in _ (by omega)
  have i5 : ((s.size : Int) - 4).toNat = s.size - 4 := by omega
  have i6 : (4 : Int) ≤ (s.size : Int) - 4 := by omega
  have i7 : (s.size : Int) - 4 ≤ (s.size : Int) := by omega
  have i8 : (0 : Int) ≤ (s.size : Int) - 4 := by omega
  have i9 : (4 : Int) < (s.size : Int) := by omega
  have j0 : 4 < s.size := by omega
  have hx4 : s[4]'j0 = x := by
    rw [List.getElem?_eq_getElem (by simp; omega)] at hx
    injection hx
  have hx0 := x.toNat_lt
  have j1 : (1 : Int) ≤ (x.toNat : Int) := by omega
  have j2 : (x.toNat : Int) ≤ 9 := by omega
  have j5 : IntKind.i64.wrap (x.toNat : Int) = (x.toNat : Int) := IntWalk.i64_in _ (by omega)
  obtain ⟨E1, hE1⟩ : ∃ E, E = (s.data.toList.drop 4).take (s.size - 8) := ⟨_, rfl⟩
  obtain ⟨PY, hPY⟩ : ∃ E, E = (s.data.toList.drop 5).take (s.size - 9) := ⟨_, rfl⟩
  have e3 : s.extract 5 (s.size - 4) = ⟨PY.toArray⟩ := by rw [ba_ext, hPY, show s.size - 4 - 5 = s.size - 9 from by omega]
  rw [← hPY]
  have i12 : (5 : Int) ≤ (s.size : Int) - 4 := by omega
  obtain ⟨E2, hE2⟩ : ∃ E, E = s.data.toList.drop (s.size - 4) := ⟨_, rfl⟩
  have e1 : s.extract 4 (s.size - 4) = ⟨E1.toArray⟩ := by rw [ba_ext, hE1, show s.size - 4 - 4 = s.size - 8 from by omega]
  have e2 : s.extract (s.size - 4) s.size = ⟨E2.toArray⟩ := by rw [ba_ext, hE2, List.take_of_length_le (by simp)]
  have hl1 : E1.length ≤ 1000000 := by rw [hE1]; simp; omega
  obtain ⟨F, hF⟩ : ∃ F, F = four (crc.sum E1) := ⟨_, rfl⟩
  rw [← hE1, ← hE2, ← hF] at hs
  have hb : (F == E2) = true := by rw [beq_iff_eq]; exact hs
  have hb2 : (F != E2) = false := by rw [hs]; simp
  have HS : Hid (∀ W, Calls Try.prog 13 #[.string ⟨E1.toArray⟩] W fun e w' => e = .returned (.int .u32 ((crc.sum E1).toNat : Int)) ∧ W = w') := hide fun W => refsum_list E1 hl1 W
  have HF : Hid (∀ W, KeepC 45 #[.int .i64 0, .string ⟨#[]⟩] w W → Calls Try.prog 23 #[.int .u32 ((crc.sum E1).toNat : Int)] W fun e w' => e = .returned (.string ⟨F.toArray⟩) ∧ KeepC 45 #[.int .i64 0, .string ⟨#[]⟩] w w') := hide fun W hW => by
    rw [hF]
    exact (reffour_x _ W).mono fun e w' ⟨h1, h2⟩ => ⟨h1, hW.after h2⟩
  have HB1 : Hid (∀ j, KeepC 45 #[.int .i64 0, .string ⟨#[]⟩] w ((w.alloc (.cells #[.int .i64 0, .string ⟨#[]⟩] 45)).drewN j)) := hide fun j => (KeepC.start _ _ w).drewN j
  have H := hide (And.intro h9 hm)
  clear h9 hm hn hx hk1 hk9 hs hE1 hE2 hl1 hF hPY
  go_enter Try.func17, Try.ntmps17
  go_wp2_with fail
  refine (refnumber_any s _ (by have := H.out.1; omega) (by have := H.out.2; unfold maxLen; omega)).mono ?_
  rintro e w' ⟨rfl, k, rfl⟩
  go_wp2_with fail
  refine (refnumber_any s _ (by have := H.out.1; omega) (by have := H.out.2; unfold maxLen; omega)).mono ?_
  rintro e w' ⟨rfl, k2, rfl⟩
  go_wp2_with fail
  go_region_with (first | (go_at_call 13; refine (HS.out _).mono ?_; rintro e w2 ⟨rfl, rfl⟩) | (go_at_call 23; refine (HF.out _ ?_).mono ?_; (exact HB1.out _); rintro e w3 ⟨rfl, hb3⟩))
  all_goals
    have z0 := hb3.cell 0
    have z1 := hb3.cell 1
    have f0 := hb3.free 0
    have f1 := hb3.free 1
    have HZ := hide hb3
    clear hb3 hne hne2
    go_wp2_with fail
    go_region
  all_goals
    go_wp2_with fail
    refine bodyPost_ret (v := .tuple #[.agg #[.int .i64 (x.toNat : Int), .string ⟨PY.toArray⟩], .int .i64 0]) (by simp [results, Try.results17, go_sem, z0, z1]) rfl ⟨rfl, ?_⟩
    first
      | exact (((HZ.out.below.setCell (Nat.le_refl _) _).setCell (Nat.le_refl _) _).drew)
      | exact ((HZ.out.below.drew.setCell (Nat.le_refl _) _).setCell (Nat.le_refl _) _)
end Go.Proofs.Ytpglncaigmnjcaa
