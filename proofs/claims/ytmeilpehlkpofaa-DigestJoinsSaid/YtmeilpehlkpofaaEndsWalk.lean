/-
  The walk of the law of the ends.
-/
import Derived.Test.YtmeilpehlkpofaaSumsWalk
import Derived.Laws.OwnMore
namespace Go.Proofs.Ytmeilpehlkpofaa
open Go.RowKit
open sha

theorem wrap_byte (z : Int) : ∃ b : UInt8, IntKind.u8.wrap z = (b.toNat : Int) := by
  refine ⟨UInt8.ofNat (z % 256).toNat, ?_⟩
  rw [IntKind.wrap_u8]
  simp only [UInt8.toNat_ofNat']
  omega
theorem run_make_bytes (w : World) (m : Nat) (hm : m ≤ 1000) : (Instr.makeSlice 22 (.int .i64 (m : Int)) (.int .i64 (m : Int))).run Try.prog w = .ok (.slice (some ⟨w.heap.size, 0, none⟩) m m) (w.alloc (.cells (u8s (List.replicate m 0)).toArray 5)) := by
  obtain ⟨i, hi, hz, hs, hb⟩ : ∃ i, Try.prog.info? 5 = some i ∧ i.zero = some (.int .u8 0) ∧ i.size = 1 ∧ i.bytes = 1 := ⟨_, rfl, rfl, rfl, rfl⟩
  have h := run_makeSlice (P := Try.prog) w 22 5 i (.int .u8 0) Try.underlying22 hi hz .i64 .i64 (m : Int) (m : Int) (by omega) (Int.le_refl _) (by rw [hs]; omega) (by rw [hb]; omega) (by omega)
  rw [h, hs, Int.toNat_natCast, Nat.mul_one]
  have e : madeCells (Value.int .u8 0).cells m = (u8s (List.replicate m 0)).toArray := by
    rw [← Array.toList_inj]
    refine (toList_madeCells_one (.int .u8 0) m).trans ?_
    simp [u8s]
  rw [e]
set_option maxRecDepth 100000 in
set_option maxHeartbeats 1600000 in
theorem ends_any (w : World) (nv bv : Int) :
    Calls Try.prog 5 #[.int .i64 nv, .int .u8 bv] w fun e w' => e = .returned (.bool true) ∧ Below w.heap.size w w' := by
  have hzk : ∀ w : World, (zeroValue 25).run Try.prog w = .ok (.agg z32) w := fun w => by kernel_rfl
  obtain ⟨u0, hu0⟩ : ∃ u0 : Nat, IntKind.u64.wrap nv = (u0 : Int) := ⟨(IntKind.u64.wrap nv).toNat, by rw [IntKind.wrap_u64]; omega⟩
  obtain ⟨m, hm1, hm2, hm3⟩ : ∃ m : Nat, (u0 : Int) % 260 = (m : Int) ∧ (u0 : Int).tmod 260 = (m : Int) ∧ m < 260 := ⟨u0 % 260, by omega, by rw [Int.tmod_eq_emod_of_nonneg (by omega)]; omega, by omega⟩
  have hm4 : (m : Int) ≤ 260 := by omega
  have hm5 : IntKind.i64.wrap (m : Int) = (m : Int) := IntWalk.i64_in _ (by omega)
  go_enter Try.func5, Try.ntmps5
  go_wp2_with fail
  refine (awake_any _).mono ?_
  rintro e w1 ⟨rfl, hb1⟩
  have H1 := hide hb1
  clear hb1
  have hmk := run_make_bytes w1 m (by omega)
  go_wp2_with fail
  have HM := hide (And.intro hm3 (H1.out.alloc H1.out.size (.cells (u8s (List.replicate m 0)).toArray 5)))
  clear hmk hu0 hm1 hm2 hm3 hm5
  go_loopw [16] (fun s wx => ∃ (j : Nat) (l : List UInt8), j ≤ m ∧ s = .int .i64 j ∧ l.length = m ∧ wx.heap[w1.heap.size]? = some (.cells (u8s l).toArray 5 (0, 0)) ∧ Below w.heap.size w wx)
    (fun s _ => m - (intOf s).toNat)
  case atStart => exact ⟨0, List.replicate m 0, by omega, rfl, by simp, heap_alloc_new w1 _, HM.out.2⟩
  case round =>
    obtain ⟨j, l, hj, rfl, hl, hG, hb⟩ := hrel
    by_cases hlt : (j : Int) < (m : Int)
    · obtain ⟨c, hc⟩ := wrap_byte (j : Int)
      obtain ⟨y, hy⟩ := wrap_byte (bv + (c.toNat : Int))
      have hjl : j < l.length := by omega
      have cj : wr.cell? ⟨w1.heap.size, j, none⟩ = some (.int .u8 ((l[j]'hjl).toNat : Int)) := by rw [cell_of_row _ _ _ _ _ _ hG]; simp [u8s, hjl]
      have fj : wr.frozen? ⟨w1.heap.size, j, none⟩ = false := frozen_of_row _ _ _ _ _ hG
      have HJ := hide (And.intro hl (And.intro hG hb))
      clear hl hG hb
      go_wp2_with fail
      go_roundw
      case rel =>
        refine ⟨j + 1, l.set j y, by omega, by go_num, by rw [List.length_set]; exact HJ.out.1, ?_, HJ.out.2.2.setCell H1.out.size _⟩
        rw [heap_setCell_same _ _ _ _ _ _ HJ.out.2.1, List.setIfInBounds_toArray]
        unfold u8s
        rw [List.map_set]
      case measure => simp [intOf]; omega
    · have hown : OwnB wr w.heap.size (.slice (some ⟨w1.heap.size, 0, none⟩) m m) m l := ⟨hl, .inr ⟨w1.heap.size, 0, m, (u8s l).toArray, rfl, H1.out.size, hG, Nat.le_refl _, by have := HM.out.1; unfold maxLen; omega, by simp [u8s_length, hl], by show ((u8s l).drop 0).take m = u8s l; rw [List.drop_zero]; exact List.take_of_length_le (by rw [u8s_length, hl]; omega)⟩⟩
      have hm9 : m ≤ 1000 := by have := HM.out.1; omega
      obtain ⟨cs, hcs⟩ : ∃ cs, cs = (u8s (sum l)).toArray := ⟨_, rfl⟩
      have HJ := hide (And.intro hown.rb (And.intro hb hcs))
      have HC9 := hide hm9
      have heq := fun w => run_eql_arr w (by rw [HJ.out.2.2]; exact sum_arr l : ∃ l : List UInt8, l.length = 32 ∧ cs = (u8s l).toArray)
      clear hown hl hG hb hcs hm9
      go_wp2_with fail
      refine (sum_any m HJ.out.1 (Nat.le_refl _) (by have := HC9.out; omega)).mono ?_
      rintro e w5 ⟨rfl, hb5⟩
      rw [← HJ.out.2.2]
      have HB5 := hide hb5
      clear hb5
      go_wp2_with fail
      refine (refsum_any m (HJ.out.1.below HB5.out) HB5.out.size (by have := HC9.out; omega)).mono ?_
      rintro e w6 ⟨rfl, hb6⟩
      rw [← HJ.out.2.2]
      have hw' := HB5.out.trans (hb6.mono HB5.out.size)
      clear hb6
      have H5 := hide (HJ.out.2.1.trans (hw'.mono HJ.out.2.1.size))
      clear hw'
      go_wp2_with fail
      go_ret
      exact ⟨rfl, H5.out⟩
end Go.Proofs.Ytmeilpehlkpofaa
