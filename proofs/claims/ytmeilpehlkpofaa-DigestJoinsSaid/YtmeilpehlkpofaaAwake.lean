/-
  The walk of the fixed fact.
-/
import Derived.Test.YtmeilpehlkpofaaJoined
import Derived.Lib.SlBytesConst
namespace Go.Proofs.Ytmeilpehlkpofaa
open Go.RowKit
open sha

theorem Rb.lit (w : World) (l : List UInt8) (e : TypeId) (fr : Nat × Nat) : Rb (w.alloc (.cells (u8s l).toArray e fr)) (w.heap.size + 1) (some ⟨w.heap.size, 0, none⟩) l.length l := by
  refine ⟨by rw [u8s_length, Nat.mul_one], fun j u hu => ⟨w.heap.size, 0, rfl, by omega, ?_⟩⟩
  rw [cell_of_row _ _ _ _ e fr (heap_alloc_new w _), Nat.zero_add]
  simpa using hu
set_option maxRecDepth 100000 in
set_option maxHeartbeats 1600000 in
theorem awake_any (w : World) :
    Calls Try.prog 9 #[] w fun e w' => e = .returned (.bool true) ∧ Below w.heap.size w w' := by
  have hz : ∀ w : World, (zeroValue 25).run Try.prog w = .ok (.agg z32) w := fun w => by kernel_rfl
  have kc := fun (w : World) (C : Array Value) (n c : Nat) => Lib.run_convert_bytes_const (P := Try.prog) w 22 5 C n c Try.underlying22 Try.underlying5
  go_enter Try.func9, Try.ntmps9
  go_wp2_with fail
  have hb0 : Below w.heap.size w (w.alloc (.cells (u8s [97, 98, 99]).toArray 5 (3, 4))) := (Below.refl _ _).alloc (Nat.le_refl _) _
  refine (sum_any 3 (Rb.lit w [97, 98, 99] 5 (3, 4)) (by simp) (by simp)).mono ?_
  rintro e w1 ⟨rfl, hb1⟩
  have hb1 := hb0.trans (hb1.mono (by simp))
  have HB1 := hide hb1
  clear hb0 hb1 kc
  go_wp2_with fail
  refine (sum_any 0 (Rb.nil' w1 w1.heap.size none) (Nat.le_refl _) (by omega)).mono ?_
  rintro e w2 ⟨rfl, hb2⟩
  have hb2 := HB1.out.trans (hb2.mono HB1.out.size)
  have g1 := key_cells (sum_length [97, 98, 99])
  have g2 := key_cells (sum_length [])
  have e1 : (u8s (sum [97, 98, 99])).toArray[0]? = some (.int .u8 186) ∧ (u8s (sum [97, 98, 99])).toArray[3]? = some (.int .u8 191) := by rw [sum_abc]; exact ⟨rfl, rfl⟩
  have e2 : (u8s (sum [])).toArray[0]? = some (.int .u8 227) ∧ (u8s (sum [])).toArray[3]? = some (.int .u8 66) := by rw [sum_nil]; exact ⟨rfl, rfl⟩
  generalize (u8s (sum [97, 98, 99])).toArray = cs1 at g1 e1 ⊢
  generalize (u8s (sum [])).toArray = cs2 at g2 e2 ⊢
  have k1 : ((w2.alloc (.cells z32 25)).alloc (.cells z32 25)).heap[w2.heap.size]? = some (.cells z32 25 (0, 0)) := by rw [Below.heap_alloc _ _ _ (by simp)]; exact heap_alloc_new w2 _
  have k2 : (((w2.alloc (.cells z32 25)).alloc (.cells z32 25)).setRow w2.heap.size cs1).heap[w2.heap.size + 1]? = some (.cells z32 25 (0, 0)) := by
    rw [setRow_other _ _ _ _ (by omega)]
    have := heap_alloc_new (w2.alloc (.cells z32 25)) (.cells z32 25)
    simpa using this
  have HB2 := hide (And.intro hb2 (And.intro g1 (And.intro g2 (And.intro e1 (And.intro e2 (And.intro k1 k2))))))
  clear hb2 g1 g2 e1 e2 k1 k2
  go_wp2_with (first
    | ((with_reducible show wpList _ _ _ ({ dst := _, op := .store 25 _ _, type := _, pos := _, after := _, guard := _ } :: _) _ _); refine wpList_store_row rfl 25 _ _ rfl w2.heap.size cs1 rfl rfl _ _ HB2.out.2.2.2.2.2.1 (by rw [HB2.out.2.1.1]; kernel_rfl) (by rw [HB2.out.2.1.1]; rfl) HB2.out.2.1.2 ?_)
    | ((with_reducible show wpList _ _ _ ({ dst := _, op := .store 25 _ _, type := _, pos := _, after := _, guard := _ } :: _) _ _); refine wpList_store_row rfl 25 _ _ rfl (w2.heap.size + 1) cs2 rfl rfl _ _ HB2.out.2.2.2.2.2.2 (by rw [HB2.out.2.2.1.1]; kernel_rfl) (by rw [HB2.out.2.2.1.1]; rfl) HB2.out.2.2.1.2 ?_
       obtain ⟨w5, hw5⟩ : ∃ w5, w5 = ((((w2.alloc (.cells z32 25)).alloc (.cells z32 25)).setRow w2.heap.size cs1).setRow (w2.heap.size + 1) cs2) := ⟨_, rfl⟩
       rw [← hw5]
       have c0 : w5.cell? ⟨w2.heap.size, 0, none⟩ = some (.int .u8 186) := by rw [hw5, cell_setRow_other _ _ _ _ (by show w2.heap.size ≠ _; omega), cell_setRow_same _ _ _ _ _ _ _ HB2.out.2.2.2.2.2.1]; exact HB2.out.2.2.2.1.1
       have c3 : w5.cell? ⟨w2.heap.size, 3, none⟩ = some (.int .u8 191) := by rw [hw5, cell_setRow_other _ _ _ _ (by show w2.heap.size ≠ _; omega), cell_setRow_same _ _ _ _ _ _ _ HB2.out.2.2.2.2.2.1]; exact HB2.out.2.2.2.1.2
       have d0 : w5.cell? ⟨w2.heap.size + 1, 0, none⟩ = some (.int .u8 227) := by rw [hw5, cell_setRow_same _ _ _ _ _ _ _ HB2.out.2.2.2.2.2.2]; exact HB2.out.2.2.2.2.1.1
       have d3 : w5.cell? ⟨w2.heap.size + 1, 3, none⟩ = some (.int .u8 66) := by rw [hw5, cell_setRow_same _ _ _ _ _ _ _ HB2.out.2.2.2.2.2.2]; exact HB2.out.2.2.2.2.1.2
       have hb5 : Below w.heap.size w w5 := by
         rw [hw5]
         have := HB2.out.1.size
         exact below_setRow (below_setRow ((HB2.out.1.alloc this _).alloc (by simp; omega) _) this _) (by omega) _
       have HB5 := hide hb5
       clear hb5 hw5))
  go_ret
  exact ⟨rfl, HB5.out⟩
end Go.Proofs.Ytmeilpehlkpofaa
