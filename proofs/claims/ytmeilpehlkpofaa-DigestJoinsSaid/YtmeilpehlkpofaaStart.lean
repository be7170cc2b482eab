/-
  The walk of the state's start.
-/
import Derived.Test.YtmeilpehlkpofaaState
import Derived.Deep.RegionWith
namespace Go.Proofs.Ytmeilpehlkpofaa
open Go.RowKit
open sha

set_option maxRecDepth 100000 in
set_option maxHeartbeats 800000 in
theorem start_any (w : World) :
    Calls Try.prog 19 #[] w fun e w' => e = .returned (.pointer (some ⟨w.heap.size, 0, none⟩)) ∧ w'.heap[w.heap.size]? = some (.cells (stz H0.l K (.slice none 0 0) 0) 58 (0, 0)) ∧ Below w.heap.size w w' := by
  have hz : ∀ w : World, (zeroValue 58).run Try.prog w = .ok (.agg (stz (fill H0.l 0) (fill K 0) (.slice none 0 0) 0)) w := fun w => by kernel_rfl
  go_enter Try.func19, Try.ntmps19
  go_wp2_with fail
  obtain ⟨Z, hZ⟩ : ∃ Z, Z = stz (fill H0.l 0) (fill K 0) (.slice none 0 0) 0 := ⟨_, rfl⟩
  rw [← hZ]
  clear hz
  have hS0 : (w.alloc (.cells Z 58)).heap[w.heap.size]? = some (.cells Z 58 (0, 0)) := heap_alloc_new w _
  have hB0 : Below w.heap.size w (w.alloc (.cells Z 58)) := (Below.refl _ _).alloc (Nat.le_refl _) _
  have hs0 : (w.alloc (.cells Z 58)).heap.size = w.heap.size + 1 := by simp
  obtain ⟨w0, hw0⟩ : ∃ w0, w0 = w.alloc (.cells Z 58) := ⟨_, rfl⟩
  rw [← hw0] at hS0 hB0 hs0 ⊢
  have H0' := hide (And.intro hZ (And.intro hS0 (And.intro hB0 hs0)))
  clear hZ hS0 hB0 hs0 hw0
  refine (primes_any w0).mono ?_
  rintro e w1 ⟨A, c, rfl, hown1, hb1⟩
  have HP := hide (And.intro hown1 hb1)
  clear hown1 hb1
  go_wp2_with fail
  go_loopw [8] (fun i wr => ∃ j : Nat, j ≤ 64 ∧ i = .int .i64 j ∧ wr.heap[w.heap.size]? = some (.cells (stz (fill H0.l j) (fill K j) (.slice none 0 0) 0) 58 (0, 0)) ∧ wr.ownsRow w0.heap.size 48 1 (.slice A 64 c) 64 (u64s (prs 310)) ∧ Below w.heap.size w wr)
    (fun i _ => 64 - (intOf i).toNat)
  case atStart =>
    exact ⟨0, by omega, rfl, by rw [HP.out.2.block _ (by rw [H0'.out.2.2.2]; omega), H0'.out.2.1, H0'.out.1], HP.out.1, H0'.out.2.2.1.trans (HP.out.2.mono (by rw [H0'.out.2.2.2]; omega))⟩
  case round =>
    obtain ⟨j, hj, rfl, hS, hown, hB⟩ := hrel
    by_cases hlt : (j : Int) < 64
    · obtain ⟨p, hp⟩ : ∃ p, (prs 310)[j]? = some p := ⟨_, List.getElem?_eq_getElem (by rw [prs310]; omega)⟩
      have hp2 := prs_pos 310 p (List.mem_of_getElem? hp)
      obtain ⟨b, o, u, rfl, hbB, hu, hcell⟩ := (Rd.of_own hown).at_ (j := j) (by omega)
      have hu2 := u64s_get hp
      rw [hu] at hu2
      injection hu2 with hu2
      subst hu2
      have hk : K[j]? = some (root p true) := by rw [← roots_K, List.getElem?_map, hp]; rfl
      have HRt := hide (fun w => root_any p true (by omega) w)
      have hck : wr.cell? ⟨w.heap.size, 8 + j, none⟩ = some (.int .u32 0) := by
        rw [cell_of_row _ _ _ _ _ _ hS, stz_k (x := 0) (by rw [fill_length]; rfl) (by
          unfold fill; rw [List.getElem?_append_right (by rw [List.length_take, K_length]; omega), List.length_take, K_length, List.getElem?_replicate]; simp; omega)]
        rfl
      have hfk : wr.frozen? ⟨w.heap.size, 8 + j, none⟩ = false := frozen_of_row _ _ _ _ _ hS
      have hnl := fill_length H0.l j
      have hkl := fill_length K j
      by_cases h8 : (j : Int) < 8
      · have hh : H0.l[j]? = some (root p false) := by rw [← roots_H, List.getElem?_map, List.getElem?_take, if_pos (by omega), hp]; rfl
        have HRf := hide (fun w => root_any p false (by omega) w)
        have hch : wr.cell? ⟨w.heap.size, j, none⟩ = some (.int .u32 0) := by
          rw [cell_of_row _ _ _ _ _ _ hS, stz_h (x := 0) (by
            unfold fill; rw [List.getElem?_append_right (by rw [List.length_take, V8.l_length]; omega), List.length_take, V8.l_length, List.getElem?_replicate]; simp; omega)]
          rfl
        have hfh : wr.frozen? ⟨w.heap.size, j, none⟩ = false := frozen_of_row _ _ _ _ _ hS
        have HC := hide (And.intro hck hfk)
        clear hck hfk
        have HS := hide (And.intro hS (And.intro hown (And.intro hB (And.intro hk (And.intro hp2 (And.intro hj (And.intro hh (And.intro hnl hkl))))))))
        clear hS hown hB hk hp2 hj hp hu hh hnl hkl
        go_wp2_with fail
        go_region_with (go_at_call 26; refine (HRf.out _).mono ?_; rintro e w2 ⟨rfl, rfl⟩)
        have hS5 : ((wr.setCell ⟨w.heap.size, j, none⟩ (.int .u32 ((root p false).toNat : Int))).drew).heap[w.heap.size]? = some (.cells (stz (fill H0.l (j + 1)) (fill K j) (.slice none 0 0) 0) 58 (0, 0)) := by
          show (wr.setCell ⟨w.heap.size, j, none⟩ (.int .u32 ((root p false).toNat : Int))).heap[w.heap.size]? = _
          rw [heap_setCell_same _ _ _ _ _ _ HS.out.1, stz_setH (by rw [HS.out.2.2.2.2.2.2.2.1, V8.l_length]; omega), fill_set HS.out.2.2.2.2.2.2.1]
        have hg5 : wr.grownBy ((wr.setCell ⟨w.heap.size, j, none⟩ (.int .u32 ((root p false).toNat : Int))).drew) (some w.heap.size) := grown_drewN (grown_setCell (World.grownBy.refl _ _)) 1
        obtain ⟨w5, hw5⟩ : ∃ w5, w5 = (wr.setCell ⟨w.heap.size, j, none⟩ (.int .u32 ((root p false).toNat : Int))).drew := ⟨_, rfl⟩
        rw [← hw5] at hS5 hg5 ⊢
        clear hw5
        have hck : w5.cell? ⟨w.heap.size, 8 + j, none⟩ = some (.int .u32 0) := by
          rw [cell_of_row _ _ _ _ _ _ hS5, stz_k (x := 0) (by rw [fill_length]; rfl) (by
            unfold fill; rw [List.getElem?_append_right (by rw [List.length_take, K_length]; omega), List.length_take, K_length, List.getElem?_replicate]; simp; omega)]
          rfl
        have hfk : w5.frozen? ⟨w.heap.size, 8 + j, none⟩ = false := frozen_of_row _ _ _ _ _ hS5
        have HG := hide (And.intro hS5 hg5)
        clear hS5 hg5
        go_wp2_with fail
        go_region_with (go_at_call 26; refine (HRt.out _).mono ?_; rintro e w2 ⟨rfl, rfl⟩)
        go_wp2_with fail
        go_roundw
        case rel =>
          have hg : wr.grownBy ((w5.setCell ⟨w.heap.size, 8 + j, none⟩ (.int .u32 ((root p true).toNat : Int))).drew) (some w.heap.size) := grown_drewN (grown_setCell HG.out.2) 1
          refine ⟨j + 1, by omega, by go_num, ?_, HS.out.2.1.kept hg (.inr ?_), HS.out.2.2.1.grown hg HS.out.2.2.1.size (by intro k hk; injection hk with hk; omega)⟩
          · show (w5.setCell ⟨w.heap.size, 8 + j, none⟩ (.int .u32 ((root p true).toNat : Int))).heap[w.heap.size]? = _
            rw [heap_setCell_same _ _ _ _ _ _ HG.out.1, stz_setK (by rw [fill_length]; rfl) (by rw [HS.out.2.2.2.2.2.2.2.2, K_length]; omega), fill_set HS.out.2.2.2.1]
          · intro e
            have := (HS.out.2.1.lt _ e).1
            rw [H0'.out.2.2.2] at this
            omega
        case measure => simp [intOf]; omega
      · have HS := hide (And.intro hS (And.intro hown (And.intro hB (And.intro hk (And.intro hp2 (And.intro hj (And.intro hnl hkl)))))))
        clear hS hown hB hk hp2 hj hp hu hnl hkl
        go_wp2_with fail
        go_region_with (go_at_call 26; refine (HRt.out _).mono ?_; rintro e w2 ⟨rfl, rfl⟩)
        go_wp2_with fail
        go_roundw
        case rel =>
          have hg : wr.grownBy ((wr.setCell ⟨w.heap.size, 8 + j, none⟩ (.int .u32 ((root p true).toNat : Int))).drew) (some w.heap.size) := grown_drewN (grown_setCell (World.grownBy.refl _ _)) 1
          refine ⟨j + 1, by omega, by go_num, ?_, HS.out.2.1.kept hg (.inr ?_), HS.out.2.2.1.grown hg HS.out.2.2.1.size (by intro k hk; injection hk with hk; omega)⟩
          · show (wr.setCell ⟨w.heap.size, 8 + j, none⟩ (.int .u32 ((root p true).toNat : Int))).heap[w.heap.size]? = _
            rw [heap_setCell_same _ _ _ _ _ _ HS.out.1, stz_setK (by rw [fill_length]; rfl) (by rw [HS.out.2.2.2.2.2.2.2, K_length]; omega), fill_set HS.out.2.2.2.1,
              fill_all H0.l j (by rw [V8.l_length]; omega), fill_all H0.l (j + 1) (by rw [V8.l_length]; omega)]
          · intro e
            have := (HS.out.2.1.lt _ e).1
            rw [H0'.out.2.2.2] at this
            omega
        case measure => simp [intOf]; omega
    · have ej : j = 64 := by omega
      have hS2 : wr.heap[w.heap.size]? = some (.cells (stz H0.l K (.slice none 0 0) 0) 58 (0, 0)) := by
        rw [hS, ej, fill_all H0.l 64 (by rw [V8.l_length]; omega), fill_all K 64 (by rw [K_length]; omega)]
      have HE := hide (And.intro hS2 hB)
      clear hS hS2 hB hown
      go_wp2_with fail
      go_ret
      exact ⟨rfl, HE.out.1, HE.out.2⟩
end Go.Proofs.Ytmeilpehlkpofaa
