/-
  The walks of the digest of parts, and of bytes.
-/
import Derived.Test.YtmeilpehlkpofaaEnd
namespace Go.Proofs.Ytmeilpehlkpofaa
open Go.RowKit
open sha

theorem flat_take {ps : List (List UInt8)} {j : Nat} {l : List UInt8} (h : ps[j]? = some l) : (ps.take (j + 1)).flatten = (ps.take j).flatten ++ l := by
  rw [List.take_add_one, h]; simp
theorem flat_le (ps : List (List UInt8)) (j : Nat) : (ps.take j).flatten.length ≤ ps.flatten.length := by
  conv => rhs; rw [← List.take_append_drop j ps, List.flatten_append, List.length_append]
  omega
theorem sum_length (t : List UInt8) : (sum t).length = 32 := by unfold sum; rw [out_length]; rfl
theorem key_cells {l : List UInt8} (h : l.length = 32) : (u8s l).toArray.size = 32 ∧ ((u8s l).toArray).all (·.oneCell') = true := by
  refine ⟨by rw [List.size_toArray, u8s_length, h], ?_⟩
  rw [Array.all_eq_true_iff_forall_mem]
  intro u hu
  exact u8s_one _ u (by simpa using hu)
set_option maxRecDepth 100000 in
set_option maxHeartbeats 1600000 in
theorem joined_any {w : World} {B n : Nat} {A : Option Addr} {ps : List (List UInt8)} (c : Nat) (hp : Rp w B A n ps) (hB : B ≤ w.heap.size) (hn : n ≤ maxLen) (ht : ps.flatten.length ≤ 999999000) :
    Calls Try.prog 12 #[.slice A n c] w fun e w' => e = .returned (.agg (u8s (sum ps.flatten)).toArray) ∧ Below w.heap.size w w' := by
  have hn : (n : Int) ≤ 9223372036854775807 := by unfold maxLen at hn; omega
  have hz : ∀ w : World, (zeroValue 25).run Try.prog w = .ok (.agg z32) w := fun w => by kernel_rfl
  have hp1 := hp.alloc hB (.cells z32 25)
  have hR1 : (w.alloc (.cells z32 25)).heap[w.heap.size]? = some (.cells z32 25 (0, 0)) := heap_alloc_new w _
  have hs1 : (w.alloc (.cells z32 25)).heap.size = w.heap.size + 1 := by simp
  have hb1 : Below w.heap.size w (w.alloc (.cells z32 25)) := (Below.refl _ _).alloc (Nat.le_refl _) _
  have H1 := hide (And.intro hp1 (And.intro hR1 (And.intro hs1 (And.intro hb1 (And.intro hB ht)))))
  have hpl := hp.len
  have HL := hide hpl
  clear hp1 hp hR1 hs1 hb1 hB hpl ht
  go_enter Try.func12, Try.ntmps12
  go_wp2_with fail
  clear hz
  refine (start_any _).mono ?_
  rintro e w2 ⟨rfl, hS2, hb2⟩
  rw [H1.out.2.2.1] at hS2 hb2
  have H2 := hide (And.intro hS2 hb2)
  clear hS2 hb2
  go_wp2_with fail
  go_loopw [9] (fun i wr => ∃ j : Nat, j ≤ n ∧ i = .int .i64 j ∧ Holds wr (w.heap.size + 1) (w.heap.size + 1) (ps.take j).flatten.length (eat H0 (ps.take j).flatten) (rest (ps.take j).flatten) ∧ Below (w.heap.size + 1) (w.alloc (.cells z32 25)) wr)
    (fun i _ => n - (intOf i).toNat)
  case atStart => exact ⟨0, by omega, rfl, by rw [List.take_zero, List.flatten_nil]; exact ⟨none, 0, 0, H2.out.1, OwnB.nil' _ _⟩, H2.out.2⟩
  case round =>
    obtain ⟨j, hj, rfl, hH, hb⟩ := hrel
    by_cases hlt : (j : Int) < (n : Int)
    · obtain ⟨l, hl⟩ : ∃ l, ps[j]? = some l := ⟨_, List.getElem?_eq_getElem (by rw [HL.out]; omega)⟩
      obtain ⟨b, o, A', n', c', rfl, hbB, hcell, hr, hm⟩ := H1.out.1.at_ j l hl
      have hc : wr.cell? ⟨b, o + j, none⟩ = some (.slice A' n' c') := by rw [hb.cell (p := ⟨b, o + j, none⟩) (by have := H1.out.2.2.2.2.1; show b < _; omega)]; exact hcell
      have hr2 := hr.below (hb.mono (by have := H1.out.2.2.2.2.1; omega))
      have hft := flat_take hl
      have hfl := flat_le ps (j + 1)
      rw [hft, List.length_append] at hfl
      have hrl := hr.len
      have HX := hide (And.intro hH (And.intro hb (And.intro hr2 (And.intro hft (And.intro hfl (And.intro hrl hj))))))
      clear hH hb hr2 hft hfl hr hrl hj hm hcell
      go_wp2_with fail
      refine (take_h c' HX.out.1 HX.out.2.2.1 (Nat.le_refl _) (by have := HX.out.2.2.2.2.1; have := HX.out.2.2.2.2.2.1; have := H1.out.2.2.2.2.2; omega) (by have := HX.out.2.2.2.2.1; have := HX.out.2.2.2.2.2.1; have := H1.out.2.2.2.2.2; rw [rest_length]; omega)).mono ?_
      rintro e w4 ⟨rfl, hH4, hb4, ho4⟩
      rw [eat_more, rest_more, ← HX.out.2.2.2.1] at hH4
      have HH4 := hide (And.intro hH4 (HX.out.2.1.trans hb4))
      clear hH4 hb4 ho4
      go_wp2_with fail
      go_roundw
      case rel => exact ⟨j + 1, by omega, by go_num, by have := HH4.out.1; rw [← HX.out.2.2.2.2.2.1, ← List.length_append, ← HX.out.2.2.2.1] at this; exact this, HH4.out.2⟩
      case measure => simp [intOf]; omega
    · have ej : j = n := by omega
      rw [List.take_of_length_le (by rw [HL.out]; omega)] at hH
      have HX := hide (And.intro hH hb)
      clear hH hb
      go_wp2_with fail
      refine (end_any HX.out.1 (Nat.le_refl _) H1.out.2.2.2.2.2).mono ?_
      rintro e w4 ⟨rfl, hb4⟩
      have hb5 := HX.out.2.trans hb4
      have hR5 : w4.heap[w.heap.size]? = some (.cells z32 25 (0, 0)) := by rw [hb5.block _ (by omega)]; exact H1.out.2.1
      obtain ⟨cs, hcs⟩ : ∃ cs, cs = (u8s (sum ps.flatten)).toArray := ⟨_, rfl⟩
      have hk := key_cells (sum_length ps.flatten)
      rw [← hcs] at hk ⊢
      have HE := hide (And.intro hR5 (And.intro hk (And.intro hcs (H1.out.2.2.2.1.trans (hb5.mono (by omega))))))
      clear hb5 hR5 hk hcs hb4
      go_wp2_with ((with_reducible show wpList _ _ _ ({ dst := _, op := .store 25 _ _, type := _, pos := _, after := _, guard := _ } :: _) _ _); refine wpList_store_row rfl 25 _ _ rfl _ cs rfl rfl _ _ HE.out.1 (by rw [HE.out.2.1.1]; kernel_rfl) (by rw [HE.out.2.1.1]; rfl) HE.out.2.1.2 ?_)
      exact bodyPost_ret (v := .agg cs) (results_cell_row Try.results12 _ _ w.heap.size 25 cs (0, 0) (.array 32 5) rfl (setRow_heap _ _ _ _ _ _ HE.out.1) Try.underlying25 rfl (by rw [HE.out.2.1.1]; kernel_rfl)) rfl
        ⟨by rw [HE.out.2.2.1], below_setRow HE.out.2.2.2 (Nat.le_refl _) _⟩
set_option maxRecDepth 100000 in
set_option maxHeartbeats 1600000 in
theorem sum_any {w : World} {B n : Nat} {A : Option Addr} {l : List UInt8} (c : Nat) (hp : Rb w B A n l) (hB : B ≤ w.heap.size) (hn : n ≤ 999999000) :
    Calls Try.prog 10 #[.slice A n c] w fun e w' => e = .returned (.agg (u8s (sum l)).toArray) ∧ Below w.heap.size w w' := by
  have hz : ∀ w : World, (zeroValue 25).run Try.prog w = .ok (.agg z32) w := fun w => by kernel_rfl
  have hl := hp.len
  have hR1 : (w.alloc (.cells z32 25)).heap[w.heap.size]? = some (.cells z32 25 (0, 0)) := heap_alloc_new w _
  have hb1 : Below w.heap.size w (w.alloc (.cells z32 25)) := (Below.refl _ _).alloc (Nat.le_refl _) _
  have H1 := hide (And.intro hp (And.intro hR1 (And.intro hb1 (And.intro hB (And.intro hn hl)))))
  clear hp hR1 hb1 hB hn hl
  go_enter Try.func10, Try.ntmps10
  go_wp2_with fail
  clear hz
  have hp2 : Rp ((w.alloc (.cells z32 25)).alloc (.cells #[.slice A n c] 22)) (w.heap.size + 2) (some ⟨w.heap.size + 1, 0, none⟩) 1 [l] := by
    refine ⟨rfl, fun j x hx => ?_⟩
    have hj : j = 0 := by have := (List.getElem?_eq_some_iff.1 hx).1; simp at this; omega
    subst hj
    have hx : l = x := by simpa using hx
    subst hx
    refine ⟨w.heap.size + 1, 0, A, n, c, rfl, by omega, ?_, ?_, by have := H1.out.2.2.2.2.1; unfold maxLen; omega⟩
    · rw [World.cell?_alloc_at _ _ _ _ (by simp)]; rfl
    · have h0 := (H1.out.1.alloc H1.out.2.2.2.1 (.cells z32 25)).alloc (by have := H1.out.2.2.2.1; simp; omega) (.cells #[.slice A n c] 22)
      exact h0.more (by have := H1.out.2.2.2.1; omega)
  refine (joined_any 1 hp2 (by simp) (by unfold maxLen; omega) (by have := H1.out.2.2.2.2; simp; omega)).mono ?_
  rintro e w4 ⟨rfl, hb4⟩
  have hb5 := (Below.mono hb4 (by simp : w.heap.size + 1 ≤ _))
  have hR5 : w4.heap[w.heap.size]? = some (.cells z32 25 (0, 0)) := by rw [hb5.block _ (by omega), Below.heap_alloc _ _ _ (by simp)]; exact H1.out.2.1
  have hfl : [l].flatten = l := by simp
  rw [hfl]
  obtain ⟨cs, hcs⟩ : ∃ cs, cs = (u8s (sum l)).toArray := ⟨_, rfl⟩
  have hk := key_cells (sum_length l)
  rw [← hcs] at hk ⊢
  have HE := hide (And.intro hR5 (And.intro hk (And.intro hcs ((H1.out.2.2.1.alloc (by simp) _).trans (hb5.mono (by omega))))))
  clear hb5 hR5 hk hcs hb4 hfl
  go_wp2_with ((with_reducible show wpList _ _ _ ({ dst := _, op := .store 25 _ _, type := _, pos := _, after := _, guard := _ } :: _) _ _); refine wpList_store_row rfl 25 _ _ rfl _ cs rfl rfl _ _ HE.out.1 (by rw [HE.out.2.1.1]; kernel_rfl) (by rw [HE.out.2.1.1]; rfl) HE.out.2.1.2 ?_)
  exact bodyPost_ret (v := .agg cs) (results_cell_row Try.results10 _ _ w.heap.size 25 cs (0, 0) (.array 32 5) rfl (setRow_heap _ _ _ _ _ _ HE.out.1) Try.underlying25 rfl (by rw [HE.out.2.1.1]; kernel_rfl)) rfl
    ⟨by rw [HE.out.2.2.1], below_setRow HE.out.2.2.2 (Nat.le_refl _) _⟩
end Go.Proofs.Ytmeilpehlkpofaa
