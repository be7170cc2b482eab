/-
  The walk of Texts: are two lists of texts the same?
-/
import Derived.Test.YtlpmnnkijdbopaaOver
namespace Go.Proofs.Ytlpmnnkijdbopaa
open Go.RowKit Go.Maps

theorem Sl.below' {w w' : World} {S : Nat → Prop} {A : Option Addr} {l : List Bs} (h : Sl w S 1 A RS l) (hS : ∀ b, S b → b < w.heap.size) (hb : Below w.heap.size w w') : Sl w' S 1 A RS l :=
  h.map (fun _ h => h) (fun b h => hb.block b (hS b h)) (fun _ _ h => h)
set_option maxHeartbeats 1600000 in
theorem texts_any {w : World} {S1 S2 : Nat → Prop} {A B : Option Addr} {l m : List Bs} (c d : Nat) (h1 : Sl w S1 1 A RS l) (h2 : Sl w S2 1 B RS m) (hS1 : ∀ b, S1 b → b < w.heap.size) (hS2 : ∀ b, S2 b → b < w.heap.size) (hl : l.length ≤ 1000000) (hm : m.length ≤ 1000000) :
    Calls Try.prog 16 #[.slice A l.length c, .slice B m.length d] w fun e w' => e = .returned (.bool (decide (l = m))) ∧ Below w.heap.size w w' := by
  have i1 : (l.length : Int) ≤ 1000000 := by omega
  have i2 : (m.length : Int) ≤ 1000000 := by omega
  have H := hide (And.intro h1 (And.intro h2 (And.intro hS1 hS2)))
  clear h1 h2 hS1 hS2
  by_cases hn : l.length = m.length
  · obtain ⟨q, hq⟩ : ∃ q, q = m.length := ⟨_, rfl⟩
    have HQ := hide (And.intro hn hq)
    rw [hn, ← hq]
    rw [hn, ← hq] at i1
    clear hn hq i2 hl hm
    go_enter Try.func16, Try.ntmps16
    go_wp2
    go_loopw [13] (fun i wr => ∃ k : Nat, k ≤ q ∧ i = .int .i64 k ∧ Hid (Below w.heap.size w wr ∧ l.take k = m.take k)) (fun i _ => q - (intOf i).toNat)
    case atStart => exact ⟨0, Nat.zero_le _, rfl, hide ⟨Below.refl _ _, rfl⟩⟩
    case round =>
      obtain ⟨k, hk, rfl, HR⟩ := hrel
      by_cases hlt : k < q
      · have hl1 : k < l.length := by rw [HQ.out.1, ← HQ.out.2]; exact hlt
        have hm1 : k < m.length := by rw [← HQ.out.2]; exact hlt
        obtain ⟨b, o, hA, hb, hc⟩ := rs_at (H.out.1.below' H.out.2.2.1 HR.out.1) hl1
        obtain ⟨b', o', hA', hb', hc'⟩ := rs_at (H.out.2.1.below' H.out.2.2.2 HR.out.1) hm1
        obtain ⟨x, hx⟩ : ∃ x, x = l[k] := ⟨_, rfl⟩
        obtain ⟨y, hy⟩ : ∃ y, y = m[k] := ⟨_, rfl⟩
        rw [← hx] at hc
        rw [← hy] at hc'
        subst hA hA'
        have HX := hide (And.intro hx (And.intro hy (And.intro hl1 hm1)))
        clear hx hy
        by_cases hxy : x = y
        · have hbq : (x != y) = false := by simp [hxy]
          have hbr : (x == y) = true := by simp [hxy]
          have HE := hide hxy
          clear hxy
          go_wp2_with fail
          refine wp_region_G (fun w' => Below wr.heap.size wr w') (fun _ => true) (by kernel_rfl) ((Below.refl _ _).drew) (fun hS => ?_)
          refine wpG_take 0 rfl (by kernel_rfl) (fun _ _ _ h => h) (by rfl) (fun w' hw => by go_simp; rfl) hS (fun _ => ?_)
          simp only [Act.put, List.setIfInBounds_toArray, List.set_cons_zero, List.set_cons_succ]
          refine wpG_take 1 rfl (by kernel_rfl) (fun _ _ _ h => h) (by rfl) (fun w' hw => by go_simp; rfl) hS (fun _ => ?_)
          simp only [Act.put, List.setIfInBounds_toArray, List.set_cons_zero, List.set_cons_succ]
          refine wpG_index 2 rfl (by kernel_rfl) (fun _ _ _ h => h) (by rfl) rfl rfl rfl Try.underlying31 Try.sizeS hlt hS (fun _ => ?_)
          simp only [Act.put, List.setIfInBounds_toArray, List.set_cons_zero, List.set_cons_succ]
          refine wpG_load 3 rfl (by kernel_rfl) (fun _ _ _ h => h) (by rfl) rfl (v := tx x) (fun w' hw => by have := (hw.cell (lt_of_cell (hc))).trans (hc); clear hw; go_simp) hS (fun _ => ?_)
          simp only [Act.put, List.setIfInBounds_toArray, List.set_cons_zero, List.set_cons_succ]
          refine wpG_take 4 rfl (by kernel_rfl) (fun _ _ _ h => h) (by rfl) (fun w' hw => by go_simp; rfl) hS (fun _ => ?_)
          simp only [Act.put, List.setIfInBounds_toArray, List.set_cons_zero, List.set_cons_succ]
          refine wpG_take 5 rfl (by kernel_rfl) (fun _ _ _ h => h) (by rfl) (fun w' hw => by go_simp; rfl) hS (fun _ => ?_)
          simp only [Act.put, List.setIfInBounds_toArray, List.set_cons_zero, List.set_cons_succ]
          refine wpG_index 6 rfl (by kernel_rfl) (fun _ _ _ h => h) (by rfl) rfl rfl rfl Try.underlying31 Try.sizeS hlt hS (fun _ => ?_)
          simp only [Act.put, List.setIfInBounds_toArray, List.set_cons_zero, List.set_cons_succ]
          refine wpG_load 7 rfl (by kernel_rfl) (fun _ _ _ h => h) (by rfl) rfl (v := tx y) (fun w' hw => by have := (hw.cell (lt_of_cell (hc'))).trans (hc'); clear hw; go_simp) hS (fun _ => ?_)
          simp only [Act.put, List.setIfInBounds_toArray, List.set_cons_zero, List.set_cons_succ]
          refine wpG_take 8 rfl (by kernel_rfl) (fun _ _ _ h => h) (by rfl) (fun w' hw => by go_simp; rfl) hS (fun _ => ?_)
          simp only [Act.put, List.setIfInBounds_toArray, List.set_cons_zero, List.set_cons_succ]
          refine wpG_done (by kernel_rfl) ?_
          have HZ := hide (HR.out.1.trans (hS.mono HR.out.1.size))
          clear hS hc hc'
          go_wp2
          go_roundw
          case rel => exact ⟨k + 1, by omega, by go_num, hide ⟨HZ.out, by rw [List.take_succ_eq_append_getElem hl1, List.take_succ_eq_append_getElem hm1, HR.out.2]; exact congrArg (fun u => List.take k m ++ [u]) (HX.out.1.symm.trans (HE.out.trans HX.out.2.1))⟩⟩
          case measure => simp [intOf]; omega
        · have hbq : (x != y) = true := by simpa using hxy
          have hbr : (x == y) = false := by simpa using hxy
          have HE := hide hxy
          clear hxy
          go_wp2_with fail
          refine wp_region_G (fun w' => Below wr.heap.size wr w') (fun _ => true) (by kernel_rfl) ((Below.refl _ _).drew) (fun hS => ?_)
          refine wpG_take 0 rfl (by kernel_rfl) (fun _ _ _ h => h) (by rfl) (fun w' hw => by go_simp; rfl) hS (fun _ => ?_)
          simp only [Act.put, List.setIfInBounds_toArray, List.set_cons_zero, List.set_cons_succ]
          refine wpG_take 1 rfl (by kernel_rfl) (fun _ _ _ h => h) (by rfl) (fun w' hw => by go_simp; rfl) hS (fun _ => ?_)
          simp only [Act.put, List.setIfInBounds_toArray, List.set_cons_zero, List.set_cons_succ]
          refine wpG_index 2 rfl (by kernel_rfl) (fun _ _ _ h => h) (by rfl) rfl rfl rfl Try.underlying31 Try.sizeS hlt hS (fun _ => ?_)
          simp only [Act.put, List.setIfInBounds_toArray, List.set_cons_zero, List.set_cons_succ]
          refine wpG_load 3 rfl (by kernel_rfl) (fun _ _ _ h => h) (by rfl) rfl (v := tx x) (fun w' hw => by have := (hw.cell (lt_of_cell (hc))).trans (hc); clear hw; go_simp) hS (fun _ => ?_)
          simp only [Act.put, List.setIfInBounds_toArray, List.set_cons_zero, List.set_cons_succ]
          refine wpG_take 4 rfl (by kernel_rfl) (fun _ _ _ h => h) (by rfl) (fun w' hw => by go_simp; rfl) hS (fun _ => ?_)
          simp only [Act.put, List.setIfInBounds_toArray, List.set_cons_zero, List.set_cons_succ]
          refine wpG_take 5 rfl (by kernel_rfl) (fun _ _ _ h => h) (by rfl) (fun w' hw => by go_simp; rfl) hS (fun _ => ?_)
          simp only [Act.put, List.setIfInBounds_toArray, List.set_cons_zero, List.set_cons_succ]
          refine wpG_index 6 rfl (by kernel_rfl) (fun _ _ _ h => h) (by rfl) rfl rfl rfl Try.underlying31 Try.sizeS hlt hS (fun _ => ?_)
          simp only [Act.put, List.setIfInBounds_toArray, List.set_cons_zero, List.set_cons_succ]
          refine wpG_load 7 rfl (by kernel_rfl) (fun _ _ _ h => h) (by rfl) rfl (v := tx y) (fun w' hw => by have := (hw.cell (lt_of_cell (hc'))).trans (hc'); clear hw; go_simp) hS (fun _ => ?_)
          simp only [Act.put, List.setIfInBounds_toArray, List.set_cons_zero, List.set_cons_succ]
          refine wpG_take 8 rfl (by kernel_rfl) (fun _ _ _ h => h) (by rfl) (fun w' hw => by go_simp; rfl) hS (fun _ => ?_)
          simp only [Act.put, List.setIfInBounds_toArray, List.set_cons_zero, List.set_cons_succ]
          refine wpG_done (by kernel_rfl) ?_
          have HZ := hide (HR.out.1.trans (hS.mono HR.out.1.size))
          clear hS hc hc'
          go_wp2
          go_ret
          refine ⟨ret_b ?_, HZ.out⟩
          have hne : l ≠ m := fun e => HE.out (by rw [HX.out.1, HX.out.2.1]; subst e; rfl)
          simp [hne]
      · have hlm : l = m := by
          have := HR.out.2
          rwa [List.take_of_length_le (by rw [HQ.out.1, ← HQ.out.2]; omega), List.take_of_length_le (by rw [← HQ.out.2]; omega)] at this
        have HL := hide (And.intro hlm HR.out.1)
        clear hlm
        go_wp2
        go_ret
        exact ⟨ret_b (by simp [HL.out.1]), HL.out.2⟩
  · have hbq : ((l.length : Int) != (m.length : Int)) = true := by simp; omega
    have hne : l ≠ m := fun e => hn (by rw [e])
    have HE := hide hne
    clear hn hne
    go_enter Try.func16, Try.ntmps16
    go_wp2
    go_ret
    exact ⟨ret_b (by simp [HE.out]), Below.refl _ _⟩
end Go.Proofs.Ytlpmnnkijdbopaa
