/-
  The walk of the reference's Same: types with the same data are the same.
-/
import Derived.Test.YtlpmnnkijdbopaaSameI
import Derived.Test.YtlpmnnkijdbopaaFindW
namespace Go.Proofs.Ytlpmnnkijdbopaa
open Go.RowKit Go.Maps

section
variable {P : Program} {ops : Array Oper} {Q : Exit → Act → World → Prop} {md : Region.Mode} {S : World → Prop} {kp : Nat → Bool}
/-- just two may come up -/
theorem wpG_two (i j : Nat) {oi oj : Oper} {ri rj : List Oper} {fuel : Nat} {listed : Array Bool} {a : Act} {w : World} (hi : ops.toList.drop i = oi :: ri) (hj : ops.toList.drop j = oj :: rj) (hr : Region.ready md ops listed = [i, j])
    (hwi : Region.wanted oi (yielded ops a.tmps) = true) (hwj : Region.wanted oj (yielded ops a.tmps) = true)
    (h1 : ∀ K : Act → World → Prop, (∀ a' w', (kp i = true → S w') → (S w' ∨ kp i = false → wpG P md ops Q S kp fuel (listed.setIfInBounds i true) a' w') → K a' w') → Oper.wp P oi a w K Q)
    (h2 : ∀ K : Act → World → Prop, (∀ a' w', (kp j = true → S w') → (S w' ∨ kp j = false → wpG P md ops Q S kp fuel (listed.setIfInBounds j true) a' w') → K a' w') → Oper.wp P oj a w K Q) : wpG P md ops Q S kp (fuel + 1) listed a w := by
  have hi := at_of_drop hi
  have hj := at_of_drop hj
  refine ⟨fun h0 => (by rw [hr] at h0; cases h0), fun k hk => ?_⟩
  rw [hr] at hk
  rcases List.mem_cons.1 hk with rfl | hk
  · unfold wpOp
    simp only [hi, hwi, if_true]
    refine .inl (h1 _ fun a' w' h1 h2 => ⟨h1, h2 ?_⟩)
    cases hk : kp k with
    | true => exact .inl (h1 hk)
    | false => exact .inr rfl
  · have hkj : k = j := by simpa using hk
    subst hkj
    unfold wpOp
    simp only [hj, hwj, if_true]
    refine .inl (h2 _ fun a' w' h1 h2 => ⟨h1, h2 ?_⟩)
    cases hk : kp k with
    | true => exact .inl (h1 hk)
    | false => exact .inr rfl
end
structure Pr (wr : World) (ga gb : Nat) (c1 c2 : Array Value) (t : TypeId) : Prop where
  b1 : wr.heap[ga]? = some (.cells c1 t (0, 0))
  b2 : wr.heap[gb]? = some (.cells c2 t (0, 0))
section
variable {wr w2 : World} {ga gb : Nat} {c1 c2 : Array Value} {t : TypeId}
theorem Pr.c (h : Pr wr ga gb c1 c2 t) (j : Nat) : wr.cell? ⟨ga, j, none⟩ = c1[j]? := cell_of_row _ _ _ _ _ _ h.b1
theorem Pr.d (h : Pr wr ga gb c1 c2 t) (j : Nat) : wr.cell? ⟨gb, j, none⟩ = c2[j]? := cell_of_row _ _ _ _ _ _ h.b2
theorem Pr.more (h : Pr wr ga gb c1 c2 t) (hb : Below wr.heap.size wr w2) : Pr w2 ga gb c1 c2 t :=
  ⟨by rw [hb.block _ (lt_of_block h.b1)]; exact h.b1, by rw [hb.block _ (lt_of_block h.b2)]; exact h.b2⟩
end
theorem RF.up' {w w' : World} {S : Nat → Prop} {n : Nat} {i : Fd} {cs : List Value} (h : RF w S n i cs) (hS : ∀ b, S b → b < w.heap.size) (hb : Below w.heap.size w w') : RF w' S n i cs :=
  RF.map (fun _ h => h) (fun b h => hb.block b (hS b h)) _ _ h
theorem RT.up' {w w' : World} {S : Nat → Prop} {n : Nat} {i : Td} {cs : List Value} (h : RT w S n i cs) (hS : ∀ b, S b → b < w.heap.size) (hb : Below w.heap.size w w') : RT w' S n i cs :=
  RT.map (fun _ h => h) (fun b h => hb.block b (hS b h)) _ _ h
set_option maxRecDepth 20000 in
set_option maxHeartbeats 6400000 in
theorem sameTypes_any {n : Nat} {w : World} {S1 S2 : Nat → Prop} {A B : Option Addr} {l : List Td} (c d : Nat) (h1 : Sl w S1 7 A (RT w S1 n) l) (h2 : Sl w S2 7 B (RT w S2 n) l) (hS1 : ∀ b, S1 b → b < w.heap.size) (hS2 : ∀ b, S2 b → b < w.heap.size) (hl : l.length ≤ 80) (hf : ∀ d ∈ l, FewT n d) :
    Calls Try.prog 21 #[.slice A l.length c, .slice B l.length d, .bool true] w (TrueR w) := by
  have i1 : (l.length : Int) ≤ 80 := by omega
  have H := hide (And.intro h1 (And.intro h2 (And.intro hS1 (And.intro hS2 hf))))
  clear h1 h2 hS1 hS2 hl hf
  go_enter Try.func21, Try.ntmps21
  go_wp2
  go_loopw [20] (fun i wr => ∃ k : Nat, k ≤ l.length ∧ i = .int .i64 k ∧ Hid (Below w.heap.size w wr)) (fun i _ => l.length - (intOf i).toNat)
  case atStart => exact ⟨0, Nat.zero_le _, rfl, hide (Below.refl _ _)⟩
  case round =>
    obtain ⟨k, hk, rfl, HB⟩ := hrel
    by_cases hlt : k < l.length
    · obtain ⟨d, hfe⟩ : ∃ d, d = l[k] := ⟨_, rfl⟩
      have hmem : d ∈ l := by rw [hfe]; exact List.getElem_mem _
      have hx1 := H.out.1 k _ (List.getElem?_eq_getElem hlt)
      have hx2 := H.out.2.1 k _ (List.getElem?_eq_getElem hlt)
      rw [← hfe] at hx1 hx2
      obtain ⟨g1, o1, v1, hA, hg1, hl1, hr1, hR1⟩ := hx1
      obtain ⟨g2, o2, v2, hB, hg2, hl2, hr2, hR2⟩ := hx2
      subst hA hB
      have hb1 : g1 < w.heap.size := H.out.2.2.1 g1 hg1
      have hb2 : g2 < w.heap.size := H.out.2.2.2.1 g2 hg2
      have sz := HB.out.size
      have HX := hide (And.intro (And.intro (show g1 < wr.heap.size by omega) (show g2 < wr.heap.size by omega)) (And.intro (show wr.rangeAt g1 (o1 + k * 7) v1 from range_congr (HB.out.block _ hb1) hr1) (show wr.rangeAt g2 (o2 + k * 7) v2 from range_congr (HB.out.block _ hb2) hr2)))
      have HV := hide (And.intro hl1 (And.intro hl2 (And.intro (hR1.up' H.out.2.2.1 HB.out) (And.intro (hR2.up' H.out.2.2.2.1 HB.out) (And.intro (show ∀ b, S1 b → b < wr.heap.size from fun b hb => Nat.lt_of_lt_of_le (H.out.2.2.1 b hb) sz) (And.intro (show ∀ b, S2 b → b < wr.heap.size from fun b hb => Nat.lt_of_lt_of_le (H.out.2.2.2.1 b hb) sz) (H.out.2.2.2.2 d hmem)))))))
      clear hfe hmem hl1 hl2 hr1 hr2 hR1 hR2 hb1 hb2 sz hg1 hg2
      go_upto_region 6 with fail
      go_cut [8, 9] (fun s8 s9 wx => ∃ ga gb : Nat, s8 = .pointer (some ⟨ga, 0, none⟩) ∧ s9 = .pointer (some ⟨gb, 0, none⟩) ∧ Hid (Below wr.heap.size wr wx ∧ wr.heap.size ≤ ga ∧ wr.heap.size ≤ gb ∧ wx.heap[ga]? = some (.cells v1.toArray 35 (0, 0)) ∧ wx.heap[gb]? = some (.cells v2.toArray 35 (0, 0))))
      case first =>
        refine wp_region_G (fun w' => Below wr.heap.size wr w') (fun _ => true) (by kernel_rfl) ((Below.refl _ _).drew) (fun hS => ?_)
        refine wpG_take 0 rfl (by kernel_rfl) (fun _ _ _ h => h) (by rfl) (fun w' hw => by go_simp; rfl) hS (fun _ => ?_)
        simp only [Act.put, List.setIfInBounds_toArray, List.set_cons_zero, List.set_cons_succ]
        refine wpG_take 1 rfl (by kernel_rfl) (fun _ _ _ h => h) (by rfl) (fun w' hw => by go_simp; rfl) hS (fun _ => ?_)
        simp only [Act.put, List.setIfInBounds_toArray, List.set_cons_zero, List.set_cons_succ]
        refine wpG_index 2 rfl (by kernel_rfl) (fun _ _ _ h => h) (by rfl) rfl rfl rfl Try.underlying22 Try.sizeT hlt hS (fun _ => ?_)
        simp only [Act.put, List.setIfInBounds_toArray, List.set_cons_zero, List.set_cons_succ]
        refine wpG_load 3 rfl (by kernel_rfl) (fun _ _ _ h => h) (by rfl) rfl (v := .agg v1.toArray) (fun w' hw => run_loadAt_mid w' g1 (o1 + k * 7) 35 v1 _ (range_congr (hw.block _ HX.out.1.1) HX.out.2.1) Try.underlying35 rfl (by rw [Try.sizeT, HV.out.1])) hS (fun _ => ?_)
        simp only [Act.put, List.setIfInBounds_toArray, List.set_cons_zero, List.set_cons_succ]
        refine wpG_take 4 rfl (by kernel_rfl) (fun _ _ _ h => h) (by rfl) (fun w' hw => by go_simp; rfl) hS (fun _ => ?_)
        simp only [Act.put, List.setIfInBounds_toArray, List.set_cons_zero, List.set_cons_succ]
        refine wpG_take 5 rfl (by kernel_rfl) (fun _ _ _ h => h) (by rfl) (fun w' hw => by go_simp; rfl) hS (fun _ => ?_)
        simp only [Act.put, List.setIfInBounds_toArray, List.set_cons_zero, List.set_cons_succ]
        refine wpG_index 6 rfl (by kernel_rfl) (fun _ _ _ h => h) (by rfl) rfl rfl rfl Try.underlying22 Try.sizeT hlt hS (fun _ => ?_)
        simp only [Act.put, List.setIfInBounds_toArray, List.set_cons_zero, List.set_cons_succ]
        refine wpG_load 7 rfl (by kernel_rfl) (fun _ _ _ h => h) (by rfl) rfl (v := .agg v2.toArray) (fun w' hw => run_loadAt_mid w' g2 (o2 + k * 7) 35 v2 _ (range_congr (hw.block _ HX.out.1.2) HX.out.2.2) Try.underlying35 rfl (by rw [Try.sizeT, HV.out.2.1])) hS (fun _ => ?_)
        simp only [Act.put, List.setIfInBounds_toArray, List.set_cons_zero, List.set_cons_succ]
        refine wpG_two 8 9 rfl rfl (by kernel_rfl) (by rfl) (by rfl) (fun K hK => ?_) (fun K hK => ?_)
        · go_simp
          refine hK _ _ (fun _ => ((Below.refl _ wr).alloc (Nat.le_refl _) _).drew) (fun _ => ?_)
          clear hK K
          obtain ⟨w1, hw1⟩ : ∃ w1, w1 = (wr.alloc (.cells #[.int .i64 0, .string ⟨#[]⟩, .slice none 0 0, .slice none 0 0, .slice none 0 0, .slice none 0 0, .int .i64 0] 35)).drew := ⟨_, rfl⟩
          rw [← hw1]
          have hb1 : Below wr.heap.size wr w1 := by rw [hw1]; exact ((Below.refl _ wr).alloc (Nat.le_refl _) _).drew
          have hy1 : w1.heap[wr.heap.size]? = some (.cells #[.int .i64 0, .string ⟨#[]⟩, .slice none 0 0, .slice none 0 0, .slice none 0 0, .slice none 0 0, .int .i64 0] 35 (0, 0)) := by rw [hw1]; exact heap_alloc_new wr _
          have hsz : wr.heap.size < w1.heap.size := lt_of_block hy1
          clear hw1
          refine wpG_one 9 rfl (by kernel_rfl) (by rfl) (fun K hK => ?_)
          go_simp
          refine hK _ _ (fun _ => hb1.alloc (by omega) _) (fun _ => ?_)
          clear hK K hS
          obtain ⟨w2, hw2⟩ : ∃ w2, w2 = w1.alloc (.cells #[.int .i64 0, .string ⟨#[]⟩, .slice none 0 0, .slice none 0 0, .slice none 0 0, .slice none 0 0, .int .i64 0] 35) := ⟨_, rfl⟩
          rw [← hw2]
          have hb2 : Below wr.heap.size wr w2 := by rw [hw2]; exact hb1.alloc (by omega) _
          have hz1 : w2.heap[wr.heap.size]? = some (.cells #[.int .i64 0, .string ⟨#[]⟩, .slice none 0 0, .slice none 0 0, .slice none 0 0, .slice none 0 0, .int .i64 0] 35 (0, 0)) := by rw [hw2, ((Below.refl w1.heap.size w1).alloc (Nat.le_refl _) _).block _ hsz]; exact hy1
          have hz2 : w2.heap[w1.heap.size]? = some (.cells #[.int .i64 0, .string ⟨#[]⟩, .slice none 0 0, .slice none 0 0, .slice none 0 0, .slice none 0 0, .int .i64 0] 35 (0, 0)) := by rw [hw2]; exact heap_alloc_new w1 _
          clear hw2 hb1 hy1
          have HZ2 := hide (And.intro hb2 (And.intro hz1 (And.intro hz2 hsz)))
          clear hb2 hz1 hz2 hsz
          refine wpG_one 10 rfl (by kernel_rfl) (by rfl) (fun K hK => ?_)
          refine wp_store_row _ _ _ rfl (wr.heap.size) v1.toArray rfl rfl 35 _ HZ2.out.2.1 (by rw [Try.sizeT]; simp [HV.out.1]) (by simp [HV.out.1]) (all_oneCell_toArray HV.out.2.2.1.one) ?_
          have hb3 : Below wr.heap.size wr (w2.setRow (wr.heap.size) v1.toArray) := below_setRow HZ2.out.1 (by have := HZ2.out.2.2.2; omega) _
          refine hK _ _ (fun _ => hb3) (fun _ => ?_)
          clear hK K
          have hn3 : (w2.setRow (wr.heap.size) v1.toArray).heap[w1.heap.size]? = some (.cells #[.int .i64 0, .string ⟨#[]⟩, .slice none 0 0, .slice none 0 0, .slice none 0 0, .slice none 0 0, .int .i64 0] 35 (0, 0)) := by rw [setRow_other _ _ _ _ (by have := HZ2.out.2.2.2; omega)]; exact HZ2.out.2.2.1
          have hm3 : (w2.setRow (wr.heap.size) v1.toArray).heap[wr.heap.size]? = some (.cells v1.toArray 35 (0, 0)) := setRow_heap _ _ _ _ _ _ HZ2.out.2.1
          obtain ⟨w3, hw3⟩ : ∃ w3, w3 = w2.setRow (wr.heap.size) v1.toArray := ⟨_, rfl⟩
          rw [← hw3] at hb3 hn3 hm3 ⊢
          clear hw3
          have HZ3 := hide (And.intro hb3 (And.intro hn3 (And.intro hm3 HZ2.out.2.2.2)))
          clear hn3 hm3 hb3
          refine wpG_one 11 rfl (by kernel_rfl) (by rfl) (fun K hK => ?_)
          refine wp_store_row _ _ _ rfl (w1.heap.size) v2.toArray rfl rfl 35 _ HZ3.out.2.1 (by rw [Try.sizeT]; simp [HV.out.2.1]) (by simp [HV.out.2.1]) (all_oneCell_toArray HV.out.2.2.2.1.one) ?_
          refine hK _ _ (fun _ => below_setRow HZ3.out.1 (by have := HZ3.out.2.2.2; omega) _) (fun _ => wpG_done (by kernel_rfl) ?_)
          have HZ4 := hide (And.intro (below_setRow HZ3.out.1 (show wr.heap.size ≤ w1.heap.size by have := HZ3.out.2.2.2; omega) v2.toArray) (And.intro (show (w3.setRow (w1.heap.size) v2.toArray).heap[wr.heap.size]? = some (.cells v1.toArray 35 (0, 0)) from by rw [setRow_other _ _ _ _ (by have := HZ3.out.2.2.2; omega)]; exact HZ3.out.2.2.1) (show (w3.setRow (w1.heap.size) v2.toArray).heap[w1.heap.size]? = some (.cells v2.toArray 35 (0, 0)) from setRow_heap _ _ _ _ _ _ HZ3.out.2.1)))
          clear hK K
          go_wp2
          go_meet
          exact ⟨wr.heap.size, w1.heap.size, rfl, rfl, hide ⟨HZ4.out.1, by have := HZ3.out.2.2.2; omega, by have := HZ3.out.2.2.2; omega, HZ4.out.2.1, HZ4.out.2.2⟩⟩
        · go_simp
          refine hK _ _ (fun _ => ((Below.refl _ wr).alloc (Nat.le_refl _) _).drew) (fun _ => ?_)
          clear hK K
          obtain ⟨w1, hw1⟩ : ∃ w1, w1 = (wr.alloc (.cells #[.int .i64 0, .string ⟨#[]⟩, .slice none 0 0, .slice none 0 0, .slice none 0 0, .slice none 0 0, .int .i64 0] 35)).drew := ⟨_, rfl⟩
          rw [← hw1]
          have hb1 : Below wr.heap.size wr w1 := by rw [hw1]; exact ((Below.refl _ wr).alloc (Nat.le_refl _) _).drew
          have hy1 : w1.heap[wr.heap.size]? = some (.cells #[.int .i64 0, .string ⟨#[]⟩, .slice none 0 0, .slice none 0 0, .slice none 0 0, .slice none 0 0, .int .i64 0] 35 (0, 0)) := by rw [hw1]; exact heap_alloc_new wr _
          have hsz : wr.heap.size < w1.heap.size := lt_of_block hy1
          clear hw1
          refine wpG_one 8 rfl (by kernel_rfl) (by rfl) (fun K hK => ?_)
          go_simp
          refine hK _ _ (fun _ => hb1.alloc (by omega) _) (fun _ => ?_)
          clear hK K hS
          obtain ⟨w2, hw2⟩ : ∃ w2, w2 = w1.alloc (.cells #[.int .i64 0, .string ⟨#[]⟩, .slice none 0 0, .slice none 0 0, .slice none 0 0, .slice none 0 0, .int .i64 0] 35) := ⟨_, rfl⟩
          rw [← hw2]
          have hb2 : Below wr.heap.size wr w2 := by rw [hw2]; exact hb1.alloc (by omega) _
          have hz1 : w2.heap[wr.heap.size]? = some (.cells #[.int .i64 0, .string ⟨#[]⟩, .slice none 0 0, .slice none 0 0, .slice none 0 0, .slice none 0 0, .int .i64 0] 35 (0, 0)) := by rw [hw2, ((Below.refl w1.heap.size w1).alloc (Nat.le_refl _) _).block _ hsz]; exact hy1
          have hz2 : w2.heap[w1.heap.size]? = some (.cells #[.int .i64 0, .string ⟨#[]⟩, .slice none 0 0, .slice none 0 0, .slice none 0 0, .slice none 0 0, .int .i64 0] 35 (0, 0)) := by rw [hw2]; exact heap_alloc_new w1 _
          clear hw2 hb1 hy1
          have HZ2 := hide (And.intro hb2 (And.intro hz1 (And.intro hz2 hsz)))
          clear hb2 hz1 hz2 hsz
          refine wpG_one 10 rfl (by kernel_rfl) (by rfl) (fun K hK => ?_)
          refine wp_store_row _ _ _ rfl (w1.heap.size) v1.toArray rfl rfl 35 _ HZ2.out.2.2.1 (by rw [Try.sizeT]; simp [HV.out.1]) (by simp [HV.out.1]) (all_oneCell_toArray HV.out.2.2.1.one) ?_
          have hb3 : Below wr.heap.size wr (w2.setRow (w1.heap.size) v1.toArray) := below_setRow HZ2.out.1 (by have := HZ2.out.2.2.2; omega) _
          refine hK _ _ (fun _ => hb3) (fun _ => ?_)
          clear hK K
          have hn3 : (w2.setRow (w1.heap.size) v1.toArray).heap[wr.heap.size]? = some (.cells #[.int .i64 0, .string ⟨#[]⟩, .slice none 0 0, .slice none 0 0, .slice none 0 0, .slice none 0 0, .int .i64 0] 35 (0, 0)) := by rw [setRow_other _ _ _ _ (by have := HZ2.out.2.2.2; omega)]; exact HZ2.out.2.1
          have hm3 : (w2.setRow (w1.heap.size) v1.toArray).heap[w1.heap.size]? = some (.cells v1.toArray 35 (0, 0)) := setRow_heap _ _ _ _ _ _ HZ2.out.2.2.1
          obtain ⟨w3, hw3⟩ : ∃ w3, w3 = w2.setRow (w1.heap.size) v1.toArray := ⟨_, rfl⟩
          rw [← hw3] at hb3 hn3 hm3 ⊢
          clear hw3
          have HZ3 := hide (And.intro hb3 (And.intro hn3 (And.intro hm3 HZ2.out.2.2.2)))
          clear hn3 hm3 hb3
          refine wpG_one 11 rfl (by kernel_rfl) (by rfl) (fun K hK => ?_)
          refine wp_store_row _ _ _ rfl (wr.heap.size) v2.toArray rfl rfl 35 _ HZ3.out.2.1 (by rw [Try.sizeT]; simp [HV.out.2.1]) (by simp [HV.out.2.1]) (all_oneCell_toArray HV.out.2.2.2.1.one) ?_
          refine hK _ _ (fun _ => below_setRow HZ3.out.1 (by have := HZ3.out.2.2.2; omega) _) (fun _ => wpG_done (by kernel_rfl) ?_)
          have HZ4 := hide (And.intro (below_setRow HZ3.out.1 (show wr.heap.size ≤ wr.heap.size by have := HZ3.out.2.2.2; omega) v2.toArray) (And.intro (show (w3.setRow (wr.heap.size) v2.toArray).heap[w1.heap.size]? = some (.cells v1.toArray 35 (0, 0)) from by rw [setRow_other _ _ _ _ (by have := HZ3.out.2.2.2; omega)]; exact HZ3.out.2.2.1) (show (w3.setRow (wr.heap.size) v2.toArray).heap[wr.heap.size]? = some (.cells v2.toArray 35 (0, 0)) from setRow_heap _ _ _ _ _ _ HZ3.out.2.1)))
          clear hK K
          go_wp2
          go_meet
          exact ⟨w1.heap.size, wr.heap.size, rfl, rfl, hide ⟨HZ4.out.1, by have := HZ3.out.2.2.2; omega, by have := HZ3.out.2.2.2; omega, HZ4.out.2.1, HZ4.out.2.2⟩⟩
      case rest =>
        obtain ⟨ga, gb, rfl, rfl, HC⟩ := hcut
        obtain ⟨A1, c1, A2, c2, A3, c3, A4, c4, rfl, s1, s2, s3, s4⟩ := HV.out.2.2.1.up' HV.out.2.2.2.2.1 HC.out.1
        obtain ⟨B1, e1, B2, e2, B3, e3, B4, e4, rfl, t1, t2, t3, t4⟩ := HV.out.2.2.2.1.up' HV.out.2.2.2.2.2.1 HC.out.1
        have sz := HC.out.1.size
        have HS := hide (And.intro s1 (And.intro t1 (And.intro s2 (And.intro t2 (And.intro s3 (And.intro t3 (And.intro s4 (And.intro t4 (And.intro (show ∀ b, S1 b → b < wc.heap.size from fun b hb => Nat.lt_of_lt_of_le (HV.out.2.2.2.2.1 b hb) sz) (And.intro (show ∀ b, S2 b → b < wc.heap.size from fun b hb => Nat.lt_of_lt_of_le (HV.out.2.2.2.2.2.1 b hb) sz) HV.out.2.2.2.2.2.2))))))))))
        have HP := hide (show Pr wc ga gb [.int .i64 d.kind, tx d.name, .slice A1 d.impls.length c1, .slice A2 d.fields.length c2, .slice A3 d.members.length c3, .slice A4 d.inputs.length c4, .int .i64 d.pos].toArray [.int .i64 d.kind, tx d.name, .slice B1 d.impls.length e1, .slice B2 d.fields.length e2, .slice B3 d.members.length e3, .slice B4 d.inputs.length e4, .int .i64 d.pos].toArray 35 from ⟨HC.out.2.2.2.1, HC.out.2.2.2.2⟩)
        have HBW := hide (HB.out.trans (HC.out.1.mono HB.out.size))
        clear s1 s2 s3 s4 t1 t2 t3 t4 sz HC HV HX
        have x0 := HP.out.c 0
        have x1 := HP.out.c 1
        have x2 := HP.out.c 2
        have x6 := HP.out.c 6
        have y0 := HP.out.d 0
        have y1 := HP.out.d 1
        have y2 := HP.out.d 2
        have y6 := HP.out.d 6
        have n1 := bne_self' d.kind
        have n2 := bne_self' d.name
        have n3 := bne_self' d.pos
        have n4 := bne_self' (d.fields.length : Int)
        go_wp2_with fail
        have I1 := texts_any (l := d.impls) (m := d.impls) c1 e1 HS.out.1 HS.out.2.1 HS.out.2.2.2.2.2.2.2.2.1 HS.out.2.2.2.2.2.2.2.2.2.1 (by have := HS.out.2.2.2.2.2.2.2.2.2.2.impls.1; omega) (by have := HS.out.2.2.2.2.2.2.2.2.2.2.impls.1; omega)
        rw [show decide (d.impls = d.impls) = true by simp] at I1
        refine I1.mono ?_
        rintro e w5 ⟨rfl, hb5⟩
        have P5 := hide (HP.out.more hb5)
        have B5 := hide hb5
        clear hb5 x0 x1 x2 x6 y0 y1 y2 y6 I1
        have x4 := P5.out.c 4
        have y4 := P5.out.d 4
        go_wp2_with fail
        have I1 := texts_any (l := d.members) (m := d.members) c3 e3 (HS.out.2.2.2.2.1.up HS.out.2.2.2.2.2.2.2.2.1 B5.out (fun _ _ h => h)) (HS.out.2.2.2.2.2.1.up HS.out.2.2.2.2.2.2.2.2.2.1 B5.out (fun _ _ h => h)) (fun b hb => Nat.lt_of_lt_of_le (HS.out.2.2.2.2.2.2.2.2.1 b hb) B5.out.size) (fun b hb => Nat.lt_of_lt_of_le (HS.out.2.2.2.2.2.2.2.2.2.1 b hb) B5.out.size) (by have := HS.out.2.2.2.2.2.2.2.2.2.2.members.1; omega) (by have := HS.out.2.2.2.2.2.2.2.2.2.2.members.1; omega)
        rw [show decide (d.members = d.members) = true by simp] at I1
        refine I1.mono ?_
        rintro e w6 ⟨rfl, hb6⟩
        have P6 := hide (P5.out.more hb6)
        have B6 := hide (B5.out.trans (hb6.mono B5.out.size))
        clear hb6 x4 y4 I1
        have x5 := P6.out.c 5
        have y5 := P6.out.d 5
        go_wp2_with fail
        refine (sameInputs_any c4 e4 (HS.out.2.2.2.2.2.2.1.up HS.out.2.2.2.2.2.2.2.2.1 B6.out (fun _ _ h => h.up' HS.out.2.2.2.2.2.2.2.2.1 B6.out)) (HS.out.2.2.2.2.2.2.2.1.up HS.out.2.2.2.2.2.2.2.2.2.1 B6.out (fun _ _ h => h.up' HS.out.2.2.2.2.2.2.2.2.2.1 B6.out)) (fun b hb => Nat.lt_of_lt_of_le (HS.out.2.2.2.2.2.2.2.2.1 b hb) B6.out.size) (fun b hb => Nat.lt_of_lt_of_le (HS.out.2.2.2.2.2.2.2.2.2.1 b hb) B6.out.size) HS.out.2.2.2.2.2.2.2.2.2.2.inputs).mono ?_
        rintro e w7 ⟨rfl, hb7⟩
        have P7 := hide (P6.out.more hb7)
        have B7 := hide (B6.out.trans (hb7.mono B6.out.size))
        clear hb7 x5 y5
        have x3 := P7.out.c 3
        have y3 := P7.out.d 3
        have j1 : (d.fields.length : Int) ≤ 60 := by have := HS.out.2.2.2.2.2.2.2.2.2.2.fields.1; omega
        go_wp2_with fail
        go_loopw [90] (fun i wr => ∃ m : Nat, m ≤ d.fields.length ∧ i = .int .i64 m ∧ Hid (Below w7.heap.size w7 wr)) (fun i _ => d.fields.length - (intOf i).toNat)
        case atStart => exact ⟨0, Nat.zero_le _, rfl, hide (Below.refl _ _)⟩
        case round =>
          obtain ⟨m, hm, rfl, HY⟩ := hrel
          have PY := hide (P7.out.more HY.out)
          have BY := hide (B7.out.trans (HY.out.mono B7.out.size))
          by_cases hlm : m < d.fields.length
          · obtain ⟨f, hfe⟩ : ∃ f, f = d.fields[m] := ⟨_, rfl⟩
            have hmem : f ∈ d.fields := by rw [hfe]; exact List.getElem_mem _
            have hx1 := HS.out.2.2.1 m _ (List.getElem?_eq_getElem hlm)
            have hx2 := HS.out.2.2.2.1 m _ (List.getElem?_eq_getElem hlm)
            rw [← hfe] at hx1 hx2
            obtain ⟨h1, u1, v1, hA, hg1, hl1, hr1, hR1⟩ := hx1
            obtain ⟨h2, u2, v2, hB, hg2, hl2, hr2, hR2⟩ := hx2
            subst hA hB
            have hb1 : h1 < wc.heap.size := HS.out.2.2.2.2.2.2.2.2.1 h1 hg1
            have hb2 : h2 < wc.heap.size := HS.out.2.2.2.2.2.2.2.2.2.1 h2 hg2
            have sz := BY.out.size
            have HX := hide (And.intro (And.intro (show h1 < wr.heap.size by omega) (show h2 < wr.heap.size by omega)) (And.intro (show wr.rangeAt h1 (u1 + m * 4) v1 from range_congr (BY.out.block _ hb1) hr1) (And.intro (show wr.rangeAt h2 (u2 + m * 4) v2 from range_congr (BY.out.block _ hb2) hr2) (And.intro (show wr.cell? ⟨ga, 3, none⟩ = some (.slice (some ⟨h1, u1, none⟩) d.fields.length c2) from PY.out.c 3) (show wr.cell? ⟨gb, 3, none⟩ = some (.slice (some ⟨h2, u2, none⟩) d.fields.length e2) from PY.out.d 3)))))
            have HV := hide (And.intro hl1 (And.intro hl2 (And.intro (hR1.up' HS.out.2.2.2.2.2.2.2.2.1 BY.out) (And.intro (hR2.up' HS.out.2.2.2.2.2.2.2.2.2.1 BY.out) (And.intro (show ∀ b, S1 b → b < wr.heap.size from fun b hb => Nat.lt_of_lt_of_le (HS.out.2.2.2.2.2.2.2.2.1 b hb) sz) (And.intro (show ∀ b, S2 b → b < wr.heap.size from fun b hb => Nat.lt_of_lt_of_le (HS.out.2.2.2.2.2.2.2.2.2.1 b hb) sz) (HS.out.2.2.2.2.2.2.2.2.2.2.fields.2 f hmem).2.2))))))
            clear hfe hmem hl1 hl2 hr1 hr2 hR1 hR2 hb1 hb2 sz hg1 hg2 x3 y3
            go_upto_region 12 with fail
            go_cut [11, 12] (fun s8 s9 wx => ∃ ha hb : Nat, s8 = .pointer (some ⟨ha, 0, none⟩) ∧ s9 = .pointer (some ⟨hb, 0, none⟩) ∧ Hid (Below wr.heap.size wr wx ∧ wr.heap.size ≤ ha ∧ wr.heap.size ≤ hb ∧ wx.heap[ha]? = some (.cells v1.toArray 42 (0, 0)) ∧ wx.heap[hb]? = some (.cells v2.toArray 42 (0, 0))))
            case first =>
              refine wp_region_G (fun w' => Below wr.heap.size wr w') (fun _ => true) (by kernel_rfl) ((Below.refl _ _).drew) (fun hS => ?_)
              refine wpG_take 0 rfl (by kernel_rfl) (fun _ _ _ h => h) (by rfl) (fun w' hw => by go_simp; rfl) hS (fun _ => ?_)
              simp only [Act.put, List.setIfInBounds_toArray, List.set_cons_zero, List.set_cons_succ]
              refine wpG_load 1 rfl (by kernel_rfl) (fun _ _ _ h => h) (by rfl) rfl (v := .slice (some ⟨h1, u1, none⟩) d.fields.length c2) (fun w' hw => by have := (hw.cell (lt_of_cell (HX.out.2.2.2.1))).trans (HX.out.2.2.2.1); clear hw; go_simp) hS (fun _ => ?_)
              simp only [Act.put, List.setIfInBounds_toArray, List.set_cons_zero, List.set_cons_succ]
              refine wpG_take 2 rfl (by kernel_rfl) (fun _ _ _ h => h) (by rfl) (fun w' hw => by go_simp; rfl) hS (fun _ => ?_)
              simp only [Act.put, List.setIfInBounds_toArray, List.set_cons_zero, List.set_cons_succ]
              refine wpG_index 3 rfl (by kernel_rfl) (fun _ _ _ h => h) (by rfl) rfl rfl rfl Try.underlying32 Try.sizeF hlm hS (fun _ => ?_)
              simp only [Act.put, List.setIfInBounds_toArray, List.set_cons_zero, List.set_cons_succ]
              refine wpG_load 4 rfl (by kernel_rfl) (fun _ _ _ h => h) (by rfl) rfl (v := .agg v1.toArray) (fun w' hw => run_loadAt_mid w' h1 (u1 + m * 4) 42 v1 _ (range_congr (hw.block _ HX.out.1.1) HX.out.2.1) Try.underlying42 rfl (by rw [Try.sizeF, HV.out.1])) hS (fun _ => ?_)
              simp only [Act.put, List.setIfInBounds_toArray, List.set_cons_zero, List.set_cons_succ]
              refine wpG_take 5 rfl (by kernel_rfl) (fun _ _ _ h => h) (by rfl) (fun w' hw => by go_simp; rfl) hS (fun _ => ?_)
              simp only [Act.put, List.setIfInBounds_toArray, List.set_cons_zero, List.set_cons_succ]
              refine wpG_load 6 rfl (by kernel_rfl) (fun _ _ _ h => h) (by rfl) rfl (v := .slice (some ⟨h2, u2, none⟩) d.fields.length e2) (fun w' hw => by have := (hw.cell (lt_of_cell (HX.out.2.2.2.2))).trans (HX.out.2.2.2.2); clear hw; go_simp) hS (fun _ => ?_)
              simp only [Act.put, List.setIfInBounds_toArray, List.set_cons_zero, List.set_cons_succ]
              refine wpG_take 7 rfl (by kernel_rfl) (fun _ _ _ h => h) (by rfl) (fun w' hw => by go_simp; rfl) hS (fun _ => ?_)
              simp only [Act.put, List.setIfInBounds_toArray, List.set_cons_zero, List.set_cons_succ]
              refine wpG_index 8 rfl (by kernel_rfl) (fun _ _ _ h => h) (by rfl) rfl rfl rfl Try.underlying32 Try.sizeF hlm hS (fun _ => ?_)
              simp only [Act.put, List.setIfInBounds_toArray, List.set_cons_zero, List.set_cons_succ]
              refine wpG_load 9 rfl (by kernel_rfl) (fun _ _ _ h => h) (by rfl) rfl (v := .agg v2.toArray) (fun w' hw => run_loadAt_mid w' h2 (u2 + m * 4) 42 v2 _ (range_congr (hw.block _ HX.out.1.2) HX.out.2.2.1) Try.underlying42 rfl (by rw [Try.sizeF, HV.out.2.1])) hS (fun _ => ?_)
              simp only [Act.put, List.setIfInBounds_toArray, List.set_cons_zero, List.set_cons_succ]
              refine wpG_two 10 11 rfl rfl (by kernel_rfl) (by rfl) (by rfl) (fun K hK => ?_) (fun K hK => ?_)
              · go_simp
                refine hK _ _ (fun _ => ((Below.refl _ wr).alloc (Nat.le_refl _) _).drew) (fun _ => ?_)
                clear hK K
                obtain ⟨w1, hw1⟩ : ∃ w1, w1 = (wr.alloc (.cells #[.string ⟨#[]⟩, .slice none 0 0, .string ⟨#[]⟩, .int .i64 0] 42)).drew := ⟨_, rfl⟩
                rw [← hw1]
                have hb1 : Below wr.heap.size wr w1 := by rw [hw1]; exact ((Below.refl _ wr).alloc (Nat.le_refl _) _).drew
                have hy1 : w1.heap[wr.heap.size]? = some (.cells #[.string ⟨#[]⟩, .slice none 0 0, .string ⟨#[]⟩, .int .i64 0] 42 (0, 0)) := by rw [hw1]; exact heap_alloc_new wr _
                have hsz : wr.heap.size < w1.heap.size := lt_of_block hy1
                clear hw1
                refine wpG_one 11 rfl (by kernel_rfl) (by rfl) (fun K hK => ?_)
                go_simp
                refine hK _ _ (fun _ => hb1.alloc (by omega) _) (fun _ => ?_)
                clear hK K hS
                obtain ⟨w2, hw2⟩ : ∃ w2, w2 = w1.alloc (.cells #[.string ⟨#[]⟩, .slice none 0 0, .string ⟨#[]⟩, .int .i64 0] 42) := ⟨_, rfl⟩
                rw [← hw2]
                have hb2 : Below wr.heap.size wr w2 := by rw [hw2]; exact hb1.alloc (by omega) _
                have hz1 : w2.heap[wr.heap.size]? = some (.cells #[.string ⟨#[]⟩, .slice none 0 0, .string ⟨#[]⟩, .int .i64 0] 42 (0, 0)) := by rw [hw2, ((Below.refl w1.heap.size w1).alloc (Nat.le_refl _) _).block _ hsz]; exact hy1
                have hz2 : w2.heap[w1.heap.size]? = some (.cells #[.string ⟨#[]⟩, .slice none 0 0, .string ⟨#[]⟩, .int .i64 0] 42 (0, 0)) := by rw [hw2]; exact heap_alloc_new w1 _
                clear hw2 hb1 hy1
                have HZ2 := hide (And.intro hb2 (And.intro hz1 (And.intro hz2 hsz)))
                clear hb2 hz1 hz2 hsz
                refine wpG_one 12 rfl (by kernel_rfl) (by rfl) (fun K hK => ?_)
                refine wp_store_row _ _ _ rfl (wr.heap.size) v1.toArray rfl rfl 42 _ HZ2.out.2.1 (by rw [Try.sizeF]; simp [HV.out.1]) (by simp [HV.out.1]) (all_oneCell_toArray HV.out.2.2.1.one) ?_
                have hb3 : Below wr.heap.size wr (w2.setRow (wr.heap.size) v1.toArray) := below_setRow HZ2.out.1 (by have := HZ2.out.2.2.2; omega) _
                refine hK _ _ (fun _ => hb3) (fun _ => ?_)
                clear hK K
                have hn3 : (w2.setRow (wr.heap.size) v1.toArray).heap[w1.heap.size]? = some (.cells #[.string ⟨#[]⟩, .slice none 0 0, .string ⟨#[]⟩, .int .i64 0] 42 (0, 0)) := by rw [setRow_other _ _ _ _ (by have := HZ2.out.2.2.2; omega)]; exact HZ2.out.2.2.1
                have hm3 : (w2.setRow (wr.heap.size) v1.toArray).heap[wr.heap.size]? = some (.cells v1.toArray 42 (0, 0)) := setRow_heap _ _ _ _ _ _ HZ2.out.2.1
                obtain ⟨w3, hw3⟩ : ∃ w3, w3 = w2.setRow (wr.heap.size) v1.toArray := ⟨_, rfl⟩
                rw [← hw3] at hb3 hn3 hm3 ⊢
                clear hw3
                have HZ3 := hide (And.intro hb3 (And.intro hn3 (And.intro hm3 HZ2.out.2.2.2)))
                clear hn3 hm3 hb3
                refine wpG_one 13 rfl (by kernel_rfl) (by rfl) (fun K hK => ?_)
                refine wp_store_row _ _ _ rfl (w1.heap.size) v2.toArray rfl rfl 42 _ HZ3.out.2.1 (by rw [Try.sizeF]; simp [HV.out.2.1]) (by simp [HV.out.2.1]) (all_oneCell_toArray HV.out.2.2.2.1.one) ?_
                refine hK _ _ (fun _ => below_setRow HZ3.out.1 (by have := HZ3.out.2.2.2; omega) _) (fun _ => wpG_done (by kernel_rfl) ?_)
                have HZ4 := hide (And.intro (below_setRow HZ3.out.1 (show wr.heap.size ≤ w1.heap.size by have := HZ3.out.2.2.2; omega) v2.toArray) (And.intro (show (w3.setRow (w1.heap.size) v2.toArray).heap[wr.heap.size]? = some (.cells v1.toArray 42 (0, 0)) from by rw [setRow_other _ _ _ _ (by have := HZ3.out.2.2.2; omega)]; exact HZ3.out.2.2.1) (show (w3.setRow (w1.heap.size) v2.toArray).heap[w1.heap.size]? = some (.cells v2.toArray 42 (0, 0)) from setRow_heap _ _ _ _ _ _ HZ3.out.2.1)))
                clear hK K
                go_wp2
                go_meet
                exact ⟨wr.heap.size, w1.heap.size, rfl, rfl, hide ⟨HZ4.out.1, by have := HZ3.out.2.2.2; omega, by have := HZ3.out.2.2.2; omega, HZ4.out.2.1, HZ4.out.2.2⟩⟩
              · go_simp
                refine hK _ _ (fun _ => ((Below.refl _ wr).alloc (Nat.le_refl _) _).drew) (fun _ => ?_)
                clear hK K
                obtain ⟨w1, hw1⟩ : ∃ w1, w1 = (wr.alloc (.cells #[.string ⟨#[]⟩, .slice none 0 0, .string ⟨#[]⟩, .int .i64 0] 42)).drew := ⟨_, rfl⟩
                rw [← hw1]
                have hb1 : Below wr.heap.size wr w1 := by rw [hw1]; exact ((Below.refl _ wr).alloc (Nat.le_refl _) _).drew
                have hy1 : w1.heap[wr.heap.size]? = some (.cells #[.string ⟨#[]⟩, .slice none 0 0, .string ⟨#[]⟩, .int .i64 0] 42 (0, 0)) := by rw [hw1]; exact heap_alloc_new wr _
                have hsz : wr.heap.size < w1.heap.size := lt_of_block hy1
                clear hw1
                refine wpG_one 10 rfl (by kernel_rfl) (by rfl) (fun K hK => ?_)
                go_simp
                refine hK _ _ (fun _ => hb1.alloc (by omega) _) (fun _ => ?_)
                clear hK K hS
                obtain ⟨w2, hw2⟩ : ∃ w2, w2 = w1.alloc (.cells #[.string ⟨#[]⟩, .slice none 0 0, .string ⟨#[]⟩, .int .i64 0] 42) := ⟨_, rfl⟩
                rw [← hw2]
                have hb2 : Below wr.heap.size wr w2 := by rw [hw2]; exact hb1.alloc (by omega) _
                have hz1 : w2.heap[wr.heap.size]? = some (.cells #[.string ⟨#[]⟩, .slice none 0 0, .string ⟨#[]⟩, .int .i64 0] 42 (0, 0)) := by rw [hw2, ((Below.refl w1.heap.size w1).alloc (Nat.le_refl _) _).block _ hsz]; exact hy1
                have hz2 : w2.heap[w1.heap.size]? = some (.cells #[.string ⟨#[]⟩, .slice none 0 0, .string ⟨#[]⟩, .int .i64 0] 42 (0, 0)) := by rw [hw2]; exact heap_alloc_new w1 _
                clear hw2 hb1 hy1
                have HZ2 := hide (And.intro hb2 (And.intro hz1 (And.intro hz2 hsz)))
                clear hb2 hz1 hz2 hsz
                refine wpG_one 12 rfl (by kernel_rfl) (by rfl) (fun K hK => ?_)
                refine wp_store_row _ _ _ rfl (w1.heap.size) v1.toArray rfl rfl 42 _ HZ2.out.2.2.1 (by rw [Try.sizeF]; simp [HV.out.1]) (by simp [HV.out.1]) (all_oneCell_toArray HV.out.2.2.1.one) ?_
                have hb3 : Below wr.heap.size wr (w2.setRow (w1.heap.size) v1.toArray) := below_setRow HZ2.out.1 (by have := HZ2.out.2.2.2; omega) _
                refine hK _ _ (fun _ => hb3) (fun _ => ?_)
                clear hK K
                have hn3 : (w2.setRow (w1.heap.size) v1.toArray).heap[wr.heap.size]? = some (.cells #[.string ⟨#[]⟩, .slice none 0 0, .string ⟨#[]⟩, .int .i64 0] 42 (0, 0)) := by rw [setRow_other _ _ _ _ (by have := HZ2.out.2.2.2; omega)]; exact HZ2.out.2.1
                have hm3 : (w2.setRow (w1.heap.size) v1.toArray).heap[w1.heap.size]? = some (.cells v1.toArray 42 (0, 0)) := setRow_heap _ _ _ _ _ _ HZ2.out.2.2.1
                obtain ⟨w3, hw3⟩ : ∃ w3, w3 = w2.setRow (w1.heap.size) v1.toArray := ⟨_, rfl⟩
                rw [← hw3] at hb3 hn3 hm3 ⊢
                clear hw3
                have HZ3 := hide (And.intro hb3 (And.intro hn3 (And.intro hm3 HZ2.out.2.2.2)))
                clear hn3 hm3 hb3
                refine wpG_one 13 rfl (by kernel_rfl) (by rfl) (fun K hK => ?_)
                refine wp_store_row _ _ _ rfl (wr.heap.size) v2.toArray rfl rfl 42 _ HZ3.out.2.1 (by rw [Try.sizeF]; simp [HV.out.2.1]) (by simp [HV.out.2.1]) (all_oneCell_toArray HV.out.2.2.2.1.one) ?_
                refine hK _ _ (fun _ => below_setRow HZ3.out.1 (by have := HZ3.out.2.2.2; omega) _) (fun _ => wpG_done (by kernel_rfl) ?_)
                have HZ4 := hide (And.intro (below_setRow HZ3.out.1 (show wr.heap.size ≤ wr.heap.size by have := HZ3.out.2.2.2; omega) v2.toArray) (And.intro (show (w3.setRow (wr.heap.size) v2.toArray).heap[w1.heap.size]? = some (.cells v1.toArray 42 (0, 0)) from by rw [setRow_other _ _ _ _ (by have := HZ3.out.2.2.2; omega)]; exact HZ3.out.2.2.1) (show (w3.setRow (wr.heap.size) v2.toArray).heap[wr.heap.size]? = some (.cells v2.toArray 42 (0, 0)) from setRow_heap _ _ _ _ _ _ HZ3.out.2.1)))
                clear hK K
                go_wp2
                go_meet
                exact ⟨w1.heap.size, wr.heap.size, rfl, rfl, hide ⟨HZ4.out.1, by have := HZ3.out.2.2.2; omega, by have := HZ3.out.2.2.2; omega, HZ4.out.2.1, HZ4.out.2.2⟩⟩
            case rest =>
              obtain ⟨ha, hb, rfl, rfl, HC⟩ := hcut
              obtain ⟨P1, p1, rfl, a1⟩ := HV.out.2.2.1.up' HV.out.2.2.2.2.1 HC.out.1
              obtain ⟨P2, p2, rfl, a2⟩ := HV.out.2.2.2.1.up' HV.out.2.2.2.2.2.1 HC.out.1
              have sz := HC.out.1.size
              have HA := hide (And.intro a1 (And.intro a2 (And.intro (show ∀ b, S1 b → b < wc.heap.size from fun b hb => Nat.lt_of_lt_of_le (HV.out.2.2.2.2.1 b hb) sz) (And.intro (show ∀ b, S2 b → b < wc.heap.size from fun b hb => Nat.lt_of_lt_of_le (HV.out.2.2.2.2.2.1 b hb) sz) HV.out.2.2.2.2.2.2))))
              have HQ := hide (show Pr wc ha hb [tx f.name, .slice P1 f.args.length p1, tx f.typ, .int .i64 f.pos].toArray [tx f.name, .slice P2 f.args.length p2, tx f.typ, .int .i64 f.pos].toArray 42 from ⟨HC.out.2.2.2.1, HC.out.2.2.2.2⟩)
              have HYB := hide (HY.out.trans (HC.out.1.mono HY.out.size))
              clear a1 a2 sz HC HV HX
              have x0 := HQ.out.c 0
              have x1 := HQ.out.c 1
              have x2 := HQ.out.c 2
              have x3 := HQ.out.c 3
              have y0 := HQ.out.d 0
              have y1 := HQ.out.d 1
              have y2 := HQ.out.d 2
              have y3 := HQ.out.d 3
              have m1 := bne_self' f.name
              have m2 := bne_self' f.typ
              have m3 := bne_self' f.pos
              go_wp2_with fail
              refine (sameInputs_any p1 p2 HA.out.1 HA.out.2.1 HA.out.2.2.1 HA.out.2.2.2.1 HA.out.2.2.2.2).mono ?_
              rintro e w8 ⟨rfl, hb8⟩
              have HZ := hide (HYB.out.trans (hb8.mono HYB.out.size))
              clear hb8
              go_wp2
              go_roundw
              case rel => exact ⟨m + 1, by omega, by go_num, hide HZ.out⟩
              case measure => simp [intOf]; omega
          · have HZ := hide (HBW.out.trans ((B7.out.trans (HY.out.mono B7.out.size)).mono HBW.out.size))
            go_wp2
            go_roundw
            case rel => exact ⟨k + 1, by omega, by go_num, hide HZ.out⟩
            case measure => simp [intOf]; omega
    · go_wp2
      go_ret
      exact ⟨rfl, HB.out⟩
end Go.Proofs.Ytlpmnnkijdbopaa
