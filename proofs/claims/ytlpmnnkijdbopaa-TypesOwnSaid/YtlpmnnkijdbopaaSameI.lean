/-
  The walk of the reference's SameInputs: inputs with the same data are the same.
-/
import Derived.Test.YtlpmnnkijdbopaaSameV
namespace Go.Proofs.Ytlpmnnkijdbopaa
open Go.RowKit Go.Maps

theorem RI.up' {w w' : World} {S : Nat → Prop} {n : Nat} {i : In} {cs : List Value} (h : RI w S n i cs) (hS : ∀ b, S b → b < w.heap.size) (hb : Below w.heap.size w w') : RI w' S n i cs :=
  RI.map (fun _ h => h) (fun b h => hb.block b (hS b h)) _ _ h
set_option maxRecDepth 20000 in
set_option maxHeartbeats 6400000 in
theorem sameInputs_any {n : Nat} {w : World} {S1 S2 : Nat → Prop} {A B : Option Addr} {l : List In} (c d : Nat) (h1 : Sl w S1 9 A (RI w S1 n) l) (h2 : Sl w S2 9 B (RI w S2 n) l) (hS1 : ∀ b, S1 b → b < w.heap.size) (hS2 : ∀ b, S2 b → b < w.heap.size) (hl : FewI n l) :
    Calls Try.prog 39 #[.slice A l.length c, .slice B l.length d, .bool true] w (TrueR w) := by
  have i1 : (l.length : Int) ≤ 60 := by have := hl.1; omega
  have H := hide (And.intro h1 (And.intro h2 (And.intro hS1 (And.intro hS2 (fun f hf => (hl.2 f hf).2.2 : ∀ f ∈ l, FewV n f.dflt)))))
  clear h1 h2 hS1 hS2 hl
  go_enter Try.func39, Try.ntmps39
  go_wp2
  go_loopw [15] (fun i wr => ∃ k : Nat, k ≤ l.length ∧ i = .int .i64 k ∧ Hid (Below w.heap.size w wr)) (fun i _ => l.length - (intOf i).toNat)
  case atStart => exact ⟨0, Nat.zero_le _, rfl, hide (Below.refl _ _)⟩
  case round =>
    obtain ⟨k, hk, rfl, HB⟩ := hrel
    by_cases hlt : k < l.length
    · obtain ⟨f, hfe⟩ : ∃ f, f = l[k] := ⟨_, rfl⟩
      have hmem : f ∈ l := by rw [hfe]; exact List.getElem_mem _
      have hx1 := H.out.1 k _ (List.getElem?_eq_getElem hlt)
      have hx2 := H.out.2.1 k _ (List.getElem?_eq_getElem hlt)
      rw [← hfe] at hx1 hx2
      obtain ⟨g1, o1, e1, hA, hg1, hl1, hr1, v1, he1, hv1, hR1⟩ := hx1
      obtain ⟨g2, o2, e2, hB, hg2, hl2, hr2, v2, he2, hv2, hR2⟩ := hx2
      subst he1 he2 hA hB
      have hb1 : g1 < w.heap.size := H.out.2.2.1 g1 hg1
      have hb2 : g2 < w.heap.size := H.out.2.2.2.1 g2 hg2
      have q1 : wr.rangeAt g1 (o1 + k * 9) (tx f.name :: tx f.typ :: .bool f.has :: (v1 ++ [.int .i64 f.pos])) := range_congr (HB.out.block _ hb1) hr1
      have q2 : wr.rangeAt g2 (o2 + k * 9) (tx f.name :: tx f.typ :: .bool f.has :: (v2 ++ [.int .i64 f.pos])) := range_congr (HB.out.block _ hb2) hr2
      have r1 : wr.rangeAt g1 (o1 + k * 9 + 3) v1 := fun j u hu => by
        have := q1 (j + 3) u (by rw [List.getElem?_cons_succ, List.getElem?_cons_succ, List.getElem?_cons_succ, List.getElem?_append_left (List.getElem?_eq_some_iff.1 hu).1]; exact hu)
        rwa [show o1 + k * 9 + (j + 3) = o1 + k * 9 + 3 + j by omega] at this
      have r2 : wr.rangeAt g2 (o2 + k * 9 + 3) v2 := fun j u hu => by
        have := q2 (j + 3) u (by rw [List.getElem?_cons_succ, List.getElem?_cons_succ, List.getElem?_cons_succ, List.getElem?_append_left (List.getElem?_eq_some_iff.1 hu).1]; exact hu)
        rwa [show o2 + k * 9 + (j + 3) = o2 + k * 9 + 3 + j by omega] at this
      have sz := HB.out.size
      have HX := hide (And.intro (And.intro (show g1 < wr.heap.size by omega) (show g2 < wr.heap.size by omega)) (And.intro (show wr.cell? ⟨g1, o1 + k * 9, none⟩ = some (tx f.name) from q1 0 _ rfl) (And.intro (show wr.cell? ⟨g2, o2 + k * 9, none⟩ = some (tx f.name) from q2 0 _ rfl) (And.intro (show wr.cell? ⟨g1, o1 + k * 9 + 1, none⟩ = some (tx f.typ) from q1 1 _ rfl) (And.intro (show wr.cell? ⟨g2, o2 + k * 9 + 1, none⟩ = some (tx f.typ) from q2 1 _ rfl) (And.intro (show wr.cell? ⟨g1, o1 + k * 9 + 2, none⟩ = some (.bool f.has) from q1 2 _ rfl) (And.intro (show wr.cell? ⟨g2, o2 + k * 9 + 2, none⟩ = some (.bool f.has) from q2 2 _ rfl) (And.intro (show wr.cell? ⟨g1, o1 + k * 9 + 8, none⟩ = some (.int .i64 f.pos) from q1 8 _ (by rw [List.getElem?_cons_succ, List.getElem?_cons_succ, List.getElem?_cons_succ, List.getElem?_append_right (by omega), hv1]; rfl)) (And.intro (show wr.cell? ⟨g2, o2 + k * 9 + 8, none⟩ = some (.int .i64 f.pos) from q2 8 _ (by rw [List.getElem?_cons_succ, List.getElem?_cons_succ, List.getElem?_cons_succ, List.getElem?_append_right (by omega), hv2]; rfl)) (And.intro r1 r2))))))))))
      have HV := hide (And.intro hv1 (And.intro hv2 (And.intro (hR1.up' H.out.2.2.1 HB.out) (And.intro (hR2.up' H.out.2.2.2.1 HB.out) (And.intro (show ∀ b, S1 b → b < wr.drew.heap.size from fun b hb => Nat.lt_of_lt_of_le (H.out.2.2.1 b hb) sz) (And.intro (show ∀ b, S2 b → b < wr.drew.heap.size from fun b hb => Nat.lt_of_lt_of_le (H.out.2.2.2.1 b hb) sz) (H.out.2.2.2.2 f hmem)))))))
      clear hfe hmem hl1 hl2 hr1 hr2 hv1 hv2 hR1 hR2 hb1 hb2 q1 q2 r1 r2 sz hg1 hg2
      have nb := bne_self' f.name
      have nc := bne_self' f.typ
      have nd := bne_self' f.has
      have ne := bne_self' f.pos
      go_wp2_with fail
      refine wp_region_G (fun w' => Below wr.heap.size wr w') (fun _ => true) (by kernel_rfl) ((Below.refl _ _).drew) (fun hS => ?_)
      refine wpG_take 0 rfl (by kernel_rfl) (fun _ _ _ h => h) (by rfl) (fun w' hw => by go_simp; rfl) hS (fun _ => ?_)
      simp only [Act.put, List.setIfInBounds_toArray, List.set_cons_zero, List.set_cons_succ]
      refine wpG_take 1 rfl (by kernel_rfl) (fun _ _ _ h => h) (by rfl) (fun w' hw => by go_simp; rfl) hS (fun _ => ?_)
      simp only [Act.put, List.setIfInBounds_toArray, List.set_cons_zero, List.set_cons_succ]
      refine wpG_index 2 rfl (by kernel_rfl) (fun _ _ _ h => h) (by rfl) rfl rfl rfl Try.underlying33 Try.sizeI hlt hS (fun _ => ?_)
      simp only [Act.put, List.setIfInBounds_toArray, List.set_cons_zero, List.set_cons_succ]
      refine wpG_take 3 rfl (by kernel_rfl) (fun _ _ _ h => h) (by rfl) (fun w' hw => by go_simp; rfl) hS (fun _ => ?_)
      simp only [Act.put, List.setIfInBounds_toArray, List.set_cons_zero, List.set_cons_succ]
      refine wpG_load 4 rfl (by kernel_rfl) (fun _ _ _ h => h) (by rfl) rfl (v := tx f.name) (fun w' hw => by have := (hw.cell (lt_of_cell (HX.out.2.1))).trans (HX.out.2.1); clear hw; go_simp) hS (fun _ => ?_)
      simp only [Act.put, List.setIfInBounds_toArray, List.set_cons_zero, List.set_cons_succ]
      refine wpG_take 5 rfl (by kernel_rfl) (fun _ _ _ h => h) (by rfl) (fun w' hw => by go_simp; rfl) hS (fun _ => ?_)
      simp only [Act.put, List.setIfInBounds_toArray, List.set_cons_zero, List.set_cons_succ]
      refine wpG_take 6 rfl (by kernel_rfl) (fun _ _ _ h => h) (by rfl) (fun w' hw => by go_simp; rfl) hS (fun _ => ?_)
      simp only [Act.put, List.setIfInBounds_toArray, List.set_cons_zero, List.set_cons_succ]
      refine wpG_index 7 rfl (by kernel_rfl) (fun _ _ _ h => h) (by rfl) rfl rfl rfl Try.underlying33 Try.sizeI hlt hS (fun _ => ?_)
      simp only [Act.put, List.setIfInBounds_toArray, List.set_cons_zero, List.set_cons_succ]
      refine wpG_take 8 rfl (by kernel_rfl) (fun _ _ _ h => h) (by rfl) (fun w' hw => by go_simp; rfl) hS (fun _ => ?_)
      simp only [Act.put, List.setIfInBounds_toArray, List.set_cons_zero, List.set_cons_succ]
      refine wpG_load 9 rfl (by kernel_rfl) (fun _ _ _ h => h) (by rfl) rfl (v := tx f.name) (fun w' hw => by have := (hw.cell (lt_of_cell (HX.out.2.2.1))).trans (HX.out.2.2.1); clear hw; go_simp) hS (fun _ => ?_)
      simp only [Act.put, List.setIfInBounds_toArray, List.set_cons_zero, List.set_cons_succ]
      refine wpG_take 10 rfl (by kernel_rfl) (fun _ _ _ h => h) (by rfl) (fun w' hw => by go_simp; rfl) hS (fun _ => ?_)
      simp only [Act.put, List.setIfInBounds_toArray, List.set_cons_zero, List.set_cons_succ]
      refine wpG_take 11 rfl (by kernel_rfl) (fun _ _ _ h => h) (by rfl) (fun w' hw => by go_simp; rfl) hS (fun _ => ?_)
      simp only [Act.put, List.setIfInBounds_toArray, List.set_cons_zero, List.set_cons_succ]
      refine wpG_take 12 rfl (by kernel_rfl) (fun _ _ _ h => h) (by rfl) (fun w' hw => by go_simp; rfl) hS (fun _ => ?_)
      simp only [Act.put, List.setIfInBounds_toArray, List.set_cons_zero, List.set_cons_succ]
      refine wpG_take 13 rfl (by kernel_rfl) (fun _ _ _ h => h) (by rfl) (fun w' hw => by go_simp; rfl) hS (fun _ => ?_)
      simp only [Act.put, List.setIfInBounds_toArray, List.set_cons_zero, List.set_cons_succ]
      refine wpG_index 14 rfl (by kernel_rfl) (fun _ _ _ h => h) (by rfl) rfl rfl rfl Try.underlying33 Try.sizeI hlt hS (fun _ => ?_)
      simp only [Act.put, List.setIfInBounds_toArray, List.set_cons_zero, List.set_cons_succ]
      refine wpG_take 15 rfl (by kernel_rfl) (fun _ _ _ h => h) (by rfl) (fun w' hw => by go_simp; rfl) hS (fun _ => ?_)
      simp only [Act.put, List.setIfInBounds_toArray, List.set_cons_zero, List.set_cons_succ]
      refine wpG_load 16 rfl (by kernel_rfl) (fun _ _ _ h => h) (by rfl) rfl (v := tx f.typ) (fun w' hw => by have := (hw.cell (lt_of_cell (HX.out.2.2.2.1))).trans (HX.out.2.2.2.1); clear hw; go_simp) hS (fun _ => ?_)
      simp only [Act.put, List.setIfInBounds_toArray, List.set_cons_zero, List.set_cons_succ]
      refine wpG_take 17 rfl (by kernel_rfl) (fun _ _ _ h => h) (by rfl) (fun w' hw => by go_simp; rfl) hS (fun _ => ?_)
      simp only [Act.put, List.setIfInBounds_toArray, List.set_cons_zero, List.set_cons_succ]
      refine wpG_take 18 rfl (by kernel_rfl) (fun _ _ _ h => h) (by rfl) (fun w' hw => by go_simp; rfl) hS (fun _ => ?_)
      simp only [Act.put, List.setIfInBounds_toArray, List.set_cons_zero, List.set_cons_succ]
      refine wpG_index 19 rfl (by kernel_rfl) (fun _ _ _ h => h) (by rfl) rfl rfl rfl Try.underlying33 Try.sizeI hlt hS (fun _ => ?_)
      simp only [Act.put, List.setIfInBounds_toArray, List.set_cons_zero, List.set_cons_succ]
      refine wpG_take 20 rfl (by kernel_rfl) (fun _ _ _ h => h) (by rfl) (fun w' hw => by go_simp; rfl) hS (fun _ => ?_)
      simp only [Act.put, List.setIfInBounds_toArray, List.set_cons_zero, List.set_cons_succ]
      refine wpG_load 21 rfl (by kernel_rfl) (fun _ _ _ h => h) (by rfl) rfl (v := tx f.typ) (fun w' hw => by have := (hw.cell (lt_of_cell (HX.out.2.2.2.2.1))).trans (HX.out.2.2.2.2.1); clear hw; go_simp) hS (fun _ => ?_)
      simp only [Act.put, List.setIfInBounds_toArray, List.set_cons_zero, List.set_cons_succ]
      refine wpG_take 22 rfl (by kernel_rfl) (fun _ _ _ h => h) (by rfl) (fun w' hw => by go_simp; rfl) hS (fun _ => ?_)
      simp only [Act.put, List.setIfInBounds_toArray, List.set_cons_zero, List.set_cons_succ]
      refine wpG_take 23 rfl (by kernel_rfl) (fun _ _ _ h => h) (by rfl) (fun w' hw => by go_simp; rfl) hS (fun _ => ?_)
      simp only [Act.put, List.setIfInBounds_toArray, List.set_cons_zero, List.set_cons_succ]
      refine wpG_take 24 rfl (by kernel_rfl) (fun _ _ _ h => h) (by rfl) (fun w' hw => by go_simp; rfl) hS (fun _ => ?_)
      simp only [Act.put, List.setIfInBounds_toArray, List.set_cons_zero, List.set_cons_succ]
      refine wpG_take 25 rfl (by kernel_rfl) (fun _ _ _ h => h) (by rfl) (fun w' hw => by go_simp; rfl) hS (fun _ => ?_)
      simp only [Act.put, List.setIfInBounds_toArray, List.set_cons_zero, List.set_cons_succ]
      refine wpG_take 26 rfl (by kernel_rfl) (fun _ _ _ h => h) (by rfl) (fun w' hw => by go_simp; rfl) hS (fun _ => ?_)
      simp only [Act.put, List.setIfInBounds_toArray, List.set_cons_zero, List.set_cons_succ]
      refine wpG_index 27 rfl (by kernel_rfl) (fun _ _ _ h => h) (by rfl) rfl rfl rfl Try.underlying33 Try.sizeI hlt hS (fun _ => ?_)
      simp only [Act.put, List.setIfInBounds_toArray, List.set_cons_zero, List.set_cons_succ]
      refine wpG_take 28 rfl (by kernel_rfl) (fun _ _ _ h => h) (by rfl) (fun w' hw => by go_simp; rfl) hS (fun _ => ?_)
      simp only [Act.put, List.setIfInBounds_toArray, List.set_cons_zero, List.set_cons_succ]
      refine wpG_load 29 rfl (by kernel_rfl) (fun _ _ _ h => h) (by rfl) rfl (v := .bool f.has) (fun w' hw => by have := (hw.cell (lt_of_cell (HX.out.2.2.2.2.2.1))).trans (HX.out.2.2.2.2.2.1); clear hw; go_simp) hS (fun _ => ?_)
      simp only [Act.put, List.setIfInBounds_toArray, List.set_cons_zero, List.set_cons_succ]
      refine wpG_take 30 rfl (by kernel_rfl) (fun _ _ _ h => h) (by rfl) (fun w' hw => by go_simp; rfl) hS (fun _ => ?_)
      simp only [Act.put, List.setIfInBounds_toArray, List.set_cons_zero, List.set_cons_succ]
      refine wpG_take 31 rfl (by kernel_rfl) (fun _ _ _ h => h) (by rfl) (fun w' hw => by go_simp; rfl) hS (fun _ => ?_)
      simp only [Act.put, List.setIfInBounds_toArray, List.set_cons_zero, List.set_cons_succ]
      refine wpG_index 32 rfl (by kernel_rfl) (fun _ _ _ h => h) (by rfl) rfl rfl rfl Try.underlying33 Try.sizeI hlt hS (fun _ => ?_)
      simp only [Act.put, List.setIfInBounds_toArray, List.set_cons_zero, List.set_cons_succ]
      refine wpG_take 33 rfl (by kernel_rfl) (fun _ _ _ h => h) (by rfl) (fun w' hw => by go_simp; rfl) hS (fun _ => ?_)
      simp only [Act.put, List.setIfInBounds_toArray, List.set_cons_zero, List.set_cons_succ]
      refine wpG_load 34 rfl (by kernel_rfl) (fun _ _ _ h => h) (by rfl) rfl (v := .bool f.has) (fun w' hw => by have := (hw.cell (lt_of_cell (HX.out.2.2.2.2.2.2.1))).trans (HX.out.2.2.2.2.2.2.1); clear hw; go_simp) hS (fun _ => ?_)
      simp only [Act.put, List.setIfInBounds_toArray, List.set_cons_zero, List.set_cons_succ]
      refine wpG_take 35 rfl (by kernel_rfl) (fun _ _ _ h => h) (by rfl) (fun w' hw => by go_simp; rfl) hS (fun _ => ?_)
      simp only [Act.put, List.setIfInBounds_toArray, List.set_cons_zero, List.set_cons_succ]
      refine wpG_take 36 rfl (by kernel_rfl) (fun _ _ _ h => h) (by rfl) (fun w' hw => by go_simp; rfl) hS (fun _ => ?_)
      simp only [Act.put, List.setIfInBounds_toArray, List.set_cons_zero, List.set_cons_succ]
      refine wpG_take 37 rfl (by kernel_rfl) (fun _ _ _ h => h) (by rfl) (fun w' hw => by go_simp; rfl) hS (fun _ => ?_)
      simp only [Act.put, List.setIfInBounds_toArray, List.set_cons_zero, List.set_cons_succ]
      refine wpG_take 38 rfl (by kernel_rfl) (fun _ _ _ h => h) (by rfl) (fun w' hw => by go_simp; rfl) hS (fun _ => ?_)
      simp only [Act.put, List.setIfInBounds_toArray, List.set_cons_zero, List.set_cons_succ]
      refine wpG_take 39 rfl (by kernel_rfl) (fun _ _ _ h => h) (by rfl) (fun w' hw => by go_simp; rfl) hS (fun _ => ?_)
      simp only [Act.put, List.setIfInBounds_toArray, List.set_cons_zero, List.set_cons_succ]
      refine wpG_take 40 rfl (by kernel_rfl) (fun _ _ _ h => h) (by rfl) (fun w' hw => by go_simp; rfl) hS (fun _ => ?_)
      simp only [Act.put, List.setIfInBounds_toArray, List.set_cons_zero, List.set_cons_succ]
      refine wpG_take 41 rfl (by kernel_rfl) (fun _ _ _ h => h) (by rfl) (fun w' hw => by go_simp; rfl) hS (fun _ => ?_)
      simp only [Act.put, List.setIfInBounds_toArray, List.set_cons_zero, List.set_cons_succ]
      refine wpG_index 42 rfl (by kernel_rfl) (fun _ _ _ h => h) (by rfl) rfl rfl rfl Try.underlying33 Try.sizeI hlt hS (fun _ => ?_)
      simp only [Act.put, List.setIfInBounds_toArray, List.set_cons_zero, List.set_cons_succ]
      refine wpG_take 43 rfl (by kernel_rfl) (fun _ _ _ h => h) (by rfl) (fun w' hw => by go_simp; rfl) hS (fun _ => ?_)
      simp only [Act.put, List.setIfInBounds_toArray, List.set_cons_zero, List.set_cons_succ]
      refine wpG_load 44 rfl (by kernel_rfl) (fun _ _ _ h => h) (by rfl) rfl (v := .int .i64 f.pos) (fun w' hw => by have := (hw.cell (lt_of_cell (HX.out.2.2.2.2.2.2.2.1))).trans (HX.out.2.2.2.2.2.2.2.1); clear hw; go_simp) hS (fun _ => ?_)
      simp only [Act.put, List.setIfInBounds_toArray, List.set_cons_zero, List.set_cons_succ]
      refine wpG_take 45 rfl (by kernel_rfl) (fun _ _ _ h => h) (by rfl) (fun w' hw => by go_simp; rfl) hS (fun _ => ?_)
      simp only [Act.put, List.setIfInBounds_toArray, List.set_cons_zero, List.set_cons_succ]
      refine wpG_take 46 rfl (by kernel_rfl) (fun _ _ _ h => h) (by rfl) (fun w' hw => by go_simp; rfl) hS (fun _ => ?_)
      simp only [Act.put, List.setIfInBounds_toArray, List.set_cons_zero, List.set_cons_succ]
      refine wpG_index 47 rfl (by kernel_rfl) (fun _ _ _ h => h) (by rfl) rfl rfl rfl Try.underlying33 Try.sizeI hlt hS (fun _ => ?_)
      simp only [Act.put, List.setIfInBounds_toArray, List.set_cons_zero, List.set_cons_succ]
      refine wpG_take 48 rfl (by kernel_rfl) (fun _ _ _ h => h) (by rfl) (fun w' hw => by go_simp; rfl) hS (fun _ => ?_)
      simp only [Act.put, List.setIfInBounds_toArray, List.set_cons_zero, List.set_cons_succ]
      refine wpG_load 49 rfl (by kernel_rfl) (fun _ _ _ h => h) (by rfl) rfl (v := .int .i64 f.pos) (fun w' hw => by have := (hw.cell (lt_of_cell (HX.out.2.2.2.2.2.2.2.2.1))).trans (HX.out.2.2.2.2.2.2.2.2.1); clear hw; go_simp) hS (fun _ => ?_)
      simp only [Act.put, List.setIfInBounds_toArray, List.set_cons_zero, List.set_cons_succ]
      refine wpG_take 50 rfl (by kernel_rfl) (fun _ _ _ h => h) (by rfl) (fun w' hw => by go_simp; rfl) hS (fun _ => ?_)
      simp only [Act.put, List.setIfInBounds_toArray, List.set_cons_zero, List.set_cons_succ]
      refine wpG_take 51 rfl (by kernel_rfl) (fun _ _ _ h => h) (by rfl) (fun w' hw => by go_simp; rfl) hS (fun _ => ?_)
      simp only [Act.put, List.setIfInBounds_toArray, List.set_cons_zero, List.set_cons_succ]
      refine wpG_take 52 rfl (by kernel_rfl) (fun _ _ _ h => h) (by rfl) (fun w' hw => by go_simp; rfl) hS (fun _ => ?_)
      simp only [Act.put, List.setIfInBounds_toArray, List.set_cons_zero, List.set_cons_succ]
      refine wpG_take 53 rfl (by kernel_rfl) (fun _ _ _ h => h) (by rfl) (fun w' hw => by go_simp; rfl) hS (fun _ => ?_)
      simp only [Act.put, List.setIfInBounds_toArray, List.set_cons_zero, List.set_cons_succ]
      refine wpG_take 54 rfl (by kernel_rfl) (fun _ _ _ h => h) (by rfl) (fun w' hw => by go_simp; rfl) hS (fun _ => ?_)
      simp only [Act.put, List.setIfInBounds_toArray, List.set_cons_zero, List.set_cons_succ]
      refine wpG_take 55 rfl (by kernel_rfl) (fun _ _ _ h => h) (by rfl) (fun w' hw => by go_simp; rfl) hS (fun _ => ?_)
      simp only [Act.put, List.setIfInBounds_toArray, List.set_cons_zero, List.set_cons_succ]
      refine wpG_index 56 rfl (by kernel_rfl) (fun _ _ _ h => h) (by rfl) rfl rfl rfl Try.underlying33 Try.sizeI hlt hS (fun _ => ?_)
      simp only [Act.put, List.setIfInBounds_toArray, List.set_cons_zero, List.set_cons_succ]
      refine wpG_take 57 rfl (by kernel_rfl) (fun _ _ _ h => h) (by rfl) (fun w' hw => by go_simp; rfl) hS (fun _ => ?_)
      simp only [Act.put, List.setIfInBounds_toArray, List.set_cons_zero, List.set_cons_succ]
      refine wpG_load 58 rfl (by kernel_rfl) (fun _ _ _ h => h) (by rfl) rfl (v := .agg v1.toArray) (fun w' hw => run_loadAt_mid w' g1 (o1 + k * 9 + 3) 67 v1 _ (range_congr (hw.block _ HX.out.1.1) HX.out.2.2.2.2.2.2.2.2.2.1) Try.underlying67 rfl (by rw [Try.sizeV, HV.out.1])) hS (fun _ => ?_)
      simp only [Act.put, List.setIfInBounds_toArray, List.set_cons_zero, List.set_cons_succ]
      refine wpG_take 59 rfl (by kernel_rfl) (fun _ _ _ h => h) (by rfl) (fun w' hw => by go_simp; rfl) hS (fun _ => ?_)
      simp only [Act.put, List.setIfInBounds_toArray, List.set_cons_zero, List.set_cons_succ]
      refine wpG_take 60 rfl (by kernel_rfl) (fun _ _ _ h => h) (by rfl) (fun w' hw => by go_simp; rfl) hS (fun _ => ?_)
      simp only [Act.put, List.setIfInBounds_toArray, List.set_cons_zero, List.set_cons_succ]
      refine wpG_index 61 rfl (by kernel_rfl) (fun _ _ _ h => h) (by rfl) rfl rfl rfl Try.underlying33 Try.sizeI hlt hS (fun _ => ?_)
      simp only [Act.put, List.setIfInBounds_toArray, List.set_cons_zero, List.set_cons_succ]
      refine wpG_take 62 rfl (by kernel_rfl) (fun _ _ _ h => h) (by rfl) (fun w' hw => by go_simp; rfl) hS (fun _ => ?_)
      simp only [Act.put, List.setIfInBounds_toArray, List.set_cons_zero, List.set_cons_succ]
      refine wpG_load 63 rfl (by kernel_rfl) (fun _ _ _ h => h) (by rfl) rfl (v := .agg v2.toArray) (fun w' hw => run_loadAt_mid w' g2 (o2 + k * 9 + 3) 67 v2 _ (range_congr (hw.block _ HX.out.1.2) HX.out.2.2.2.2.2.2.2.2.2.2) Try.underlying67 rfl (by rw [Try.sizeV, HV.out.2.1])) hS (fun _ => ?_)
      simp only [Act.put, List.setIfInBounds_toArray, List.set_cons_zero, List.set_cons_succ]
      refine wpG_take 64 rfl (by kernel_rfl) (fun _ _ _ h => h) (by rfl) (fun w' hw => by go_simp; rfl) hS (fun _ => ?_)
      simp only [Act.put, List.setIfInBounds_toArray, List.set_cons_zero, List.set_cons_succ]
      refine wpG_one 65 rfl (by kernel_rfl) (by rfl) (fun K hK => ?_)
      go_simp
      refine (same_any n _ _ _ _ _ _ (RV.map (w := wr) (w' := wr.drew) (fun _ h => h) (fun _ _ => rfl) _ _ _ HV.out.2.2.1) (RV.map (w := wr) (w' := wr.drew) (fun _ h => h) (fun _ _ => rfl) _ _ _ HV.out.2.2.2.1) HV.out.2.2.2.2.1 HV.out.2.2.2.2.2.1 HV.out.2.2.2.2.2.2).mono ?_
      rintro e w2 ⟨rfl, hb2⟩
      have hS2 : Below wr.heap.size wr w2 := ⟨hb2.os, hb2.tape, hb2.output, hb2.size, hb2.block⟩
      refine hK _ _ (fun _ => hS2) (fun _ => ?_)
      have hS := hS2
      clear hK K hb2 hS2
      refine wpG_take 66 rfl (by kernel_rfl) (fun _ _ _ h => h) (by rfl) (fun w' hw => by go_simp; rfl) hS (fun _ => ?_)
      simp only [Act.put, List.setIfInBounds_toArray, List.set_cons_zero, List.set_cons_succ]
      refine wpG_take 67 rfl (by kernel_rfl) (fun _ _ _ h => h) (by rfl) (fun w' hw => by go_simp; rfl) hS (fun _ => ?_)
      simp only [Act.put, List.setIfInBounds_toArray, List.set_cons_zero, List.set_cons_succ]
      refine wpG_done (by kernel_rfl) ?_
      have HZ := hide (HB.out.trans (hS.mono HB.out.size))
      clear hS
      go_wp2
      go_roundw
      case rel => exact ⟨k + 1, by omega, by go_num, hide HZ.out⟩
      case measure => simp [intOf]; omega
    · go_wp2
      go_ret
      exact ⟨rfl, HB.out⟩
end Go.Proofs.Ytlpmnnkijdbopaa
