/-
  The walks of the reference's Same and SameArgs: values with the same data are the same.
-/
import Derived.Test.YtlpmnnkijdbopaaTexts
namespace Go.Proofs.Ytlpmnnkijdbopaa
open Go.RowKit Go.Maps

def TrueR (w : World) (e : Ending) (w' : World) : Prop := e = .returned (.bool true) ∧ Below w.heap.size w w'
theorem bne_self' {α : Type} [BEq α] [LawfulBEq α] (x : α) : (x != x) = false := by simp
/-- two values' blocks -/
structure Vx (w wr : World) (c1 c2 : Array Value) (t : TypeId) : Prop where
  b1 : wr.heap[w.heap.size]? = some (.cells c1 t (0, 0))
  b2 : wr.heap[w.heap.size + 1]? = some (.cells c2 t (0, 0))
  below : Below w.heap.size w wr
section
variable {w wr w2 : World} {c1 c2 : Array Value} {t : TypeId}
theorem Vx.c (h : Vx w wr c1 c2 t) (j : Nat) : wr.cell? ⟨w.heap.size, j, none⟩ = c1[j]? := cell_of_row _ _ _ _ _ _ h.b1
theorem Vx.d (h : Vx w wr c1 c2 t) (j : Nat) : wr.cell? ⟨w.heap.size + 1, j, none⟩ = c2[j]? := cell_of_row _ _ _ _ _ _ h.b2
theorem Vx.more (h : Vx w wr c1 c2 t) (hb : Below wr.heap.size wr w2) : Vx w w2 c1 c2 t :=
  ⟨by rw [hb.block _ (lt_of_block h.b1)]; exact h.b1, by rw [hb.block _ (lt_of_block h.b2)]; exact h.b2, h.below.trans (hb.mono h.below.size)⟩
theorem vx_new (w : World) (c1 c2 : Array Value) (t : TypeId) : Vx w ((w.alloc (.cells c1 t)).alloc (.cells c2 t)) c1 c2 t := by
  have h1 := heap_alloc_new (w.alloc (.cells c1 t)) (.cells c2 t)
  rw [World.size_alloc] at h1
  exact ⟨by rw [((Below.refl (w.alloc (.cells c1 t)).heap.size _).alloc (Nat.le_refl _) _).block _ (by simp)]; exact heap_alloc_new w _, h1, ((Below.refl _ _).alloc (Nat.le_refl _) _).alloc (by simp) _⟩
end
theorem Sl.up {α : Type} {w w' : World} {S : Nat → Prop} {k : Nat} {A : Option Addr} {R R' : α → List Value → Prop} {xs : List α} (h : Sl w S k A R xs) (hS : ∀ b, S b → b < w.heap.size) (hb : Below w.heap.size w w') (hR : ∀ x cs, R x cs → R' x cs) : Sl w' S k A R' xs :=
  h.map (fun _ h => h) (fun b h => hb.block b (hS b h)) hR
theorem RV.up' {w w' : World} {S : Nat → Prop} {n : Nat} {v : V} {cs : List Value} (h : RV w S n v cs) (hS : ∀ b, S b → b < w.heap.size) (hb : Below w.heap.size w w') : RV w' S n v cs :=
  RV.map (fun _ h => h) (fun b h => hb.block b (hS b h)) _ _ _ h
def SameIH (n : Nat) : Prop := ∀ (v : V) (w : World) (S1 S2 : Nat → Prop) (c1 c2 : List Value), RV w S1 n v c1 → RV w S2 n v c2 → (∀ b, S1 b → b < w.heap.size) → (∀ b, S2 b → b < w.heap.size) → FewV n v →
  Calls Try.prog 55 #[.agg c1.toArray, .agg c2.toArray, .bool true] w (TrueR w)
set_option maxRecDepth 20000 in
set_option maxHeartbeats 3200000 in
theorem sameArgs_of {n : Nat} (ih : SameIH n) {w : World} {S1 S2 : Nat → Prop} {A B : Option Addr} {l : List (Bs × V × Int)} (c d : Nat) (h1 : Sl w S1 7 A (RArg (RV w S1 n)) l) (h2 : Sl w S2 7 B (RArg (RV w S2 n)) l) (hS1 : ∀ b, S1 b → b < w.heap.size) (hS2 : ∀ b, S2 b → b < w.heap.size) (hl : l.length ≤ 300) (hf : ∀ f ∈ l, FewV n f.2.1) :
    Calls Try.prog 82 #[.slice A l.length c, .slice B l.length d, .bool true] w (TrueR w) := by
  have i1 : (l.length : Int) ≤ 300 := by omega
  have H := hide (And.intro h1 (And.intro h2 (And.intro hS1 (And.intro hS2 hf))))
  have HIH := hide ih
  clear h1 h2 hS1 hS2 hl hf ih
  go_enter Try.func82, Try.ntmps82
  go_wp2
  go_loopw [15] (fun i wr => ∃ k : Nat, k ≤ l.length ∧ i = .int .i64 k ∧ Hid (Below w.heap.size w wr)) (fun i _ => l.length - (intOf i).toNat)
  case atStart => exact ⟨0, Nat.zero_le _, rfl, hide (Below.refl _ _)⟩
  case round =>
    obtain ⟨k, hk, rfl, HB⟩ := hrel
    by_cases hlt : k < l.length
    · obtain ⟨f, hfe⟩ : ∃ f, f = l[k] := ⟨_, rfl⟩
      have hmem : f ∈ l := by rw [hfe]; exact List.getElem_mem _
      have hx1 := H.out.1 k _ (List.getElem?_eq_getElem hlt)
      have hx2 := H.out.2.1 k _ (List.getElem?_eq_getElem hlt)
      rw [← hfe] at hx1 hx2
      obtain ⟨g1, o1, e1, hA, hg1, hl1, hr1, v1, he1, hv1, hR1⟩ := hx1
      obtain ⟨g2, o2, e2, hB, hg2, hl2, hr2, v2, he2, hv2, hR2⟩ := hx2
      subst he1 he2 hA hB
      have hb1 : g1 < w.heap.size := H.out.2.2.1 g1 hg1
      have hb2 : g2 < w.heap.size := H.out.2.2.2.1 g2 hg2
      have q1 : wr.rangeAt g1 (o1 + k * 7) (tx f.1 :: (v1 ++ [.int .i64 f.2.2])) := range_congr (HB.out.block _ hb1) hr1
      have q2 : wr.rangeAt g2 (o2 + k * 7) (tx f.1 :: (v2 ++ [.int .i64 f.2.2])) := range_congr (HB.out.block _ hb2) hr2
      have r1 : wr.rangeAt g1 (o1 + k * 7 + 1) v1 := fun j u hu => by
        have := q1 (j + 1) u (by rw [List.getElem?_cons_succ, List.getElem?_append_left (List.getElem?_eq_some_iff.1 hu).1]; exact hu)
        rwa [show o1 + k * 7 + (j + 1) = o1 + k * 7 + 1 + j by omega] at this
      have r2 : wr.rangeAt g2 (o2 + k * 7 + 1) v2 := fun j u hu => by
        have := q2 (j + 1) u (by rw [List.getElem?_cons_succ, List.getElem?_append_left (List.getElem?_eq_some_iff.1 hu).1]; exact hu)
        rwa [show o2 + k * 7 + (j + 1) = o2 + k * 7 + 1 + j by omega] at this
      have sz := HB.out.size
      have HX := hide (And.intro (And.intro (show g1 < wr.heap.size by omega) (show g2 < wr.heap.size by omega)) (And.intro (show wr.cell? ⟨g1, o1 + k * 7, none⟩ = some (tx f.1) from q1 0 _ rfl) (And.intro (show wr.cell? ⟨g2, o2 + k * 7, none⟩ = some (tx f.1) from q2 0 _ rfl) (And.intro (show wr.cell? ⟨g1, o1 + k * 7 + 6, none⟩ = some (.int .i64 f.2.2) from q1 6 _ (by rw [List.getElem?_cons_succ, List.getElem?_append_right (by omega), hv1]; rfl)) (And.intro (show wr.cell? ⟨g2, o2 + k * 7 + 6, none⟩ = some (.int .i64 f.2.2) from q2 6 _ (by rw [List.getElem?_cons_succ, List.getElem?_append_right (by omega), hv2]; rfl)) (And.intro r1 r2))))))
      have HV := hide (And.intro hv1 (And.intro hv2 (And.intro (hR1.up' H.out.2.2.1 HB.out) (And.intro (hR2.up' H.out.2.2.2.1 HB.out) (And.intro (show ∀ b, S1 b → b < wr.drew.heap.size from fun b hb => Nat.lt_of_lt_of_le (H.out.2.2.1 b hb) sz) (And.intro (show ∀ b, S2 b → b < wr.drew.heap.size from fun b hb => Nat.lt_of_lt_of_le (H.out.2.2.2.1 b hb) sz) (H.out.2.2.2.2 f hmem)))))))
      clear hfe hmem hl1 hl2 hr1 hr2 hv1 hv2 hR1 hR2 hb1 hb2 q1 q2 r1 r2 sz hg1 hg2
      have nb := bne_self' f.1
      have nc := bne_self' f.2.2
      go_wp2_with fail
      refine wp_region_G (fun w' => Below wr.heap.size wr w') (fun _ => true) (by kernel_rfl) ((Below.refl _ _).drew) (fun hS => ?_)
      refine wpG_take 0 rfl (by kernel_rfl) (fun _ _ _ h => h) (by rfl) (fun w' hw => by go_simp; rfl) hS (fun _ => ?_)
      simp only [Act.put, List.setIfInBounds_toArray, List.set_cons_zero, List.set_cons_succ]
      refine wpG_take 1 rfl (by kernel_rfl) (fun _ _ _ h => h) (by rfl) (fun w' hw => by go_simp; rfl) hS (fun _ => ?_)
      simp only [Act.put, List.setIfInBounds_toArray, List.set_cons_zero, List.set_cons_succ]
      refine wpG_index 2 rfl (by kernel_rfl) (fun _ _ _ h => h) (by rfl) rfl rfl rfl Try.underlying65 Try.sizeA hlt hS (fun _ => ?_)
      simp only [Act.put, List.setIfInBounds_toArray, List.set_cons_zero, List.set_cons_succ]
      refine wpG_take 3 rfl (by kernel_rfl) (fun _ _ _ h => h) (by rfl) (fun w' hw => by go_simp; rfl) hS (fun _ => ?_)
      simp only [Act.put, List.setIfInBounds_toArray, List.set_cons_zero, List.set_cons_succ]
      refine wpG_load 4 rfl (by kernel_rfl) (fun _ _ _ h => h) (by rfl) rfl (v := tx f.1) (fun w' hw => by have := (hw.cell (lt_of_cell (HX.out.2.1))).trans (HX.out.2.1); clear hw; go_simp) hS (fun _ => ?_)
      simp only [Act.put, List.setIfInBounds_toArray, List.set_cons_zero, List.set_cons_succ]
      refine wpG_take 5 rfl (by kernel_rfl) (fun _ _ _ h => h) (by rfl) (fun w' hw => by go_simp; rfl) hS (fun _ => ?_)
      simp only [Act.put, List.setIfInBounds_toArray, List.set_cons_zero, List.set_cons_succ]
      refine wpG_take 6 rfl (by kernel_rfl) (fun _ _ _ h => h) (by rfl) (fun w' hw => by go_simp; rfl) hS (fun _ => ?_)
      simp only [Act.put, List.setIfInBounds_toArray, List.set_cons_zero, List.set_cons_succ]
      refine wpG_index 7 rfl (by kernel_rfl) (fun _ _ _ h => h) (by rfl) rfl rfl rfl Try.underlying65 Try.sizeA hlt hS (fun _ => ?_)
      simp only [Act.put, List.setIfInBounds_toArray, List.set_cons_zero, List.set_cons_succ]
      refine wpG_take 8 rfl (by kernel_rfl) (fun _ _ _ h => h) (by rfl) (fun w' hw => by go_simp; rfl) hS (fun _ => ?_)
      simp only [Act.put, List.setIfInBounds_toArray, List.set_cons_zero, List.set_cons_succ]
      refine wpG_load 9 rfl (by kernel_rfl) (fun _ _ _ h => h) (by rfl) rfl (v := tx f.1) (fun w' hw => by have := (hw.cell (lt_of_cell (HX.out.2.2.1))).trans (HX.out.2.2.1); clear hw; go_simp) hS (fun _ => ?_)
      simp only [Act.put, List.setIfInBounds_toArray, List.set_cons_zero, List.set_cons_succ]
      refine wpG_take 10 rfl (by kernel_rfl) (fun _ _ _ h => h) (by rfl) (fun w' hw => by go_simp; rfl) hS (fun _ => ?_)
      simp only [Act.put, List.setIfInBounds_toArray, List.set_cons_zero, List.set_cons_succ]
      refine wpG_take 11 rfl (by kernel_rfl) (fun _ _ _ h => h) (by rfl) (fun w' hw => by go_simp; rfl) hS (fun _ => ?_)
      simp only [Act.put, List.setIfInBounds_toArray, List.set_cons_zero, List.set_cons_succ]
      refine wpG_take 12 rfl (by kernel_rfl) (fun _ _ _ h => h) (by rfl) (fun w' hw => by go_simp; rfl) hS (fun _ => ?_)
      simp only [Act.put, List.setIfInBounds_toArray, List.set_cons_zero, List.set_cons_succ]
      refine wpG_take 13 rfl (by kernel_rfl) (fun _ _ _ h => h) (by rfl) (fun w' hw => by go_simp; rfl) hS (fun _ => ?_)
      simp only [Act.put, List.setIfInBounds_toArray, List.set_cons_zero, List.set_cons_succ]
      refine wpG_take 14 rfl (by kernel_rfl) (fun _ _ _ h => h) (by rfl) (fun w' hw => by go_simp; rfl) hS (fun _ => ?_)
      simp only [Act.put, List.setIfInBounds_toArray, List.set_cons_zero, List.set_cons_succ]
      refine wpG_take 15 rfl (by kernel_rfl) (fun _ _ _ h => h) (by rfl) (fun w' hw => by go_simp; rfl) hS (fun _ => ?_)
      simp only [Act.put, List.setIfInBounds_toArray, List.set_cons_zero, List.set_cons_succ]
      refine wpG_index 16 rfl (by kernel_rfl) (fun _ _ _ h => h) (by rfl) rfl rfl rfl Try.underlying65 Try.sizeA hlt hS (fun _ => ?_)
      simp only [Act.put, List.setIfInBounds_toArray, List.set_cons_zero, List.set_cons_succ]
      refine wpG_take 17 rfl (by kernel_rfl) (fun _ _ _ h => h) (by rfl) (fun w' hw => by go_simp; rfl) hS (fun _ => ?_)
      simp only [Act.put, List.setIfInBounds_toArray, List.set_cons_zero, List.set_cons_succ]
      refine wpG_load 18 rfl (by kernel_rfl) (fun _ _ _ h => h) (by rfl) rfl (v := .int .i64 f.2.2) (fun w' hw => by have := (hw.cell (lt_of_cell (HX.out.2.2.2.1))).trans (HX.out.2.2.2.1); clear hw; go_simp) hS (fun _ => ?_)
      simp only [Act.put, List.setIfInBounds_toArray, List.set_cons_zero, List.set_cons_succ]
      refine wpG_take 19 rfl (by kernel_rfl) (fun _ _ _ h => h) (by rfl) (fun w' hw => by go_simp; rfl) hS (fun _ => ?_)
      simp only [Act.put, List.setIfInBounds_toArray, List.set_cons_zero, List.set_cons_succ]
      refine wpG_take 20 rfl (by kernel_rfl) (fun _ _ _ h => h) (by rfl) (fun w' hw => by go_simp; rfl) hS (fun _ => ?_)
      simp only [Act.put, List.setIfInBounds_toArray, List.set_cons_zero, List.set_cons_succ]
      refine wpG_index 21 rfl (by kernel_rfl) (fun _ _ _ h => h) (by rfl) rfl rfl rfl Try.underlying65 Try.sizeA hlt hS (fun _ => ?_)
      simp only [Act.put, List.setIfInBounds_toArray, List.set_cons_zero, List.set_cons_succ]
      refine wpG_take 22 rfl (by kernel_rfl) (fun _ _ _ h => h) (by rfl) (fun w' hw => by go_simp; rfl) hS (fun _ => ?_)
      simp only [Act.put, List.setIfInBounds_toArray, List.set_cons_zero, List.set_cons_succ]
      refine wpG_load 23 rfl (by kernel_rfl) (fun _ _ _ h => h) (by rfl) rfl (v := .int .i64 f.2.2) (fun w' hw => by have := (hw.cell (lt_of_cell (HX.out.2.2.2.2.1))).trans (HX.out.2.2.2.2.1); clear hw; go_simp) hS (fun _ => ?_)
      simp only [Act.put, List.setIfInBounds_toArray, List.set_cons_zero, List.set_cons_succ]
      refine wpG_take 24 rfl (by kernel_rfl) (fun _ _ _ h => h) (by rfl) (fun w' hw => by go_simp; rfl) hS (fun _ => ?_)
      simp only [Act.put, List.setIfInBounds_toArray, List.set_cons_zero, List.set_cons_succ]
      refine wpG_take 25 rfl (by kernel_rfl) (fun _ _ _ h => h) (by rfl) (fun w' hw => by go_simp; rfl) hS (fun _ => ?_)
      simp only [Act.put, List.setIfInBounds_toArray, List.set_cons_zero, List.set_cons_succ]
      refine wpG_take 26 rfl (by kernel_rfl) (fun _ _ _ h => h) (by rfl) (fun w' hw => by go_simp; rfl) hS (fun _ => ?_)
      simp only [Act.put, List.setIfInBounds_toArray, List.set_cons_zero, List.set_cons_succ]
      refine wpG_take 27 rfl (by kernel_rfl) (fun _ _ _ h => h) (by rfl) (fun w' hw => by go_simp; rfl) hS (fun _ => ?_)
      simp only [Act.put, List.setIfInBounds_toArray, List.set_cons_zero, List.set_cons_succ]
      refine wpG_take 28 rfl (by kernel_rfl) (fun _ _ _ h => h) (by rfl) (fun w' hw => by go_simp; rfl) hS (fun _ => ?_)
      simp only [Act.put, List.setIfInBounds_toArray, List.set_cons_zero, List.set_cons_succ]
      refine wpG_take 29 rfl (by kernel_rfl) (fun _ _ _ h => h) (by rfl) (fun w' hw => by go_simp; rfl) hS (fun _ => ?_)
      simp only [Act.put, List.setIfInBounds_toArray, List.set_cons_zero, List.set_cons_succ]
      refine wpG_index 30 rfl (by kernel_rfl) (fun _ _ _ h => h) (by rfl) rfl rfl rfl Try.underlying65 Try.sizeA hlt hS (fun _ => ?_)
      simp only [Act.put, List.setIfInBounds_toArray, List.set_cons_zero, List.set_cons_succ]
      refine wpG_take 31 rfl (by kernel_rfl) (fun _ _ _ h => h) (by rfl) (fun w' hw => by go_simp; rfl) hS (fun _ => ?_)
      simp only [Act.put, List.setIfInBounds_toArray, List.set_cons_zero, List.set_cons_succ]
      refine wpG_load 32 rfl (by kernel_rfl) (fun _ _ _ h => h) (by rfl) rfl (v := .agg v1.toArray) (fun w' hw => run_loadAt_mid w' g1 (o1 + k * 7 + 1) 67 v1 _ (range_congr (hw.block _ HX.out.1.1) HX.out.2.2.2.2.2.1) Try.underlying67 rfl (by rw [Try.sizeV, HV.out.1])) hS (fun _ => ?_)
      simp only [Act.put, List.setIfInBounds_toArray, List.set_cons_zero, List.set_cons_succ]
      refine wpG_take 33 rfl (by kernel_rfl) (fun _ _ _ h => h) (by rfl) (fun w' hw => by go_simp; rfl) hS (fun _ => ?_)
      simp only [Act.put, List.setIfInBounds_toArray, List.set_cons_zero, List.set_cons_succ]
      refine wpG_take 34 rfl (by kernel_rfl) (fun _ _ _ h => h) (by rfl) (fun w' hw => by go_simp; rfl) hS (fun _ => ?_)
      simp only [Act.put, List.setIfInBounds_toArray, List.set_cons_zero, List.set_cons_succ]
      refine wpG_index 35 rfl (by kernel_rfl) (fun _ _ _ h => h) (by rfl) rfl rfl rfl Try.underlying65 Try.sizeA hlt hS (fun _ => ?_)
      simp only [Act.put, List.setIfInBounds_toArray, List.set_cons_zero, List.set_cons_succ]
      refine wpG_take 36 rfl (by kernel_rfl) (fun _ _ _ h => h) (by rfl) (fun w' hw => by go_simp; rfl) hS (fun _ => ?_)
      simp only [Act.put, List.setIfInBounds_toArray, List.set_cons_zero, List.set_cons_succ]
      refine wpG_load 37 rfl (by kernel_rfl) (fun _ _ _ h => h) (by rfl) rfl (v := .agg v2.toArray) (fun w' hw => run_loadAt_mid w' g2 (o2 + k * 7 + 1) 67 v2 _ (range_congr (hw.block _ HX.out.1.2) HX.out.2.2.2.2.2.2) Try.underlying67 rfl (by rw [Try.sizeV, HV.out.2.1])) hS (fun _ => ?_)
      simp only [Act.put, List.setIfInBounds_toArray, List.set_cons_zero, List.set_cons_succ]
      refine wpG_take 38 rfl (by kernel_rfl) (fun _ _ _ h => h) (by rfl) (fun w' hw => by go_simp; rfl) hS (fun _ => ?_)
      simp only [Act.put, List.setIfInBounds_toArray, List.set_cons_zero, List.set_cons_succ]
      refine wpG_one 39 rfl (by kernel_rfl) (by rfl) (fun K hK => ?_)
      go_simp
      refine (HIH.out _ _ _ _ _ _ (RV.map (w := wr) (w' := wr.drew) (fun _ h => h) (fun _ _ => rfl) _ _ _ HV.out.2.2.1) (RV.map (w := wr) (w' := wr.drew) (fun _ h => h) (fun _ _ => rfl) _ _ _ HV.out.2.2.2.1) HV.out.2.2.2.2.1 HV.out.2.2.2.2.2.1 HV.out.2.2.2.2.2.2).mono ?_
      rintro e w2 ⟨rfl, hb2⟩
      have hS2 : Below wr.heap.size wr w2 := ⟨hb2.os, hb2.tape, hb2.output, hb2.size, hb2.block⟩
      refine hK _ _ (fun _ => hS2) (fun _ => ?_)
      have hS := hS2
      clear hK K hb2 hS2
      refine wpG_take 40 rfl (by kernel_rfl) (fun _ _ _ h => h) (by rfl) (fun w' hw => by go_simp; rfl) hS (fun _ => ?_)
      simp only [Act.put, List.setIfInBounds_toArray, List.set_cons_zero, List.set_cons_succ]
      refine wpG_take 41 rfl (by kernel_rfl) (fun _ _ _ h => h) (by rfl) (fun w' hw => by go_simp; rfl) hS (fun _ => ?_)
      simp only [Act.put, List.setIfInBounds_toArray, List.set_cons_zero, List.set_cons_succ]
      refine wpG_done (by kernel_rfl) ?_
      have HZ := hide (HB.out.trans (hS.mono HB.out.size))
      clear hS
      go_wp2
      go_roundw
      case rel => exact ⟨k + 1, by omega, by go_num, hide HZ.out⟩
      case measure => simp [intOf]; omega
    · go_wp2
      go_ret
      exact ⟨rfl, HB.out⟩
set_option maxRecDepth 20000 in
set_option maxHeartbeats 3200000 in
theorem same_any : ∀ n, SameIH n := by
  intro n
  induction n with
  | zero => exact fun _ _ _ _ _ _ h => h.elim
  | succ n ih =>
    intro v w S1 S2 c1 c2 h1 h2 hS1 hS2 hf
    obtain ⟨A1, d1, A2, d2, rfl, s1, s2⟩ := h1
    obtain ⟨B1, e1, B2, e2, rfl, t1, t2⟩ := h2
    obtain ⟨_, f2, f3, f4, f5⟩ := hf
    have i1 : (v.items.length : Int) ≤ 300 := by omega
    have HIH := hide ih
    have H := hide (And.intro s1 (And.intro t1 (And.intro hS1 (And.intro hS2 (And.intro f4 (And.intro s2 (And.intro t2 (And.intro f3 (fun f hf => (f5 f hf).2 : ∀ f ∈ v.fields, FewV n f.2.1)))))))))
    clear s1 s2 t1 t2 f2 f3 f4 f5 hS1 hS2 ih
    go_enter Try.func55, Try.ntmps55
    go_upto_region 1 with fail
    obtain ⟨wz, hwz⟩ : ∃ wz, wz = (w.alloc (.cells #[.int .i64 v.kind, tx v.text, .slice A1 v.items.length d1, .slice A2 v.fields.length d2, .int .i64 v.pos] 67)).alloc (.cells #[.int .i64 v.kind, tx v.text, .slice B1 v.items.length e1, .slice B2 v.fields.length e2, .int .i64 v.pos] 67) := ⟨_, rfl⟩
    rw [← hwz]
    have HX0 := hide (show Vx w wz #[.int .i64 v.kind, tx v.text, .slice A1 v.items.length d1, .slice A2 v.fields.length d2, .int .i64 v.pos] #[.int .i64 v.kind, tx v.text, .slice B1 v.items.length e1, .slice B2 v.fields.length e2, .int .i64 v.pos] 67 from by rw [hwz]; exact vx_new _ _ _ _)
    clear hwz
    have x0 := HX0.out.c 0
    have x1 := HX0.out.c 1
    have x2 := HX0.out.c 2
    have x4 := HX0.out.c 4
    have y0 := HX0.out.d 0
    have y1 := HX0.out.d 1
    have y2 := HX0.out.d 2
    have y4 := HX0.out.d 4
    have n1 := bne_self' v.kind
    have n2 := bne_self' v.text
    have n3 := bne_self' v.pos
    have n4 := bne_self' (v.items.length : Int)
    go_wp2_with fail
    clear x0 x1 x2 x4 y0 y1 y2 y4 n1 n2 n3 n4
    go_loopw [42] (fun i wr => ∃ k : Nat, k ≤ v.items.length ∧ i = .int .i64 k ∧ Hid (Below wz.heap.size wz wr)) (fun i _ => v.items.length - (intOf i).toNat)
    case atStart => exact ⟨0, Nat.zero_le _, rfl, hide (Below.refl _ _)⟩
    case round =>
      obtain ⟨k, hk, rfl, HB⟩ := hrel
      have HXr := hide (HX0.out.more HB.out)
      have hbw := HXr.out.below
      by_cases hlt : k < v.items.length
      · obtain ⟨f, hfe⟩ : ∃ f, f = v.items[k] := ⟨_, rfl⟩
        have hmem : f ∈ v.items := by rw [hfe]; exact List.getElem_mem _
        have hx1 := H.out.1 k _ (List.getElem?_eq_getElem hlt)
        have hx2 := H.out.2.1 k _ (List.getElem?_eq_getElem hlt)
        rw [← hfe] at hx1 hx2
        obtain ⟨g1, o1, v1, hA, hg1, hl1, hr1, hR1⟩ := hx1
        obtain ⟨g2, o2, v2, hB, hg2, hl2, hr2, hR2⟩ := hx2
        subst hA hB
        have hb1 : g1 < w.heap.size := H.out.2.2.1 g1 hg1
        have hb2 : g2 < w.heap.size := H.out.2.2.2.1 g2 hg2
        have sz := hbw.size
        have HX := hide (And.intro (And.intro (show g1 < wr.heap.size by omega) (show g2 < wr.heap.size by omega)) (And.intro (show wr.cell? ⟨w.heap.size, 2, none⟩ = some (.slice (some ⟨g1, o1, none⟩) v.items.length d1) from HXr.out.c 2) (And.intro (show wr.cell? ⟨w.heap.size + 1, 2, none⟩ = some (.slice (some ⟨g2, o2, none⟩) v.items.length e1) from HXr.out.d 2) (And.intro (show wr.rangeAt g1 (o1 + k * 5) v1 from range_congr (hbw.block _ hb1) hr1) (show wr.rangeAt g2 (o2 + k * 5) v2 from range_congr (hbw.block _ hb2) hr2)))))
        have HV := hide (And.intro hl1 (And.intro hl2 (And.intro (hR1.up' H.out.2.2.1 hbw) (And.intro (hR2.up' H.out.2.2.2.1 hbw) (And.intro (show ∀ b, S1 b → b < wr.drew.heap.size from fun b hb => Nat.lt_of_lt_of_le (H.out.2.2.1 b hb) sz) (And.intro (show ∀ b, S2 b → b < wr.drew.heap.size from fun b hb => Nat.lt_of_lt_of_le (H.out.2.2.2.1 b hb) sz) (H.out.2.2.2.2.1 f hmem)))))))
        clear hfe hmem hl1 hl2 hr1 hr2 hR1 hR2 hb1 hb2 sz hg1 hg2 hbw HXr
        go_wp2_with fail
        refine wp_region_G (fun w' => Below wr.heap.size wr w') (fun _ => true) (by kernel_rfl) ((Below.refl _ _).drew) (fun hS => ?_)
        refine wpG_take 0 rfl (by kernel_rfl) (fun _ _ _ h => h) (by rfl) (fun w' hw => by go_simp; rfl) hS (fun _ => ?_)
        simp only [Act.put, List.setIfInBounds_toArray, List.set_cons_zero, List.set_cons_succ]
        refine wpG_load 1 rfl (by kernel_rfl) (fun _ _ _ h => h) (by rfl) rfl (v := .slice (some ⟨g1, o1, none⟩) v.items.length d1) (fun w' hw => by have := (hw.cell (lt_of_cell (HX.out.2.1))).trans (HX.out.2.1); clear hw; go_simp) hS (fun _ => ?_)
        simp only [Act.put, List.setIfInBounds_toArray, List.set_cons_zero, List.set_cons_succ]
        refine wpG_take 2 rfl (by kernel_rfl) (fun _ _ _ h => h) (by rfl) (fun w' hw => by go_simp; rfl) hS (fun _ => ?_)
        simp only [Act.put, List.setIfInBounds_toArray, List.set_cons_zero, List.set_cons_succ]
        refine wpG_index 3 rfl (by kernel_rfl) (fun _ _ _ h => h) (by rfl) rfl rfl rfl Try.underlying64 Try.sizeV hlt hS (fun _ => ?_)
        simp only [Act.put, List.setIfInBounds_toArray, List.set_cons_zero, List.set_cons_succ]
        refine wpG_load 4 rfl (by kernel_rfl) (fun _ _ _ h => h) (by rfl) rfl (v := .agg v1.toArray) (fun w' hw => run_loadAt_mid w' g1 (o1 + k * 5) 67 v1 _ (range_congr (hw.block _ HX.out.1.1) HX.out.2.2.2.1) Try.underlying67 rfl (by rw [Try.sizeV, HV.out.1])) hS (fun _ => ?_)
        simp only [Act.put, List.setIfInBounds_toArray, List.set_cons_zero, List.set_cons_succ]
        refine wpG_take 5 rfl (by kernel_rfl) (fun _ _ _ h => h) (by rfl) (fun w' hw => by go_simp; rfl) hS (fun _ => ?_)
        simp only [Act.put, List.setIfInBounds_toArray, List.set_cons_zero, List.set_cons_succ]
        refine wpG_load 6 rfl (by kernel_rfl) (fun _ _ _ h => h) (by rfl) rfl (v := .slice (some ⟨g2, o2, none⟩) v.items.length e1) (fun w' hw => by have := (hw.cell (lt_of_cell (HX.out.2.2.1))).trans (HX.out.2.2.1); clear hw; go_simp) hS (fun _ => ?_)
        simp only [Act.put, List.setIfInBounds_toArray, List.set_cons_zero, List.set_cons_succ]
        refine wpG_take 7 rfl (by kernel_rfl) (fun _ _ _ h => h) (by rfl) (fun w' hw => by go_simp; rfl) hS (fun _ => ?_)
        simp only [Act.put, List.setIfInBounds_toArray, List.set_cons_zero, List.set_cons_succ]
        refine wpG_index 8 rfl (by kernel_rfl) (fun _ _ _ h => h) (by rfl) rfl rfl rfl Try.underlying64 Try.sizeV hlt hS (fun _ => ?_)
        simp only [Act.put, List.setIfInBounds_toArray, List.set_cons_zero, List.set_cons_succ]
        refine wpG_load 9 rfl (by kernel_rfl) (fun _ _ _ h => h) (by rfl) rfl (v := .agg v2.toArray) (fun w' hw => run_loadAt_mid w' g2 (o2 + k * 5) 67 v2 _ (range_congr (hw.block _ HX.out.1.2) HX.out.2.2.2.2) Try.underlying67 rfl (by rw [Try.sizeV, HV.out.2.1])) hS (fun _ => ?_)
        simp only [Act.put, List.setIfInBounds_toArray, List.set_cons_zero, List.set_cons_succ]
        refine wpG_take 10 rfl (by kernel_rfl) (fun _ _ _ h => h) (by rfl) (fun w' hw => by go_simp; rfl) hS (fun _ => ?_)
        simp only [Act.put, List.setIfInBounds_toArray, List.set_cons_zero, List.set_cons_succ]
        refine wpG_one 11 rfl (by kernel_rfl) (by rfl) (fun K hK => ?_)
        go_simp
        refine (HIH.out _ _ _ _ _ _ (RV.map (w := wr) (w' := wr.drew) (fun _ h => h) (fun _ _ => rfl) _ _ _ HV.out.2.2.1) (RV.map (w := wr) (w' := wr.drew) (fun _ h => h) (fun _ _ => rfl) _ _ _ HV.out.2.2.2.1) HV.out.2.2.2.2.1 HV.out.2.2.2.2.2.1 HV.out.2.2.2.2.2.2).mono ?_
        rintro e w2 ⟨rfl, hb2⟩
        have hS2 : Below wr.heap.size wr w2 := ⟨hb2.os, hb2.tape, hb2.output, hb2.size, hb2.block⟩
        refine hK _ _ (fun _ => hS2) (fun _ => ?_)
        have hS := hS2
        clear hK K hb2 hS2
        refine wpG_take 12 rfl (by kernel_rfl) (fun _ _ _ h => h) (by rfl) (fun w' hw => by go_simp; rfl) hS (fun _ => ?_)
        simp only [Act.put, List.setIfInBounds_toArray, List.set_cons_zero, List.set_cons_succ]
        refine wpG_done (by kernel_rfl) ?_
        have HZ := hide (HB.out.trans (hS.mono HB.out.size))
        clear hS
        go_wp2
        go_roundw
        case rel => exact ⟨k + 1, by omega, by go_num, hide HZ.out⟩
        case measure => simp [intOf]; omega
      · have HBW := hide hbw
        clear hbw
        have x3 := HXr.out.c 3
        have y3 := HXr.out.d 3
        go_wp2_with fail
        have hlf : v.fields.length ≤ 300 := H.out.2.2.2.2.2.2.2.1
        refine (sameArgs_of HIH.out d2 e2 (H.out.2.2.2.2.2.1.up H.out.2.2.1 HBW.out (fun _ _ => RArg.map fun x cs h => h.up' H.out.2.2.1 HBW.out)) (H.out.2.2.2.2.2.2.1.up H.out.2.2.2.1 HBW.out (fun _ _ => RArg.map fun x cs h => h.up' H.out.2.2.2.1 HBW.out)) (fun b hb => Nat.lt_of_lt_of_le (H.out.2.2.1 b hb) HBW.out.size) (fun b hb => Nat.lt_of_lt_of_le (H.out.2.2.2.1 b hb) HBW.out.size) hlf H.out.2.2.2.2.2.2.2.2).mono ?_
        rintro e w2 ⟨rfl, hb2⟩
        have HZ := hide (HBW.out.trans (hb2.mono HBW.out.size))
        clear hb2
        go_wp2
        go_ret
        exact ⟨rfl, HZ.out⟩
end Go.Proofs.Ytlpmnnkijdbopaa
