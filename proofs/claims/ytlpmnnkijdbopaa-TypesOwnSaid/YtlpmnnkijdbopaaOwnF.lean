/-
  The walk of own, once more: the rows of the copy's fields and members are its own, and not frozen.
-/
import Derived.Test.YtlpmnnkijdbopaaOwn
namespace Go.Proofs.Ytlpmnnkijdbopaa
open Go.RowKit

/-- the block that a slice stands on is whole and not frozen, from B on -/
def Fr (w : World) (B : Nat) (A : Option Addr) : Prop := ∀ b o, A = some ⟨b, o, none⟩ → B ≤ b ∧ ∃ c t, w.heap[b]? = some (.cells c t (0, 0))
theorem Fr.lt {w : World} {B : Nat} {A : Option Addr} (h : Fr w B A) {b o : Nat} (hb : A = some ⟨b, o, none⟩) : b < w.heap.size := by
  obtain ⟨_, c, t, h2⟩ := h b o hb
  exact lt_of_block h2
theorem Fr.keep {w w' : World} {B : Nat} {A : Option Addr} (h : Fr w B A) (hk : ∀ b, B ≤ b → b < w.heap.size → w'.heap[b]? = w.heap[b]?) : Fr w' B A := fun b o hb => by
  obtain ⟨h1, c, t, h2⟩ := h b o hb
  exact ⟨h1, c, t, by rw [hk b h1 (lt_of_block h2)]; exact h2⟩
theorem fr_own {w : World} {base B k n m c : Nat} {e : TypeId} {A : Option Addr} {xs : List Value} (h : w.ownsRow base e k (.slice A n c) m xs) (hB : B ≤ base) : Fr w B A := fun b o hb => by
  subst hb
  rcases h.2 with ⟨hv, _⟩ | ⟨g, cap, cur, hv, hg, hc, _⟩
  · injection hv with h1 _ _; cases h1
  · injection hv with h1 _ _
    injection h1 with h1
    injection h1 with h1
    subst h1
    exact ⟨by omega, cur, e, hc⟩
def OwnFPost (w : World) (n : Nat) (t : Td) (e : Ending) (w' : World) : Prop := ∃ A2 c2 A3 c3 cs, e = .returned (.agg cs.toArray) ∧ RT w' (New w w') n t cs ∧ Below w.heap.size w w' ∧
  cs[3]? = some (.slice A2 t.fields.length c2) ∧ cs[4]? = some (.slice A3 t.members.length c3) ∧ Fr w' (w.heap.size + 2) A2 ∧ Fr w' (w.heap.size + 2) A3
set_option maxRecDepth 20000 in
set_option maxHeartbeats 3200000 in
theorem own_free {S : Nat → Prop} {n : Nat} {t : Td} {cs : List Value} {w : World} (h : RT w S n t cs) (hS : ∀ b, S b → b < w.heap.size) (hf : FewT n t) :
    Calls Try.prog 25 #[.agg cs.toArray] w (OwnFPost w n t) := by
  obtain ⟨A1, c1, A2, c2, A3, c3, A4, c4, e, s1, s2, s3, s4⟩ := h
  subst e
  obtain ⟨l2, r2, o2, e2⟩ := s2.flat (by decide) hS (fun _ _ h => h.one)
  have r1 := rs_rd s1 hS
  have r3 := rs_rd s3 hS
  obtain ⟨f0, ⟨f1, _⟩, ⟨f3, _⟩, ⟨f2, f2'⟩, f4⟩ := hf
  have H := hide (And.intro r1 (And.intro r3 (And.intro r2 (And.intro o2 (And.intro e2 (And.intro hS (And.intro s4 (And.intro f4 f2'))))))))
  clear r1 r3 r2 o2 e2 hS s1 s2 s3 s4 f4 f2' f0
  go_enter Try.func25, Try.ntmps25
  go_wp2_with fail
  obtain ⟨W, hW⟩ : ∃ W, W = (w.alloc (.cells #[.int .i64 t.kind, tx t.name, .slice A1 t.impls.length c1, .slice A2 t.fields.length c2, .slice A3 t.members.length c3, .slice A4 t.inputs.length c4, .int .i64 t.pos] 35)).alloc (.cells #[.int .i64 0, .string ⟨#[]⟩, .slice none 0 0, .slice none 0 0, .slice none 0 0, .slice none 0 0, .int .i64 0] 35) := ⟨_, rfl⟩
  rw [← hW]
  have hB : OwnB w t A1 A2 A3 A4 c1 c2 c3 c4 W := ⟨by rw [hW]; exact ((Below.refl _ w).alloc (Nat.le_refl _) _).alloc (by simp) _, by rw [hW]; exact heap_alloc2_old w _ _, _, by rw [hW]; exact heap_alloc2_new w _ _, rfl⟩
  have HB := hide hB
  clear hB hW
  have i1 : (t.impls.length : Int) ≤ 60 := by omega
  have i3 : (t.members.length : Int) ≤ 60 := by omega
  refine wp_region_G (fun w' => w'.cell? ⟨w.heap.size, 2, none⟩ = some (.slice A1 t.impls.length c1) ∧ w'.cell? ⟨w.heap.size, 4, none⟩ = some (.slice A3 t.members.length c3)) (fun j => decide (j < 6)) (by kernel_rfl) (⟨HB.out.drew.at2, HB.out.drew.at4⟩) (fun hS => ?_)
  refine wpG_take 0 rfl (by kernel_rfl) (fun _ _ _ h => h) (by rfl) (fun w' hw => by go_simp; rfl) hS (fun _ => ?_)
  simp only [Act.put, List.setIfInBounds_toArray, List.set_cons_zero, List.set_cons_succ]
  refine wpG_load 1 rfl (by kernel_rfl) (fun _ _ _ h => h) (by rfl) rfl (v := .slice A1 t.impls.length c1) (fun w' hw => by have := hw.1; clear hw; go_simp) hS (fun _ => ?_)
  simp only [Act.put, List.setIfInBounds_toArray, List.set_cons_zero, List.set_cons_succ]
  refine wpG_take 3 rfl (by kernel_rfl) (fun _ _ _ h => h) (by rfl) (fun w' hw => by go_simp; rfl) hS (fun _ => ?_)
  simp only [Act.put, List.setIfInBounds_toArray, List.set_cons_zero, List.set_cons_succ]
  refine wpG_load 4 rfl (by kernel_rfl) (fun _ _ _ h => h) (by rfl) rfl (v := .slice A3 t.members.length c3) (fun w' hw => by have := hw.2; clear hw; go_simp) hS (fun _ => ?_)
  simp only [Act.put, List.setIfInBounds_toArray, List.set_cons_zero, List.set_cons_succ]
  refine wpG_one 2 rfl (by kernel_rfl) (by rfl) (fun K hK => ?_)
  go_simp
  refine (cloneS_any c1 ((H.out.1.below HB.out.below).drew) HB.out.below.size (by omega) (tx_one _)).mono ?_
  rintro e w1 ⟨B1, b1, rfl, hr1, hb1⟩
  have hb1' : Below W.heap.size W w1 := ⟨hb1.os, hb1.tape, hb1.output, hb1.size, hb1.block⟩
  have HB1 := hide (HB.out.more hb1')
  refine hK _ _ (fun _ => ⟨HB1.out.at2, HB1.out.at4⟩) (fun _ => ?_)
  have H1 := hide (And.intro hr1 hb1')
  clear hr1 hb1 hb1' hK K hS
  refine wpG_takeW 6 rfl (by kernel_rfl) (fun _ _ _ h => h) (by rfl) (fun w' => by go_simp; rfl) ?_
  simp only [Act.put, List.setIfInBounds_toArray, List.set_cons_zero, List.set_cons_succ]
  refine wpG_one 5 rfl (by kernel_rfl) (by rfl) (fun K hK => ?_)
  go_simp
  refine (cloneS_any c3 (H.out.2.1.below HB1.out.below) HB1.out.below.size (by omega) (tx_one _)).mono ?_
  rintro e w2 ⟨B3, b3, rfl, hr3, hb3⟩
  have HB2 := hide (HB1.out.more hb3)
  refine hK _ _ (fun _ => ⟨HB2.out.at2, HB2.out.at4⟩) (fun _ => ?_)
  have H2 := hide (And.intro hr3 hb3)
  clear hr3 hb3 hK K
  have g2 := HB2.out.at2
  have fr2 := HB2.out.fr 2
  refine wpG_one 7 rfl (by kernel_rfl) (by rfl) (fun K hK => ?_)
  go_simp
  refine hK _ _ (fun h => by simp at h) (fun _ => ?_)
  clear hK K g2 fr2
  obtain ⟨w3, hw3⟩ : ∃ w3, w3 = w2.setCell ⟨w.heap.size, 2, none⟩ (.slice B1 t.impls.length b1) := ⟨_, rfl⟩
  rw [← hw3]
  have HB3 := hide (HB2.out.set2 B1 b1)
  rw [← hw3] at HB3
  have HW3 := hide hw3
  clear hw3
  refine wpG_takeW 8 rfl (by kernel_rfl) (fun _ _ _ h => h) (by rfl) (fun w' => by go_simp; rfl) ?_
  simp only [Act.put, List.setIfInBounds_toArray, List.set_cons_zero, List.set_cons_succ]
  have g4 := HB3.out.at4
  have fr4 := HB3.out.fr 4
  refine wpG_one 9 rfl (by kernel_rfl) (by rfl) (fun K hK => ?_)
  go_simp
  refine hK _ _ (fun h => by simp at h) (fun _ => wpG_done (by kernel_rfl) ?_)
  clear hK K g4 fr4
  obtain ⟨w4, hw4⟩ : ∃ w4, w4 = w3.setCell ⟨w.heap.size, 4, none⟩ (.slice B3 t.members.length b3) := ⟨_, rfl⟩
  rw [← hw4]
  have HB4 := hide (HB3.out.set4 B3 b3)
  rw [← hw4] at HB4
  have hw3 := HW3.out
  have hk34 : ∀ b, From (w.heap.size + 2) w2 b → w4.heap[b]? = w2.heap[b]? := fun b hb => by
    rw [hw4, from_setCell w w3 4 _ b ⟨hb.1, by rw [hw3]; simpa using hb.2⟩, hw3, from_setCell w w2 2 _ b hb]
  have hs4 : w4.heap.size = w2.heap.size := by rw [hw4, hw3]; simp
  have hW2 : w.heap.size + 2 ≤ W.heap.size := HB.out.size
  have h1s := H1.out.2.size
  have h2s := H2.out.2.size
  have m1 : Sl w4 (From (w.heap.size + 2) w4) 1 B1 RS t.impls :=
    (rs_of_own (S := From (w.heap.size + 2) w1) H1.out.1 (fun b h1 h2 => ⟨Nat.le_trans hW2 h1, h2⟩)).map (fun b hb => ⟨hb.1, by have := hb.2; omega⟩) (fun b hb => by rw [hk34 b ⟨hb.1, by have := hb.2; omega⟩, H2.out.2.block b hb.2]) (fun _ _ h => h)
  have m3 : Sl w4 (From (w.heap.size + 2) w4) 1 B3 RS t.members :=
    (rs_of_own (S := From (w.heap.size + 2) w2) H2.out.1 (fun b h1 h2 => ⟨by omega, h2⟩)).map (fun b hb => ⟨hb.1, by have := hb.2; omega⟩) hk34 (fun _ _ h => h)
  have fm : Fr w4 (w.heap.size + 2) B3 := (fr_own H2.out.1 (by omega)).keep (fun b h1 h2 => hk34 b ⟨h1, h2⟩)
  have H4 := hide (And.intro m1 m3)
  have F4 := hide fm
  clear m1 m3 fm hk34 hw3 hw4 HW3
  have g5 := HB4.out.at5
  have fr5 := HB4.out.fr 5
  go_wp2_with fail
  refine (inputsOwn_any (S := S) (n := n) (l := t.inputs) c4 (H.out.2.2.2.2.2.2.1.map (fun _ h => h) (fun b hb => HB4.out.below.block b (H.out.2.2.2.2.2.1 b hb)) (RI.map (fun _ h => h) (fun b hb => HB4.out.below.block b (H.out.2.2.2.2.2.1 b hb)))) (fun b hb => Nat.lt_of_lt_of_le (H.out.2.2.2.2.2.1 b hb) HB4.out.below.size) H.out.2.2.2.2.2.2.2.1).mono ?_
  rintro e w5 ⟨B4, b4, rfl, hs5, hb5⟩
  have HB5 := hide (HB4.out.more hb5)
  have H5 := hide (And.intro hs5 hb5)
  clear hs5 hb5 g5 fr5
  have g5 := HB5.out.at5
  have fr5 := HB5.out.fr 5
  have g3 := HB5.out.at3
  go_wp2_with fail
  obtain ⟨w6, hw6⟩ : ∃ w6, w6 = w5.setCell ⟨w.heap.size, 5, none⟩ (.slice B4 t.inputs.length b4) := ⟨_, rfl⟩
  rw [← hw6]
  have HB6 := hide (HB5.out.set5 B4 b4)
  rw [← hw6] at HB6
  have hk56 : ∀ b, From (w.heap.size + 2) w5 b → w6.heap[b]? = w5.heap[b]? := fun b hb => by rw [hw6, from_setCell w w5 5 _ b hb]
  have hs6 : w6.heap.size = w5.heap.size := by rw [hw6]; simp
  have h5s := H5.out.2.size
  have k45 : ∀ b, From (w.heap.size + 2) w4 b → w6.heap[b]? = w4.heap[b]? := fun b hb => by rw [hk56 b ⟨hb.1, by have := hb.2; omega⟩, H5.out.2.block b hb.2]
  have f46 : ∀ b, From (w.heap.size + 2) w4 b → From (w.heap.size + 2) w6 b := fun b hb => ⟨hb.1, by have := hb.2; omega⟩
  have f56 : ∀ b, New w4 w5 b → From (w.heap.size + 2) w6 b := fun b hb => ⟨by have := hb.1; omega, by have := hb.2; omega⟩
  have k56 : ∀ b, New w4 w5 b → w6.heap[b]? = w5.heap[b]? := fun b hb => hk56 b ⟨by have := hb.1; omega, hb.2⟩
  have H6 := hide (And.intro (H4.out.1.map f46 k45 (fun _ _ h => h)) (And.intro (H4.out.2.map f46 k45 (fun _ _ h => h)) (H5.out.1.map f56 k56 (RI.map f56 k56))))
  have F6 := hide (F4.out.keep (fun b h1 h2 => k45 b ⟨h1, h2⟩))
  clear hw6 g5 fr5 g3 hk56 k45 f46 f56 k56
  refine (cloneF_any c2 (H.out.2.2.1.below HB6.out.below) HB6.out.below.size (by omega) H.out.2.2.2.1).mono ?_
  rintro e w7 ⟨B2, b2, rfl, hr7, hb7⟩
  have HB7 := hide (HB6.out.more hb7)
  have H7 := hide (And.intro hr7 hb7)
  have h7s := hb7.size
  have h6s := HB6.out.size
  clear hr7 hb7
  have g3 := HB7.out.at3
  have fr3 := HB7.out.fr 3
  go_wp2_with fail
  obtain ⟨w8, hw8⟩ : ∃ w8, w8 = w7.setCell ⟨w.heap.size, 3, none⟩ (.slice B2 t.fields.length b2) := ⟨_, rfl⟩
  rw [← hw8]
  have HB8 := hide (HB7.out.set3 B2 b2)
  rw [← hw8] at HB8
  have hs8 : w8.heap.size = w7.heap.size := by rw [hw8]; simp
  have k78 : ∀ b, From (w.heap.size + 2) w7 b → w8.heap[b]? = w7.heap[b]? := fun b hb => by rw [hw8, from_setCell w w7 3 _ b hb]
  have r8 := owns_base (owns_setCell_off (.slice B2 t.fields.length b2) H7.out.1 (b := w.heap.size) (o := 3) (by omega)) h6s
  rw [← hw8] at r8
  have k68 : ∀ b, From (w.heap.size + 2) w6 b → w8.heap[b]? = w6.heap[b]? := fun b hb => by rw [k78 b ⟨hb.1, by have := hb.2; omega⟩, H7.out.2.block b hb.2]
  have f68 : ∀ b, From (w.heap.size + 2) w6 b → From (w.heap.size + 2) w8 b ∧ B2 ≠ some ⟨b, 0, none⟩ := fun b hb => ⟨⟨hb.1, by have := hb.2; omega⟩, fun e => by subst e; have := (H7.out.1.lt b rfl).1; have := hb.2; omega⟩
  have H8 := hide (And.intro (H6.out.1.map f68 k68 (fun _ _ h => h)) (And.intro (H6.out.2.1.map f68 k68 (fun _ _ h => h)) (And.intro (H6.out.2.2.map f68 k68 (RI.map f68 k68)) r8)))
  have F8 := hide (F6.out.keep (fun b h1 h2 => k68 b ⟨h1, h2⟩))
  have E8 := hide (show ∀ b o, B3 = some ⟨b, o, none⟩ → b < w8.heap.size ∧ B2 ≠ some ⟨b, 0, none⟩ from fun b o hb => (f68 b ⟨(F6.out b o hb).1, F6.out.lt hb⟩ |> fun q => ⟨q.1.2, q.2⟩))
  clear hw8 g3 fr3 k78 k68 f68 r8
  have g3 := HB8.out.at3
  go_wp2_with fail
  go_loopw [23] (fun i wr => ∃ k : Nat, k ≤ t.fields.length ∧ i = .int .i64 k ∧ Hid (∃ x1, FdL w w8 n t l2 B1 B2 B3 B4 b1 b2 b3 b4 k x1 wr)) (fun i _ => t.fields.length - (intOf i).toNat)
  case atStart => exact ⟨0, Nat.zero_le _, rfl, hide ⟨l2, ⟨HB8.out, H8.out.2.2.2, fun _ _ _ => rfl, Nat.le_refl _, fun g hg _ => by subst hg; exact (H8.out.2.2.2.lt g rfl).2, fun j x hj => by omega, fun j _ => rfl⟩⟩⟩
  case round =>
    obtain ⟨k, hk, rfl, HR⟩ := hrel
    obtain ⟨x1, hR⟩ := HR.out
    clear HR g3
    have g3 := hR.b.at3
    by_cases hlt : k < t.fields.length
    · obtain ⟨g, rfl, hg, hgl⟩ := owns_addr hR.row (by omega)
      have hxk : t.fields[k]? = some t.fields[k] := List.getElem?_eq_getElem hlt
      obtain ⟨f, hf⟩ : ∃ f, f = t.fields[k] := ⟨_, rfl⟩
      have hfew := H.out.2.2.2.2.2.2.2.2 _ (List.getElem_mem hlt)
      rw [← hf] at hxk hfew
      obtain ⟨B, cb, hcv, hSl⟩ := H.out.2.2.2.2.1 k _ hxk
      have hrg := owns_range hR.row k
      rw [hR.todo k (Nat.le_refl _), hcv] at hrg
      have hc1 : wr.cell? ⟨g, k * 4 + 1, none⟩ = some (.slice B f.args.length cb) := hrg 1 _ rfl
      have hSr : ∀ b, S b → b < wr.heap.size := fun b hb => Nat.lt_of_lt_of_le (H.out.2.2.2.2.2.1 b hb) hR.b.below.size
      have hSl' : Sl wr.drew S 9 B (RI wr.drew S n) f.args := hSl.map (w' := wr.drew) (fun _ h => h) (fun b hb => hR.b.below.block b (H.out.2.2.2.2.2.1 b hb)) (RI.map (w' := wr.drew) (fun _ h => h) (fun b hb => hR.b.below.block b (H.out.2.2.2.2.2.1 b hb)))
      have HK := hide (And.intro hR (And.intro hxk (And.intro hcv (And.intro hSl' (And.intro hSr hfew.2.2)))))
      clear hR hg hxk hcv hrg hSr hfew hSl hSl' hf
      go_wp2_with fail
      refine wp_region_G (fun w' => w'.cell? ⟨w.heap.size, 3, none⟩ = some (.slice (some ⟨g, 0, none⟩) t.fields.length b2) ∧ w'.cell? ⟨g, k * 4 + 1, none⟩ = some (.slice B f.args.length cb)) (fun j => decide (j < 10)) (by kernel_rfl) (⟨by simpa using g3, by simpa using hc1⟩) (fun hS => ?_)
      refine wpG_take 0 rfl (by kernel_rfl) (fun _ _ _ h => h) (by rfl) (fun w' hw => by go_simp; rfl) hS (fun _ => ?_)
      simp only [Act.put, List.setIfInBounds_toArray, List.set_cons_zero, List.set_cons_succ]
      refine wpG_load 1 rfl (by kernel_rfl) (fun _ _ _ h => h) (by rfl) rfl (v := .slice (some ⟨g, 0, none⟩) t.fields.length b2) (fun w' hw => by have := hw.1; clear hw; go_simp) hS (fun _ => ?_)
      simp only [Act.put, List.setIfInBounds_toArray, List.set_cons_zero, List.set_cons_succ]
      refine wpG_take 2 rfl (by kernel_rfl) (fun _ _ _ h => h) (by rfl) (fun w' hw => by go_simp; rfl) hS (fun _ => ?_)
      simp only [Act.put, List.setIfInBounds_toArray, List.set_cons_zero, List.set_cons_succ]
      refine wpG_take 3 rfl (by kernel_rfl) (fun _ _ _ h => h) (by rfl) (fun w' hw => by go_simp; rfl) hS (fun _ => ?_)
      simp only [Act.put, List.setIfInBounds_toArray, List.set_cons_zero, List.set_cons_succ]
      refine wpG_load 4 rfl (by kernel_rfl) (fun _ _ _ h => h) (by rfl) rfl (v := .slice (some ⟨g, 0, none⟩) t.fields.length b2) (fun w' hw => by have := hw.1; clear hw; go_simp) hS (fun _ => ?_)
      simp only [Act.put, List.setIfInBounds_toArray, List.set_cons_zero, List.set_cons_succ]
      refine wpG_take 5 rfl (by kernel_rfl) (fun _ _ _ h => h) (by rfl) (fun w' hw => by go_simp; rfl) hS (fun _ => ?_)
      simp only [Act.put, List.setIfInBounds_toArray, List.set_cons_zero, List.set_cons_succ]
      refine wpG_index 6 rfl (by kernel_rfl) (fun _ _ _ h => h) (by rfl) rfl rfl rfl Try.underlying32 Try.sizeF hlt hS (fun _ => ?_)
      simp only [Act.put, List.setIfInBounds_toArray, List.set_cons_zero, List.set_cons_succ]
      refine wpG_take 7 rfl (by kernel_rfl) (fun _ _ _ h => h) (by rfl) (fun w' hw => by go_simp; rfl) hS (fun _ => ?_)
      simp only [Act.put, List.setIfInBounds_toArray, List.set_cons_zero, List.set_cons_succ]
      refine wpG_load 8 rfl (by kernel_rfl) (fun _ _ _ h => h) (by rfl) rfl (v := .slice B f.args.length cb) (fun w' hw => by have := hw.2; clear hw; go_simp) hS (fun _ => ?_)
      simp only [Act.put, List.setIfInBounds_toArray, List.set_cons_zero, List.set_cons_succ]
      refine wpG_one 9 rfl (by kernel_rfl) (by rfl) (fun K hK => ?_)
      go_simp
      refine (inputsOwn_any cb HK.out.2.2.2.1 HK.out.2.2.2.2.1 HK.out.2.2.2.2.2).mono ?_
      rintro e w2' ⟨B', cb', rfl, hs2, hb2⟩
      have hb2' : Below wr.heap.size wr w2' := ⟨hb2.os, hb2.tape, hb2.output, hb2.size, hb2.block⟩
      have hbx : w.heap.size < wr.heap.size := lt_of_block HK.out.1.b.box
      have q3 := (hb2'.cell hbx (p := ⟨w.heap.size, 3, none⟩)).trans g3
      have qc := (hb2'.cell hgl (p := ⟨g, k * 4 + 1, none⟩)).trans hc1
      have hfr : w2'.frozen? ⟨g, k * 4 + 1, none⟩ = false := (owns_below HK.out.1.row hb2' (fun g hg => (HK.out.1.row.lt g hg).2)).frozenAt _
      refine hK _ _ (fun _ => ⟨q3, qc⟩) (fun _ => ?_)
      have HM := hide (And.intro hs2 hb2')
      clear hs2 hb2 hb2' hK K hS
      refine wpG_indexW 10 rfl (by kernel_rfl) (fun _ _ _ h => h) (by rfl) rfl rfl rfl Try.underlying32 Try.sizeF hlt ?_
      simp only [Act.put, List.setIfInBounds_toArray, List.set_cons_zero, List.set_cons_succ]
      refine wpG_takeW 11 rfl (by kernel_rfl) (fun _ _ _ h => h) (by rfl) (fun w' => by go_simp; rfl) ?_
      simp only [Act.put, List.setIfInBounds_toArray, List.set_cons_zero, List.set_cons_succ]
      refine wpG_one 12 rfl (by kernel_rfl) (by rfl) (fun K hK => ?_)
      go_simp
      refine hK _ _ (fun h => by simp at h) (fun _ => wpG_done (by kernel_rfl) ?_)
      have HZ := hide (HK.out.1.step (cb' := cb') hlt HK.out.2.1 HK.out.2.2.1 HM.out.1 HM.out.2)
      obtain ⟨w3', hw3'⟩ : ∃ w3', w3' = w2'.setCell ⟨g, k * 4 + 1, none⟩ (.slice B' f.args.length cb') := ⟨_, rfl⟩
      rw [← hw3'] at HZ ⊢
      clear hw3' hK K q3 qc hfr g3 hc1
      go_wp2
      go_roundw
      case rel => exact ⟨k + 1, by omega, by go_num, hide ⟨_, HZ.out⟩⟩
      case measure => simp [intOf]; omega
    · have hkn : k = t.fields.length := by omega
      obtain ⟨co, hco, hcos⟩ := hR.b.out
      have hbl := hR.b.below
      have hext := hR.ext
      have hRT : RT wr (fun b => New w wr b ∧ b ≠ w.heap.size + 1) n t [.int .i64 t.kind, tx t.name, .slice B1 t.impls.length b1, .slice B2 t.fields.length b2, .slice B3 t.members.length b3, .slice B4 t.inputs.length b4, .int .i64 t.pos] := by
        have hin : ∀ b, From (w.heap.size + 2) w8 b ∧ B2 ≠ some ⟨b, 0, none⟩ → New w wr b ∧ b ≠ w.heap.size + 1 := fun b hb => ⟨⟨by have := hb.1.1; omega, by have := hb.1.2; omega⟩, by have := hb.1.1; omega⟩
        have hw : ∀ b, From (w.heap.size + 2) w8 b ∧ B2 ≠ some ⟨b, 0, none⟩ → wr.heap[b]? = w8.heap[b]? := fun b hb => hR.old b hb.1 hb.2
        have hin2 : ∀ b, From w8.heap.size wr b → New w wr b ∧ b ≠ w.heap.size + 1 := fun b hb => ⟨⟨by have := hb.1; omega, hb.2⟩, by have := hb.1; omega⟩
        refine ⟨B1, b1, B2, b2, B3, b3, B4, b4, rfl, H8.out.1.map hin hw (fun _ _ h => h), Sl.of_own hR.row rfl (fun g hg => ?_) (fun j x hx => ?_), H8.out.2.1.map hin hw (fun _ _ h => h), H8.out.2.2.1.map hin hw (RI.map hin hw)⟩
        · subst hg; have := hR.row.lt g rfl; exact ⟨⟨by omega, this.2⟩, by omega⟩
        · exact RF.map hin2 (fun _ _ => rfl) _ _ (hR.done j x (by rw [hkn]; exact (List.getElem?_eq_some_iff.1 hx).1) hx)
      have FM := hide (show Fr wr (w.heap.size + 2) B3 from fun b o hb => by
        obtain ⟨h1, h2⟩ := E8.out b o hb
        obtain ⟨h3, c', t', h4⟩ := F8.out b o hb
        exact ⟨h3, c', t', by rw [hR.old b ⟨h3, h1⟩ h2]; exact h4⟩)
      have FF := hide (fr_own hR.row (Nat.le_refl _))
      obtain ⟨cf, hcf⟩ : ∃ cf : List Value, cf = [.int .i64 t.kind, tx t.name, .slice B1 t.impls.length b1, .slice B2 t.fields.length b2, .slice B3 t.members.length b3, .slice B4 t.inputs.length b4, .int .i64 t.pos] := ⟨_, rfl⟩
      have hrb : wr.rangeAt w.heap.size 0 cf := fun j u hu => by
        rw [cell_of_row _ _ _ _ _ _ hR.b.box, Nat.zero_add]
        rw [hcf] at hu
        simpa using hu
      have hcl : cf.length = 7 := by rw [hcf]; rfl
      have HC3 := hide (show cf[3]? = some (.slice B2 t.fields.length b2) by rw [hcf]; rfl)
      have HC4 := hide (show cf[4]? = some (.slice B3 t.members.length b3) by rw [hcf]; rfl)
      rw [← hcf] at hRT
      have HF := hide (And.intro hrb (And.intro hcl (And.intro hco (And.intro hcos (And.intro hRT hbl)))))
      clear hrb hcl hco hcos hRT hbl hcf hR g3 hkn
      go_wp2_with (first
        | ((with_reducible show wpList _ _ _ ({ dst := _, op := .load 35 _, type := _, pos := _, after := _, guard := _ } :: _) _ _); refine wpList_loadE rfl HF.out.1 Try.underlying35 rfl (by rw [Try.sizeT, HF.out.2.1]) rfl ?_)
        | ((with_reducible show wpList _ _ _ ({ dst := _, op := .store 35 _ _, type := _, pos := _, after := _, guard := _ } :: _) _ _); refine wpList_store_row rfl 35 _ _ rfl (w.heap.size + 1) cf.toArray rfl rfl 35 co HF.out.2.2.1 (by rw [Try.sizeT]; simp [HF.out.2.1]) (by simp [HF.out.2.1, HF.out.2.2.2.1]) (all_oneCell_toArray HF.out.2.2.2.2.1.one) ?_))
      have hnw : (wr.setRow (w.heap.size + 1) cf.toArray).heap[w.heap.size + 1]? = some (.cells cf.toArray 35 (0, 0)) := setRow_heap _ _ _ _ _ _ HF.out.2.2.1
      refine bodyPost_ret (v := .agg cf.toArray) (results_cell_row Try.results25 _ _ (w.heap.size + 1) 35 cf.toArray (0, 0) _ rfl hnw Try.underlying35 rfl (by rw [Try.sizeT]; simp [HF.out.2.1])) rfl ⟨B2, b2, B3, b3, cf, rfl, ?_, ?_, HC3.out, HC4.out, ?_, ?_⟩
      · refine RT.map (fun b hb => ⟨hb.1.1, by simpa using hb.1.2⟩) (fun b hb => setRow_other _ _ _ _ hb.2) _ _ HF.out.2.2.2.2.1
      · exact below_setRow HF.out.2.2.2.2.2 (by omega) _
      · exact FF.out.keep (fun b h1 _ => setRow_other _ _ _ _ (by omega))
      · exact FM.out.keep (fun b h1 _ => setRow_other _ _ _ _ (by omega))
end Go.Proofs.Ytlpmnnkijdbopaa
