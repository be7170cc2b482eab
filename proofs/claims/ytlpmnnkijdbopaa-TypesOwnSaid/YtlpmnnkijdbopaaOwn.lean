/-
  The walk of own: a type with memory of its own.
-/
import Derived.Test.YtlpmnnkijdbopaaInputs
namespace Go.Proofs.Ytlpmnnkijdbopaa
open Go.RowKit

def OwnPost (w : World) (n : Nat) (t : Td) (e : Ending) (w' : World) : Prop := ∃ cs, e = .returned (.agg cs.toArray) ∧ RT w' (New w w') n t cs ∧ Below w.heap.size w w'
theorem rs_of_own {w : World} {base n c : Nat} {e : TypeId} {A : Option Addr} {l : List Bs} {S : Nat → Prop} (h : w.ownsRow base e 1 (.slice A n c) n (l.map tx)) (hS : ∀ b, base ≤ b → b < w.heap.size → S b) : Sl w S 1 A RS l := by
  have hn : l.length = n := by have := h.1; simpa using this
  refine Sl.of_own h hn (fun g' hg => by subst hg; have := h.lt g' rfl; exact hS g' this.1 this.2) (fun j x hx => ?_)
  unfold RS chunk
  have hj : j < l.length := (List.getElem?_eq_some_iff.1 hx).1
  rw [Nat.mul_one, ← List.map_drop, ← List.map_take]
  obtain ⟨_, e⟩ := List.getElem?_eq_some_iff.1 hx
  rw [List.drop_eq_getElem_cons hj, List.take_succ_cons, List.take_zero, List.map_cons, List.map_nil, e]
/-- blocks from B on that are there -/
def From (B : Nat) (w' : World) (b : Nat) : Prop := B ≤ b ∧ b < w'.heap.size
theorem keep_from {w w' : World} {B : Nat} (hb : ∀ b, B ≤ b → b < w.heap.size → w'.heap[b]? = w.heap[b]?) : ∀ b, From B w b → w'.heap[b]? = w.heap[b]? := fun b h => hb b h.1 h.2
/-- the copy's cells, and the block of the answer -/
structure OwnB (w : World) (t : Td) (a1 a2 a3 a4 : Option Addr) (d1 d2 d3 d4 : Nat) (wx : World) : Prop where
  below : Below w.heap.size w wx
  box : wx.heap[w.heap.size]? = some (.cells #[.int .i64 t.kind, tx t.name, .slice a1 t.impls.length d1, .slice a2 t.fields.length d2, .slice a3 t.members.length d3, .slice a4 t.inputs.length d4, .int .i64 t.pos] 35 (0, 0))
  out : ∃ c, wx.heap[w.heap.size + 1]? = some (.cells c 35 (0, 0)) ∧ c.size = 7
section
variable {w wx w' : World} {t : Td} {a1 a2 a3 a4 : Option Addr} {d1 d2 d3 d4 : Nat}
theorem OwnB.size (h : OwnB w t a1 a2 a3 a4 d1 d2 d3 d4 wx) : w.heap.size + 2 ≤ wx.heap.size := by
  obtain ⟨c, hc, _⟩ := h.out
  exact lt_of_block hc
theorem OwnB.more (h : OwnB w t a1 a2 a3 a4 d1 d2 d3 d4 wx) (hb : Below wx.heap.size wx w') : OwnB w t a1 a2 a3 a4 d1 d2 d3 d4 w' := by
  obtain ⟨c, hc, hcs⟩ := h.out
  exact ⟨h.below.trans (hb.mono h.below.size), by rw [hb.block _ (lt_of_block h.box)]; exact h.box, c, by rw [hb.block _ (lt_of_block hc)]; exact hc, hcs⟩
theorem OwnB.drew (h : OwnB w t a1 a2 a3 a4 d1 d2 d3 d4 wx) : OwnB w t a1 a2 a3 a4 d1 d2 d3 d4 wx.drew := ⟨h.below.drew, h.box, h.out⟩
theorem OwnB.set2 (h : OwnB w t a1 a2 a3 a4 d1 d2 d3 d4 wx) (a : Option Addr) (d : Nat) : OwnB w t a a2 a3 a4 d d2 d3 d4 (wx.setCell ⟨w.heap.size, 2, none⟩ (.slice a t.impls.length d)) := by
  obtain ⟨c, hc, hcs⟩ := h.out
  exact ⟨h.below.setCell (by simp) _, heap_setCell_same _ _ 2 _ _ _ h.box, c, by rw [heap_setCell_other _ _ _ _ (by simp)]; exact hc, hcs⟩
theorem OwnB.set3 (h : OwnB w t a1 a2 a3 a4 d1 d2 d3 d4 wx) (a : Option Addr) (d : Nat) : OwnB w t a1 a a3 a4 d1 d d3 d4 (wx.setCell ⟨w.heap.size, 3, none⟩ (.slice a t.fields.length d)) := by
  obtain ⟨c, hc, hcs⟩ := h.out
  exact ⟨h.below.setCell (by simp) _, heap_setCell_same _ _ 3 _ _ _ h.box, c, by rw [heap_setCell_other _ _ _ _ (by simp)]; exact hc, hcs⟩
theorem OwnB.set4 (h : OwnB w t a1 a2 a3 a4 d1 d2 d3 d4 wx) (a : Option Addr) (d : Nat) : OwnB w t a1 a2 a a4 d1 d2 d d4 (wx.setCell ⟨w.heap.size, 4, none⟩ (.slice a t.members.length d)) := by
  obtain ⟨c, hc, hcs⟩ := h.out
  exact ⟨h.below.setCell (by simp) _, heap_setCell_same _ _ 4 _ _ _ h.box, c, by rw [heap_setCell_other _ _ _ _ (by simp)]; exact hc, hcs⟩
theorem OwnB.set5 (h : OwnB w t a1 a2 a3 a4 d1 d2 d3 d4 wx) (a : Option Addr) (d : Nat) : OwnB w t a1 a2 a3 a d1 d2 d3 d (wx.setCell ⟨w.heap.size, 5, none⟩ (.slice a t.inputs.length d)) := by
  obtain ⟨c, hc, hcs⟩ := h.out
  exact ⟨h.below.setCell (by simp) _, heap_setCell_same _ _ 5 _ _ _ h.box, c, by rw [heap_setCell_other _ _ _ _ (by simp)]; exact hc, hcs⟩
theorem OwnB.at2 (h : OwnB w t a1 a2 a3 a4 d1 d2 d3 d4 wx) : wx.cell? ⟨w.heap.size, 2, none⟩ = some (.slice a1 t.impls.length d1) := by rw [cell_of_row _ _ _ _ _ _ h.box]; rfl
theorem OwnB.at3 (h : OwnB w t a1 a2 a3 a4 d1 d2 d3 d4 wx) : wx.cell? ⟨w.heap.size, 3, none⟩ = some (.slice a2 t.fields.length d2) := by rw [cell_of_row _ _ _ _ _ _ h.box]; rfl
theorem OwnB.at4 (h : OwnB w t a1 a2 a3 a4 d1 d2 d3 d4 wx) : wx.cell? ⟨w.heap.size, 4, none⟩ = some (.slice a3 t.members.length d3) := by rw [cell_of_row _ _ _ _ _ _ h.box]; rfl
theorem OwnB.at5 (h : OwnB w t a1 a2 a3 a4 d1 d2 d3 d4 wx) : wx.cell? ⟨w.heap.size, 5, none⟩ = some (.slice a4 t.inputs.length d4) := by rw [cell_of_row _ _ _ _ _ _ h.box]; rfl
theorem OwnB.fr (h : OwnB w t a1 a2 a3 a4 d1 d2 d3 d4 wx) (j : Nat) : wx.frozen? ⟨w.heap.size, j, none⟩ = false := frozen_of_row _ _ _ _ _ h.box
end
/-- what is apart from the copy's two blocks stays where a cell of the copy is set -/
theorem from_setCell (w0 w : World) (j : Nat) (u : Value) : ∀ b, From (w0.heap.size + 2) w b → (w.setCell ⟨w0.heap.size, j, none⟩ u).heap[b]? = w.heap[b]? := fun b hb => heap_setCell_other _ _ _ _ (by have := hb.1; simp; omega)
/-- the first k fields are new -/
structure FdL (w wx : World) (n : Nat) (t : Td) (l1 : List Value) (a1 A5 a3 a4 : Option Addr) (d1 c5 d3 d4 : Nat) (k : Nat) (x1 : List Value) (wr : World) : Prop where
  b : OwnB w t a1 A5 a3 a4 d1 c5 d3 d4 wr
  row : wr.ownsRow (w.heap.size + 2) 42 4 (.slice A5 t.fields.length c5) t.fields.length x1
  old : ∀ b, From (w.heap.size + 2) wx b → A5 ≠ some ⟨b, 0, none⟩ → wr.heap[b]? = wx.heap[b]?
  ext : wx.heap.size ≤ wr.heap.size
  lo : ∀ g, A5 = some ⟨g, 0, none⟩ → 0 < t.fields.length → g < wx.heap.size
  done : ∀ j x, j < k → t.fields[j]? = some x → RF wr (From wx.heap.size wr) n x (chunk 4 x1 j)
  todo : ∀ j, k ≤ j → chunk 4 x1 j = chunk 4 l1 j
theorem FdL.step {w wx wr w2 : World} {n g : Nat} {t : Td} {f : Fd} {l1 : List Value} {a1 a3 a4 B B' : Option Addr} {d1 c5 d3 d4 cb cb' k : Nat} {x1 : List Value} (h : FdL w wx n t l1 a1 (some ⟨g, 0, none⟩) a3 a4 d1 c5 d3 d4 k x1 wr) (hlt : k < t.fields.length)
    (hx : t.fields[k]? = some f) (he : chunk 4 l1 k = [tx f.name, .slice B f.args.length cb, tx f.typ, .int .i64 f.pos]) (hS : Sl w2 (New wr w2) 9 B' (RI w2 (New wr w2) n) f.args) (hb2 : Below wr.heap.size wr w2) :
    FdL w wx n t l1 a1 (some ⟨g, 0, none⟩) a3 a4 d1 c5 d3 d4 (k + 1) (putAt x1 (k * 4 + 1) [.slice B' f.args.length cb']) (w2.setCell ⟨g, k * 4 + 1, none⟩ (.slice B' f.args.length cb')) := by
  have hg := h.row.lt g rfl
  have hgx := h.lo g rfl (by omega)
  obtain ⟨hown, hg3⟩ := owns_setCells [.slice B' f.args.length cb'] (k * 4 + 1) w2 _ (owns_below h.row hb2 (fun g hg => (h.row.lt g hg).2))
  obtain ⟨w3, hw3⟩ : ∃ w3, w3 = w2.setCell ⟨g, k * 4 + 1, none⟩ (.slice B' f.args.length cb') := ⟨_, rfl⟩
  have e3 : w2.setCells g (k * 4 + 1) [.slice B' f.args.length cb'] = w3 := hw3.symm
  rw [e3] at hown hg3
  rw [← hw3]
  clear hw3 e3
  have hw : ∀ b, b < wr.heap.size → b ≠ g → w3.heap[b]? = wr.heap[b]? := fun b hb hne => by rw [hg3.block b (by have := hb2.size; omega) (by simpa using hne), hb2.block b hb]
  have hext := h.ext
  have h2s := hb2.size
  have h3s := hg3.size
  obtain ⟨c, hc, hcs⟩ := h.b.out
  have hl : k * 4 + 4 ≤ x1.length := by rw [h.row.1]; omega
  refine ⟨⟨?_, ?_, c, ?_, hcs⟩, hown, fun b hb hne => ?_, by omega, h.lo, fun j y hj hy => ?_, fun j hj => ?_⟩
  · exact (h.b.below.trans (hb2.mono h.b.below.size)).grown hg3 (by have := h.b.below.size; omega) (fun q hq => by injection hq with hq; omega)
  · rw [hw _ (lt_of_block h.b.box) (by omega)]; exact h.b.box
  · rw [hw _ (lt_of_block hc) (by omega)]; exact hc
  · rw [hw b (by have := hb.2; omega) (fun e => hne (by rw [e]))]; exact h.old b hb hne
  · rcases Nat.lt_or_ge j k with hjk | hjk
    · rw [chunk_put_midO (by simp) (by omega)]
      exact RF.map (fun b hb => ⟨hb.1, by have := hb.2; omega⟩) (fun b hb => hw b hb.2 (by have := hb.1; omega)) _ _ (h.done j y hjk hy)
    · have hjk : j = k := by omega
      subst hjk
      rw [hx] at hy
      injection hy with hy
      subst hy
      have he' : chunk 4 x1 j = [tx f.name] ++ ([.slice B f.args.length cb] ++ [tx f.typ, .int .i64 f.pos]) := (h.todo j (Nat.le_refl _)).trans he
      rw [chunk_put_mid (k := 4) (o := 1) (cv := [.slice B f.args.length cb]) (cs := [.slice B' f.args.length cb']) rfl rfl rfl hl he']
      have hin : ∀ b, New wr w2 b → From wx.heap.size w3 b := fun b hb => ⟨by have := hb.1; omega, by have := hb.2; omega⟩
      have hwn : ∀ b, New wr w2 b → w3.heap[b]? = w2.heap[b]? := fun b hb => hg3.block b hb.2 (by have := hb.1; simp; omega)
      exact ⟨B', cb', rfl, hS.map hin hwn (RI.map hin hwn)⟩
  · rw [chunk_put_midO (by simp) (by omega)]; exact h.todo j (by omega)
set_option maxRecDepth 20000 in
set_option maxHeartbeats 3200000 in
theorem own_any {S : Nat → Prop} {n : Nat} {t : Td} {cs : List Value} {w : World} (h : RT w S n t cs) (hS : ∀ b, S b → b < w.heap.size) (hf : FewT n t) :
    Calls Try.prog 25 #[.agg cs.toArray] w (OwnPost w n t) := by
  obtain ⟨A1, c1, A2, c2, A3, c3, A4, c4, e, s1, s2, s3, s4⟩ := h
  subst e
  obtain ⟨l2, r2, o2, e2⟩ := s2.flat (by decide) hS (fun _ _ h => h.one)
  have r1 := rs_rd s1 hS
  have r3 := rs_rd s3 hS
  obtain ⟨f0, ⟨f1, _⟩, ⟨f3, _⟩, ⟨f2, f2'⟩, f4⟩ := hf
  have H := hide (And.intro r1 (And.intro r3 (And.intro r2 (And.intro o2 (And.intro e2 (And.intro hS (And.intro s4 (And.intro f4 f2'))))))))
  clear r1 r3 r2 o2 e2 hS s1 s2 s3 s4 f4 f2' f0
  go_enter Try.func25, Try.ntmps25
  go_wp2_with fail
  obtain ⟨W, hW⟩ : ∃ W, W = (w.alloc (.cells #[.int .i64 t.kind, tx t.name, .slice A1 t.impls.length c1, .slice A2 t.fields.length c2, .slice A3 t.members.length c3, .slice A4 t.inputs.length c4, .int .i64 t.pos] 35)).alloc (.cells #[.int .i64 0, .string ⟨#[]⟩, .slice none 0 0, .slice none 0 0, .slice none 0 0, .slice none 0 0, .int .i64 0] 35) := ⟨_, rfl⟩
  rw [← hW]
  have hB : OwnB w t A1 A2 A3 A4 c1 c2 c3 c4 W := ⟨by rw [hW]; exact ((Below.refl _ w).alloc (Nat.le_refl _) _).alloc (by simp) _, by rw [hW]; exact heap_alloc2_old w _ _, _, by rw [hW]; exact heap_alloc2_new w _ _, rfl⟩
  have HB := hide hB
  clear hB hW
  have i1 : (t.impls.length : Int) ≤ 60 := by omega
  have i3 : (t.members.length : Int) ≤ 60 := by omega
  refine wp_region_G (fun w' => w'.cell? ⟨w.heap.size, 2, none⟩ = some (.slice A1 t.impls.length c1) ∧ w'.cell? ⟨w.heap.size, 4, none⟩ = some (.slice A3 t.members.length c3)) (fun j => decide (j < 6)) (by kernel_rfl) (⟨HB.out.drew.at2, HB.out.drew.at4⟩) (fun hS => ?_)
  refine wpG_take 0 rfl (by kernel_rfl) (fun _ _ _ h => h) (by rfl) (fun w' hw => by go_simp; rfl) hS (fun _ => ?_)
  simp only [Act.put, List.setIfInBounds_toArray, List.set_cons_zero, List.set_cons_succ]
  refine wpG_load 1 rfl (by kernel_rfl) (fun _ _ _ h => h) (by rfl) rfl (v := .slice A1 t.impls.length c1) (fun w' hw => by have := hw.1; clear hw; go_simp) hS (fun _ => ?_)
  simp only [Act.put, List.setIfInBounds_toArray, List.set_cons_zero, List.set_cons_succ]
  refine wpG_take 3 rfl (by kernel_rfl) (fun _ _ _ h => h) (by rfl) (fun w' hw => by go_simp; rfl) hS (fun _ => ?_)
  simp only [Act.put, List.setIfInBounds_toArray, List.set_cons_zero, List.set_cons_succ]
  refine wpG_load 4 rfl (by kernel_rfl) (fun _ _ _ h => h) (by rfl) rfl (v := .slice A3 t.members.length c3) (fun w' hw => by have := hw.2; clear hw; go_simp) hS (fun _ => ?_)
  simp only [Act.put, List.setIfInBounds_toArray, List.set_cons_zero, List.set_cons_succ]
  refine wpG_one 2 rfl (by kernel_rfl) (by rfl) (fun K hK => ?_)
  go_simp
  refine (cloneS_any c1 ((H.out.1.below HB.out.below).drew) HB.out.below.size (by omega) (tx_one _)).mono ?_
  rintro e w1 ⟨B1, b1, rfl, hr1, hb1⟩
  have hb1' : Below W.heap.size W w1 := ⟨hb1.os, hb1.tape, hb1.output, hb1.size, hb1.block⟩
  have HB1 := hide (HB.out.more hb1')
  refine hK _ _ (fun _ => ⟨HB1.out.at2, HB1.out.at4⟩) (fun _ => ?_)
  have H1 := hide (And.intro hr1 hb1')
  clear hr1 hb1 hb1' hK K hS
  refine wpG_takeW 6 rfl (by kernel_rfl) (fun _ _ _ h => h) (by rfl) (fun w' => by go_simp; rfl) ?_
  simp only [Act.put, List.setIfInBounds_toArray, List.set_cons_zero, List.set_cons_succ]
  refine wpG_one 5 rfl (by kernel_rfl) (by rfl) (fun K hK => ?_)
  go_simp
  refine (cloneS_any c3 (H.out.2.1.below HB1.out.below) HB1.out.below.size (by omega) (tx_one _)).mono ?_
  rintro e w2 ⟨B3, b3, rfl, hr3, hb3⟩
  have HB2 := hide (HB1.out.more hb3)
  refine hK _ _ (fun _ => ⟨HB2.out.at2, HB2.out.at4⟩) (fun _ => ?_)
  have H2 := hide (And.intro hr3 hb3)
  clear hr3 hb3 hK K
  have g2 := HB2.out.at2
  have fr2 := HB2.out.fr 2
  refine wpG_one 7 rfl (by kernel_rfl) (by rfl) (fun K hK => ?_)
  go_simp
  refine hK _ _ (fun h => by simp at h) (fun _ => ?_)
  clear hK K g2 fr2
  obtain ⟨w3, hw3⟩ : ∃ w3, w3 = w2.setCell ⟨w.heap.size, 2, none⟩ (.slice B1 t.impls.length b1) := ⟨_, rfl⟩
  rw [← hw3]
  have HB3 := hide (HB2.out.set2 B1 b1)
  rw [← hw3] at HB3
  have HW3 := hide hw3
  clear hw3
  refine wpG_takeW 8 rfl (by kernel_rfl) (fun _ _ _ h => h) (by rfl) (fun w' => by go_simp; rfl) ?_
  simp only [Act.put, List.setIfInBounds_toArray, List.set_cons_zero, List.set_cons_succ]
  have g4 := HB3.out.at4
  have fr4 := HB3.out.fr 4
  refine wpG_one 9 rfl (by kernel_rfl) (by rfl) (fun K hK => ?_)
  go_simp
  refine hK _ _ (fun h => by simp at h) (fun _ => wpG_done (by kernel_rfl) ?_)
  clear hK K g4 fr4
  obtain ⟨w4, hw4⟩ : ∃ w4, w4 = w3.setCell ⟨w.heap.size, 4, none⟩ (.slice B3 t.members.length b3) := ⟨_, rfl⟩
  rw [← hw4]
  have HB4 := hide (HB3.out.set4 B3 b3)
  rw [← hw4] at HB4
  have hw3 := HW3.out
  have hk34 : ∀ b, From (w.heap.size + 2) w2 b → w4.heap[b]? = w2.heap[b]? := fun b hb => by
    rw [hw4, from_setCell w w3 4 _ b ⟨hb.1, by rw [hw3]; simpa using hb.2⟩, hw3, from_setCell w w2 2 _ b hb]
  have hs4 : w4.heap.size = w2.heap.size := by rw [hw4, hw3]; simp
  have hW2 : w.heap.size + 2 ≤ W.heap.size := HB.out.size
  have h1s := H1.out.2.size
  have h2s := H2.out.2.size
  have m1 : Sl w4 (From (w.heap.size + 2) w4) 1 B1 RS t.impls :=
    (rs_of_own (S := From (w.heap.size + 2) w1) H1.out.1 (fun b h1 h2 => ⟨Nat.le_trans hW2 h1, h2⟩)).map (fun b hb => ⟨hb.1, by have := hb.2; omega⟩) (fun b hb => by rw [hk34 b ⟨hb.1, by have := hb.2; omega⟩, H2.out.2.block b hb.2]) (fun _ _ h => h)
  have m3 : Sl w4 (From (w.heap.size + 2) w4) 1 B3 RS t.members :=
    (rs_of_own (S := From (w.heap.size + 2) w2) H2.out.1 (fun b h1 h2 => ⟨by omega, h2⟩)).map (fun b hb => ⟨hb.1, by have := hb.2; omega⟩) hk34 (fun _ _ h => h)
  have H4 := hide (And.intro m1 m3)
  clear m1 m3 hk34 hw3 hw4 HW3
  have g5 := HB4.out.at5
  have fr5 := HB4.out.fr 5
  go_wp2_with fail
  refine (inputsOwn_any (S := S) (n := n) (l := t.inputs) c4 (H.out.2.2.2.2.2.2.1.map (fun _ h => h) (fun b hb => HB4.out.below.block b (H.out.2.2.2.2.2.1 b hb)) (RI.map (fun _ h => h) (fun b hb => HB4.out.below.block b (H.out.2.2.2.2.2.1 b hb)))) (fun b hb => Nat.lt_of_lt_of_le (H.out.2.2.2.2.2.1 b hb) HB4.out.below.size) H.out.2.2.2.2.2.2.2.1).mono ?_
  rintro e w5 ⟨B4, b4, rfl, hs5, hb5⟩
  have HB5 := hide (HB4.out.more hb5)
  have H5 := hide (And.intro hs5 hb5)
  clear hs5 hb5 g5 fr5
  have g5 := HB5.out.at5
  have fr5 := HB5.out.fr 5
  have g3 := HB5.out.at3
  go_wp2_with fail
  obtain ⟨w6, hw6⟩ : ∃ w6, w6 = w5.setCell ⟨w.heap.size, 5, none⟩ (.slice B4 t.inputs.length b4) := ⟨_, rfl⟩
  rw [← hw6]
  have HB6 := hide (HB5.out.set5 B4 b4)
  rw [← hw6] at HB6
  have hk56 : ∀ b, From (w.heap.size + 2) w5 b → w6.heap[b]? = w5.heap[b]? := fun b hb => by rw [hw6, from_setCell w w5 5 _ b hb]
  have hs6 : w6.heap.size = w5.heap.size := by rw [hw6]; simp
  have h5s := H5.out.2.size
  have k45 : ∀ b, From (w.heap.size + 2) w4 b → w6.heap[b]? = w4.heap[b]? := fun b hb => by rw [hk56 b ⟨hb.1, by have := hb.2; omega⟩, H5.out.2.block b hb.2]
  have f46 : ∀ b, From (w.heap.size + 2) w4 b → From (w.heap.size + 2) w6 b := fun b hb => ⟨hb.1, by have := hb.2; omega⟩
  have f56 : ∀ b, New w4 w5 b → From (w.heap.size + 2) w6 b := fun b hb => ⟨by have := hb.1; omega, by have := hb.2; omega⟩
  have k56 : ∀ b, New w4 w5 b → w6.heap[b]? = w5.heap[b]? := fun b hb => hk56 b ⟨by have := hb.1; omega, hb.2⟩
  have H6 := hide (And.intro (H4.out.1.map f46 k45 (fun _ _ h => h)) (And.intro (H4.out.2.map f46 k45 (fun _ _ h => h)) (H5.out.1.map f56 k56 (RI.map f56 k56))))
  clear hw6 g5 fr5 g3 hk56 k45 f46 f56 k56
  refine (cloneF_any c2 (H.out.2.2.1.below HB6.out.below) HB6.out.below.size (by omega) H.out.2.2.2.1).mono ?_
  rintro e w7 ⟨B2, b2, rfl, hr7, hb7⟩
  have HB7 := hide (HB6.out.more hb7)
  have H7 := hide (And.intro hr7 hb7)
  have h7s := hb7.size
  have h6s := HB6.out.size
  clear hr7 hb7
  have g3 := HB7.out.at3
  have fr3 := HB7.out.fr 3
  go_wp2_with fail
  obtain ⟨w8, hw8⟩ : ∃ w8, w8 = w7.setCell ⟨w.heap.size, 3, none⟩ (.slice B2 t.fields.length b2) := ⟨_, rfl⟩
  rw [← hw8]
  have HB8 := hide (HB7.out.set3 B2 b2)
  rw [← hw8] at HB8
  have hs8 : w8.heap.size = w7.heap.size := by rw [hw8]; simp
  have k78 : ∀ b, From (w.heap.size + 2) w7 b → w8.heap[b]? = w7.heap[b]? := fun b hb => by rw [hw8, from_setCell w w7 3 _ b hb]
  have r8 := owns_base (owns_setCell_off (.slice B2 t.fields.length b2) H7.out.1 (b := w.heap.size) (o := 3) (by omega)) h6s
  rw [← hw8] at r8
  have k68 : ∀ b, From (w.heap.size + 2) w6 b → w8.heap[b]? = w6.heap[b]? := fun b hb => by rw [k78 b ⟨hb.1, by have := hb.2; omega⟩, H7.out.2.block b hb.2]
  have f68 : ∀ b, From (w.heap.size + 2) w6 b → From (w.heap.size + 2) w8 b ∧ B2 ≠ some ⟨b, 0, none⟩ := fun b hb => ⟨⟨hb.1, by have := hb.2; omega⟩, fun e => by subst e; have := (H7.out.1.lt b rfl).1; have := hb.2; omega⟩
  have H8 := hide (And.intro (H6.out.1.map f68 k68 (fun _ _ h => h)) (And.intro (H6.out.2.1.map f68 k68 (fun _ _ h => h)) (And.intro (H6.out.2.2.map f68 k68 (RI.map f68 k68)) r8)))
  clear hw8 g3 fr3 k78 k68 f68 r8
  have g3 := HB8.out.at3
  go_wp2_with fail
  go_loopw [23] (fun i wr => ∃ k : Nat, k ≤ t.fields.length ∧ i = .int .i64 k ∧ Hid (∃ x1, FdL w w8 n t l2 B1 B2 B3 B4 b1 b2 b3 b4 k x1 wr)) (fun i _ => t.fields.length - (intOf i).toNat)
  case atStart => exact ⟨0, Nat.zero_le _, rfl, hide ⟨l2, ⟨HB8.out, H8.out.2.2.2, fun _ _ _ => rfl, Nat.le_refl _, fun g hg _ => by subst hg; exact (H8.out.2.2.2.lt g rfl).2, fun j x hj => by omega, fun j _ => rfl⟩⟩⟩
  case round =>
    obtain ⟨k, hk, rfl, HR⟩ := hrel
    obtain ⟨x1, hR⟩ := HR.out
    clear HR g3
    have g3 := hR.b.at3
    by_cases hlt : k < t.fields.length
    · obtain ⟨g, rfl, hg, hgl⟩ := owns_addr hR.row (by omega)
      have hxk : t.fields[k]? = some t.fields[k] := List.getElem?_eq_getElem hlt
      obtain ⟨f, hf⟩ : ∃ f, f = t.fields[k] := ⟨_, rfl⟩
      have hfew := H.out.2.2.2.2.2.2.2.2 _ (List.getElem_mem hlt)
      rw [← hf] at hxk hfew
      obtain ⟨B, cb, hcv, hSl⟩ := H.out.2.2.2.2.1 k _ hxk
      have hrg := owns_range hR.row k
      rw [hR.todo k (Nat.le_refl _), hcv] at hrg
      have hc1 : wr.cell? ⟨g, k * 4 + 1, none⟩ = some (.slice B f.args.length cb) := hrg 1 _ rfl
      have hSr : ∀ b, S b → b < wr.heap.size := fun b hb => Nat.lt_of_lt_of_le (H.out.2.2.2.2.2.1 b hb) hR.b.below.size
      have hSl' : Sl wr.drew S 9 B (RI wr.drew S n) f.args := hSl.map (w' := wr.drew) (fun _ h => h) (fun b hb => hR.b.below.block b (H.out.2.2.2.2.2.1 b hb)) (RI.map (w' := wr.drew) (fun _ h => h) (fun b hb => hR.b.below.block b (H.out.2.2.2.2.2.1 b hb)))
      have HK := hide (And.intro hR (And.intro hxk (And.intro hcv (And.intro hSl' (And.intro hSr hfew.2.2)))))
      clear hR hg hxk hcv hrg hSr hfew hSl hSl' hf
      go_wp2_with fail
      refine wp_region_G (fun w' => w'.cell? ⟨w.heap.size, 3, none⟩ = some (.slice (some ⟨g, 0, none⟩) t.fields.length b2) ∧ w'.cell? ⟨g, k * 4 + 1, none⟩ = some (.slice B f.args.length cb)) (fun j => decide (j < 10)) (by kernel_rfl) (⟨by simpa using g3, by simpa using hc1⟩) (fun hS => ?_)
      refine wpG_take 0 rfl (by kernel_rfl) (fun _ _ _ h => h) (by rfl) (fun w' hw => by go_simp; rfl) hS (fun _ => ?_)
      simp only [Act.put, List.setIfInBounds_toArray, List.set_cons_zero, List.set_cons_succ]
      refine wpG_load 1 rfl (by kernel_rfl) (fun _ _ _ h => h) (by rfl) rfl (v := .slice (some ⟨g, 0, none⟩) t.fields.length b2) (fun w' hw => by have := hw.1; clear hw; go_simp) hS (fun _ => ?_)
      simp only [Act.put, List.setIfInBounds_toArray, List.set_cons_zero, List.set_cons_succ]
      refine wpG_take 2 rfl (by kernel_rfl) (fun _ _ _ h => h) (by rfl) (fun w' hw => by go_simp; rfl) hS (fun _ => ?_)
      simp only [Act.put, List.setIfInBounds_toArray, List.set_cons_zero, List.set_cons_succ]
      refine wpG_take 3 rfl (by kernel_rfl) (fun _ _ _ h => h) (by rfl) (fun w' hw => by go_simp; rfl) hS (fun _ => ?_)
      simp only [Act.put, List.setIfInBounds_toArray, List.set_cons_zero, List.set_cons_succ]
      refine wpG_load 4 rfl (by kernel_rfl) (fun _ _ _ h => h) (by rfl) rfl (v := .slice (some ⟨g, 0, none⟩) t.fields.length b2) (fun w' hw => by have := hw.1; clear hw; go_simp) hS (fun _ => ?_)
      simp only [Act.put, List.setIfInBounds_toArray, List.set_cons_zero, List.set_cons_succ]
      refine wpG_take 5 rfl (by kernel_rfl) (fun _ _ _ h => h) (by rfl) (fun w' hw => by go_simp; rfl) hS (fun _ => ?_)
      simp only [Act.put, List.setIfInBounds_toArray, List.set_cons_zero, List.set_cons_succ]
      refine wpG_index 6 rfl (by kernel_rfl) (fun _ _ _ h => h) (by rfl) rfl rfl rfl Try.underlying32 Try.sizeF hlt hS (fun _ => ?_)
      simp only [Act.put, List.setIfInBounds_toArray, List.set_cons_zero, List.set_cons_succ]
      refine wpG_take 7 rfl (by kernel_rfl) (fun _ _ _ h => h) (by rfl) (fun w' hw => by go_simp; rfl) hS (fun _ => ?_)
      simp only [Act.put, List.setIfInBounds_toArray, List.set_cons_zero, List.set_cons_succ]
      refine wpG_load 8 rfl (by kernel_rfl) (fun _ _ _ h => h) (by rfl) rfl (v := .slice B f.args.length cb) (fun w' hw => by have := hw.2; clear hw; go_simp) hS (fun _ => ?_)
      simp only [Act.put, List.setIfInBounds_toArray, List.set_cons_zero, List.set_cons_succ]
      refine wpG_one 9 rfl (by kernel_rfl) (by rfl) (fun K hK => ?_)
      go_simp
      refine (inputsOwn_any cb HK.out.2.2.2.1 HK.out.2.2.2.2.1 HK.out.2.2.2.2.2).mono ?_
      rintro e w2' ⟨B', cb', rfl, hs2, hb2⟩
      have hb2' : Below wr.heap.size wr w2' := ⟨hb2.os, hb2.tape, hb2.output, hb2.size, hb2.block⟩
      have hbx : w.heap.size < wr.heap.size := lt_of_block HK.out.1.b.box
      have q3 := (hb2'.cell hbx (p := ⟨w.heap.size, 3, none⟩)).trans g3
      have qc := (hb2'.cell hgl (p := ⟨g, k * 4 + 1, none⟩)).trans hc1
      have hfr : w2'.frozen? ⟨g, k * 4 + 1, none⟩ = false := (owns_below HK.out.1.row hb2' (fun g hg => (HK.out.1.row.lt g hg).2)).frozenAt _
      refine hK _ _ (fun _ => ⟨q3, qc⟩) (fun _ => ?_)
      have HM := hide (And.intro hs2 hb2')
      clear hs2 hb2 hb2' hK K hS
      refine wpG_indexW 10 rfl (by kernel_rfl) (fun _ _ _ h => h) (by rfl) rfl rfl rfl Try.underlying32 Try.sizeF hlt ?_
      simp only [Act.put, List.setIfInBounds_toArray, List.set_cons_zero, List.set_cons_succ]
      refine wpG_takeW 11 rfl (by kernel_rfl) (fun _ _ _ h => h) (by rfl) (fun w' => by go_simp; rfl) ?_
      simp only [Act.put, List.setIfInBounds_toArray, List.set_cons_zero, List.set_cons_succ]
      refine wpG_one 12 rfl (by kernel_rfl) (by rfl) (fun K hK => ?_)
      go_simp
      refine hK _ _ (fun h => by simp at h) (fun _ => wpG_done (by kernel_rfl) ?_)
      have HZ := hide (HK.out.1.step (cb' := cb') hlt HK.out.2.1 HK.out.2.2.1 HM.out.1 HM.out.2)
      obtain ⟨w3', hw3'⟩ : ∃ w3', w3' = w2'.setCell ⟨g, k * 4 + 1, none⟩ (.slice B' f.args.length cb') := ⟨_, rfl⟩
      rw [← hw3'] at HZ ⊢
      clear hw3' hK K q3 qc hfr g3 hc1
      go_wp2
      go_roundw
      case rel => exact ⟨k + 1, by omega, by go_num, hide ⟨_, HZ.out⟩⟩
      case measure => simp [intOf]; omega
    · have hkn : k = t.fields.length := by omega
      obtain ⟨co, hco, hcos⟩ := hR.b.out
      have hbl := hR.b.below
      have hext := hR.ext
      have hRT : RT wr (fun b => New w wr b ∧ b ≠ w.heap.size + 1) n t [.int .i64 t.kind, tx t.name, .slice B1 t.impls.length b1, .slice B2 t.fields.length b2, .slice B3 t.members.length b3, .slice B4 t.inputs.length b4, .int .i64 t.pos] := by
        have hin : ∀ b, From (w.heap.size + 2) w8 b ∧ B2 ≠ some ⟨b, 0, none⟩ → New w wr b ∧ b ≠ w.heap.size + 1 := fun b hb => ⟨⟨by have := hb.1.1; omega, by have := hb.1.2; omega⟩, by have := hb.1.1; omega⟩
        have hw : ∀ b, From (w.heap.size + 2) w8 b ∧ B2 ≠ some ⟨b, 0, none⟩ → wr.heap[b]? = w8.heap[b]? := fun b hb => hR.old b hb.1 hb.2
        have hin2 : ∀ b, From w8.heap.size wr b → New w wr b ∧ b ≠ w.heap.size + 1 := fun b hb => ⟨⟨by have := hb.1; omega, hb.2⟩, by have := hb.1; omega⟩
        refine ⟨B1, b1, B2, b2, B3, b3, B4, b4, rfl, H8.out.1.map hin hw (fun _ _ h => h), Sl.of_own hR.row rfl (fun g hg => ?_) (fun j x hx => ?_), H8.out.2.1.map hin hw (fun _ _ h => h), H8.out.2.2.1.map hin hw (RI.map hin hw)⟩
        · subst hg; have := hR.row.lt g rfl; exact ⟨⟨by omega, this.2⟩, by omega⟩
        · exact RF.map hin2 (fun _ _ => rfl) _ _ (hR.done j x (by rw [hkn]; exact (List.getElem?_eq_some_iff.1 hx).1) hx)
      obtain ⟨cf, hcf⟩ : ∃ cf : List Value, cf = [.int .i64 t.kind, tx t.name, .slice B1 t.impls.length b1, .slice B2 t.fields.length b2, .slice B3 t.members.length b3, .slice B4 t.inputs.length b4, .int .i64 t.pos] := ⟨_, rfl⟩
      have hrb : wr.rangeAt w.heap.size 0 cf := fun j u hu => by
        rw [cell_of_row _ _ _ _ _ _ hR.b.box, Nat.zero_add]
        rw [hcf] at hu
        simpa using hu
      have hcl : cf.length = 7 := by rw [hcf]; rfl
      rw [← hcf] at hRT
      have HF := hide (And.intro hrb (And.intro hcl (And.intro hco (And.intro hcos (And.intro hRT hbl)))))
      clear hrb hcl hco hcos hRT hbl hcf hR g3 hkn
      go_wp2_with (first
        | ((with_reducible show wpList _ _ _ ({ dst := _, op := .load 35 _, type := _, pos := _, after := _, guard := _ } :: _) _ _); refine wpList_loadE rfl HF.out.1 Try.underlying35 rfl (by rw [Try.sizeT, HF.out.2.1]) rfl ?_)
        | ((with_reducible show wpList _ _ _ ({ dst := _, op := .store 35 _ _, type := _, pos := _, after := _, guard := _ } :: _) _ _); refine wpList_store_row rfl 35 _ _ rfl (w.heap.size + 1) cf.toArray rfl rfl 35 co HF.out.2.2.1 (by rw [Try.sizeT]; simp [HF.out.2.1]) (by simp [HF.out.2.1, HF.out.2.2.2.1]) (all_oneCell_toArray HF.out.2.2.2.2.1.one) ?_))
      have hnw : (wr.setRow (w.heap.size + 1) cf.toArray).heap[w.heap.size + 1]? = some (.cells cf.toArray 35 (0, 0)) := setRow_heap _ _ _ _ _ _ HF.out.2.2.1
      refine bodyPost_ret (v := .agg cf.toArray) (results_cell_row Try.results25 _ _ (w.heap.size + 1) 35 cf.toArray (0, 0) _ rfl hnw Try.underlying35 rfl (by rw [Try.sizeT]; simp [HF.out.2.1])) rfl ⟨cf, rfl, ?_, ?_⟩
      · refine RT.map (fun b hb => ⟨hb.1.1, by simpa using hb.1.2⟩) (fun b hb => setRow_other _ _ _ _ hb.2) _ _ HF.out.2.2.2.2.1
      · exact below_setRow HF.out.2.2.2.2.2 (by omega) _
end Go.Proofs.Ytlpmnnkijdbopaa
