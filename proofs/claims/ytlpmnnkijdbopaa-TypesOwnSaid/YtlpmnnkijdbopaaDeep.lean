/-
  The walk of deep: a value with memory of its own.
-/
import Derived.Test.YtlpmnnkijdbopaaFewT
import Derived.Test.YtlpmnnkijdbopaaDraw
import Derived.Deep.DeepCutAuto
import Derived.Outline
namespace Go.Proofs.Ytlpmnnkijdbopaa
open Go.RowKit

/-- blocks that the call has made -/
def New (w w' : World) (b : Nat) : Prop := w.heap.size ≤ b ∧ b < w'.heap.size
def DeepPost (w : World) (n : Nat) (v : V) (e : Ending) (w' : World) : Prop := ∃ cs, e = .returned (.agg cs.toArray) ∧ RV w' (New w w') n v cs ∧ Below w.heap.size w w'
theorem bcell {W w1 : World} (hb : Below W.heap.size W w1) : (∀ b o, b < W.heap.size → w1.cell? ⟨b, o, none⟩ = W.cell? ⟨b, o, none⟩) ∧ (∀ b o, b < W.heap.size → w1.frozen? ⟨b, o, none⟩ = W.frozen? ⟨b, o, none⟩) :=
  ⟨fun b o h => hb.cell (p := ⟨b, o, none⟩) h, fun b o h => hb.frozen (p := ⟨b, o, none⟩) h⟩
/-- what stands behind the two copies -/
structure Deep1 (w : World) (v : V) (l1 l2 : List Value) (A5 : Option Addr) (c5 : Nat) (A6 : Option Addr) (c6 : Nat) (wx : World) : Prop where
  below : Below w.heap.size w wx
  box : wx.heap[w.heap.size]? = some (.cells #[.int .i64 v.kind, tx v.text, .slice A5 v.items.length c5, .slice A6 v.fields.length c6, .int .i64 v.pos] 67 (0, 0))
  out : ∃ c, wx.heap[w.heap.size + 1]? = some (.cells c 67 (0, 0)) ∧ c.size = 5
  items : wx.ownsRow (w.heap.size + 2) 67 5 (.slice A5 v.items.length c5) v.items.length l1
  fields : wx.ownsRow (w.heap.size + 2) 116 7 (.slice A6 v.fields.length c6) v.fields.length l2
theorem owns_base {w : World} {base base' k n : Nat} {e : TypeId} {v : Value} {xs : List Value} (h : w.ownsRow base e k v n xs) (hb : base' ≤ base) : w.ownsRow base' e k v n xs := by
  refine ⟨h.1, ?_⟩
  rcases h.2 with hn | ⟨g, cap, cur, rfl, hbg, rest⟩
  · exact .inl hn
  · exact .inr ⟨g, cap, cur, rfl, by omega, rest⟩
theorem owns_setCell_off {w : World} {base k n : Nat} {e : TypeId} {v : Value} {xs : List Value} {b o : Nat} (u : Value) (h : w.ownsRow base e k v n xs) (hb : b < base) : (w.setCell ⟨b, o, none⟩ u).ownsRow base e k v n xs := by
  refine ⟨h.1, ?_⟩
  rcases h.2 with hn | ⟨g, cap, cur, rfl, hbg, hgg, rest⟩
  · exact .inl hn
  · exact .inr ⟨g, cap, cur, rfl, hbg, by rw [heap_setCell_other _ _ _ _ (by simp; omega)]; exact hgg, rest⟩
theorem deep1_of {w W w3 w4 : World} {v : V} {l1 l2 : List Value} {A1 A2 A5 A6 : Option Addr} {c1 c2 c5 c6 : Nat} {c : Array Value} (hb0 : Below w.heap.size w W) (hz : W.heap.size = w.heap.size + 2)
    (hg : W.heap[w.heap.size]? = some (.cells #[.int .i64 v.kind, tx v.text, .slice A1 v.items.length c1, .slice A2 v.fields.length c2, .int .i64 v.pos] 67 (0, 0)))
    (hg1 : W.heap[w.heap.size + 1]? = some (.cells c 67 (0, 0))) (hc : c.size = 5)
    (hb3 : Below W.heap.size W w3) (hr3 : w3.ownsRow W.heap.size 67 5 (.slice A5 v.items.length c5) v.items.length l1)
    (hb4 : Below w3.heap.size w3 w4) (hr4 : w4.ownsRow w3.heap.size 116 7 (.slice A6 v.fields.length c6) v.fields.length l2) :
    Deep1 w v l1 l2 A5 c5 A6 c6 ((w4.setCell ⟨w.heap.size, 2, none⟩ (.slice A5 v.items.length c5)).setCell ⟨w.heap.size, 3, none⟩ (.slice A6 v.fields.length c6)) := by
  have h3 := hb3.size
  have hk : ∀ b, b < W.heap.size → w4.heap[b]? = W.heap[b]? := fun b hb => by rw [hb4.block b (by omega), hb3.block b hb]
  have hp : w4.heap[w.heap.size]? = _ := (hk _ (by omega)).trans hg
  refine ⟨?_, ?_, ⟨c, ?_, hc⟩, ?_, ?_⟩
  · exact (((hb0.trans (hb3.mono (by omega))).trans (hb4.mono (by omega))).setCell (by simp) _).setCell (by simp) _
  · have h1 := heap_setCell_same w4 w.heap.size 2 _ _ (.slice A5 v.items.length c5) hp
    have h2 := heap_setCell_same _ w.heap.size 3 _ _ (.slice A6 v.fields.length c6) h1
    exact h2
  · rw [heap_setCell_other _ _ _ _ (by simp), heap_setCell_other _ _ _ _ (by simp), hk _ (by omega)]
    exact hg1
  · exact owns_setCell_off _ (owns_setCell_off _ (owns_base (owns_below hr3 hb4 (fun g hg => (hr3.lt g hg).2)) (by omega)) (by omega)) (by omega)
  · exact owns_setCell_off _ (owns_setCell_off _ (owns_base hr4 (by omega)) (by omega)) (by omega)
theorem below_setRow {B g : Nat} {a w : World} (h : Below B a w) (hg : B ≤ g) (cs : Array Value) : Below B a (w.setRow g cs) :=
  h.trans ⟨rfl, rfl, rfl, by simp, fun k hk => setRow_other w g k cs (by omega)⟩
/-- blocks made between two worlds -/
def Btw (w w' : World) (b : Nat) : Prop := w.heap.size ≤ b ∧ b < w'.heap.size
/-- the first k items and the first m fields are new -/
structure DeepL (w wx : World) (n : Nat) (v : V) (l1 l2 : List Value) (A5 : Option Addr) (c5 : Nat) (A6 : Option Addr) (c6 : Nat) (k m : Nat) (x1 x2 : List Value) (wr : World) : Prop where
  d : Deep1 w v x1 x2 A5 c5 A6 c6 wr
  ext : wx.heap.size ≤ wr.heap.size
  lo5 : ∀ g, A5 = some ⟨g, 0, none⟩ → 0 < v.items.length → g < wx.heap.size
  lo6 : ∀ g, A6 = some ⟨g, 0, none⟩ → 0 < v.fields.length → g < wx.heap.size
  done1 : ∀ j x, j < k → v.items[j]? = some x → RV wr (Btw wx wr) n x (chunk 5 x1 j)
  todo1 : ∀ j, k ≤ j → chunk 5 x1 j = chunk 5 l1 j
  done2 : ∀ j x, j < m → v.fields[j]? = some x → RArg (RV wr (Btw wx wr) n) x (chunk 7 x2 j)
  todo2 : ∀ j, m ≤ j → chunk 7 x2 j = chunk 7 l2 j
theorem Deep1.lo5 {w wx : World} {v : V} {l1 l2 : List Value} {A5 A6 : Option Addr} {c5 c6 : Nat} (h : Deep1 w v l1 l2 A5 c5 A6 c6 wx) : ∀ g, A5 = some ⟨g, 0, none⟩ → 0 < v.items.length → g < wx.heap.size := fun g hg _ => by
  subst hg
  exact (h.items.lt g rfl).2
theorem Deep1.lo6 {w wx : World} {v : V} {l1 l2 : List Value} {A5 A6 : Option Addr} {c5 c6 : Nat} (h : Deep1 w v l1 l2 A5 c5 A6 c6 wx) : ∀ g, A6 = some ⟨g, 0, none⟩ → 0 < v.fields.length → g < wx.heap.size := fun g hg _ => by
  subst hg
  exact (h.fields.lt g rfl).2
theorem DeepL.start {w wx : World} {n : Nat} {v : V} {l1 l2 : List Value} {A5 A6 : Option Addr} {c5 c6 : Nat} (h : Deep1 w v l1 l2 A5 c5 A6 c6 wx) : DeepL w wx n v l1 l2 A5 c5 A6 c6 0 0 l1 l2 wx :=
  ⟨h, Nat.le_refl _, h.lo5, h.lo6, fun j x hj => by omega, fun j _ => rfl, fun j x hj => by omega, fun j _ => rfl⟩
theorem DeepL.step1 {w wx wr w2 w3 : World} {n g5 : Nat} {v x : V} {l1 l2 : List Value} {A6 : Option Addr} {c5 c6 k m : Nat} {x1 x2 cs : List Value} (h : DeepL w wx n v l1 l2 (some ⟨g5, 0, none⟩) c5 A6 c6 k m x1 x2 wr) (hlt : k < v.items.length)
    (hx : v.items[k]? = some x) (hRV : RV w2 (New wr w2) n x cs) (hb2 : Below wr.heap.size wr w2) (hown : w3.ownsRow (w.heap.size + 2) 67 5 (.slice (some ⟨g5, 0, none⟩) v.items.length c5) v.items.length (putAt x1 (k * 5) cs)) (hg3 : w2.grownBy w3 (some g5)) :
    DeepL w wx n v l1 l2 (some ⟨g5, 0, none⟩) c5 A6 c6 (k + 1) m (putAt x1 (k * 5) cs) x2 w3 := by
  have hg5 := (h.d.items.lt g5 rfl)
  have hgx := h.lo5 g5 rfl (by omega)
  have hw : ∀ b, b < wr.heap.size → b ≠ g5 → w3.heap[b]? = wr.heap[b]? := fun b hb hne => by rw [hg3.block b (by have := hb2.size; omega) (by simpa using hne), hb2.block b hb]
  have hext := h.ext
  have h2s := hb2.size
  have h3s := hg3.size
  have hi2 := owns_below h.d.items hb2 (fun g hg => (h.d.items.lt g hg).2)
  have hf2 := owns_below h.d.fields hb2 (fun g hg => (h.d.fields.lt g hg).2)
  obtain ⟨c, hc, hcs⟩ := h.d.out
  have hl : k * 5 + 5 ≤ x1.length := by rw [h.d.items.1]; omega
  refine ⟨⟨?_, ?_, ⟨c, ?_, hcs⟩, hown, owns_other hf2 hi2 (by decide) hg3⟩, by omega, h.lo5, h.lo6, fun j y hj hy => ?_, fun j hj => ?_, fun j y hj hy => ?_, h.todo2⟩
  · exact (h.d.below.trans (hb2.mono h.d.below.size)).grown hg3 (by have := h.d.below.size; omega) (fun q hq => by injection hq with hq; omega)
  · rw [hw _ (lt_of_block h.d.box) (by omega)]; exact h.d.box
  · rw [hw _ (lt_of_block hc) (by omega)]; exact hc
  · rcases Nat.lt_or_ge j k with hjk | hjk
    · rw [chunk_putO hRV.size (by omega)]
      exact RV.map (fun b hb => ⟨hb.1, by have := hb.2; omega⟩) (fun b hb => hw b hb.2 (by have := hb.1; omega)) _ _ _ (h.done1 j y hjk hy)
    · have hjk : j = k := by omega
      subst hjk
      rw [hx] at hy
      injection hy with hy
      subst hy
      rw [chunk_put hRV.size hl]
      exact RV.map (fun b hb => ⟨by have := hb.1; omega, by have := hb.2; omega⟩) (fun b hb => hg3.block b hb.2 (by have := hb.1; simp; omega)) _ _ _ hRV
  · rw [chunk_putO hRV.size (by omega)]; exact h.todo1 j (by omega)
  · exact RArg.map (fun x cs hR => RV.map (fun b hb => ⟨hb.1, by have := hb.2; omega⟩) (fun b hb => hw b hb.2 (by have := hb.1; omega)) _ _ _ hR) (h.done2 j y hj hy)
theorem chunk_put_arg {j : Nat} {x2 cs cv : List Value} {u z : Value} (hv : cs.length = 5) (hcv : cv.length = 5) (hx : j * 7 + 7 ≤ x2.length) (he : chunk 7 x2 j = u :: (cv ++ [z])) : chunk 7 (putAt x2 (j * 7 + 1) cs) j = u :: (cs ++ [z]) := by
  apply List.ext_getElem?
  intro i
  by_cases hi : i < 7
  · rw [chunk_get hi]
    have h0 := chunk_get (cells := x2) (j := j) hi
    rw [he] at h0
    by_cases h1 : 1 ≤ i ∧ i < 6
    · obtain ⟨i', rfl⟩ : ∃ i', i = i' + 1 := ⟨i - 1, by omega⟩
      rw [show j * 7 + (i' + 1) = j * 7 + 1 + i' by omega, putAt_in _ _ _ _ (by omega) (by omega), List.getElem?_cons_succ, List.getElem?_append_left (by omega)]
    · rw [putAt_out _ _ _ _ (by omega), ← h0]
      rcases Nat.eq_zero_or_pos i with rfl | hp
      · rfl
      · have : i = 6 := by omega
        subst this
        rw [List.getElem?_cons_succ, List.getElem?_cons_succ, List.getElem?_append_right (by omega), List.getElem?_append_right (by omega), hv, hcv]
  · unfold chunk
    rw [List.getElem?_take, if_neg hi, List.getElem?_eq_none (by simp; omega)]
theorem chunk_put_argO {i j : Nat} {x2 cs : List Value} (hv : cs.length = 5) (hij : i ≠ j) : chunk 7 (putAt x2 (j * 7 + 1) cs) i = chunk 7 x2 i := by
  apply List.ext_getElem?
  intro m
  by_cases hm : m < 7
  · rw [chunk_get hm, chunk_get hm, putAt_out]
    omega
  · unfold chunk
    rw [List.getElem?_take, List.getElem?_take, if_neg hm, if_neg hm]
theorem DeepL.step2 {w wx wr w2 w3 : World} {n g6 : Nat} {v : V} {x : Bs × V × Int} {l1 l2 : List Value} {A5 : Option Addr} {c5 c6 k m : Nat} {x1 x2 cs cv : List Value} (h : DeepL w wx n v l1 l2 A5 c5 (some ⟨g6, 0, none⟩) c6 k m x1 x2 wr) (hlt : m < v.fields.length)
    (hx : v.fields[m]? = some x) (hcv : cv.length = 5) (he : chunk 7 l2 m = tx x.1 :: (cv ++ [.int .i64 x.2.2])) (hRV : RV w2 (New wr w2) n x.2.1 cs) (hb2 : Below wr.heap.size wr w2)
    (hown : w3.ownsRow (w.heap.size + 2) 116 7 (.slice (some ⟨g6, 0, none⟩) v.fields.length c6) v.fields.length (putAt x2 (m * 7 + 1) cs)) (hg3 : w2.grownBy w3 (some g6)) :
    DeepL w wx n v l1 l2 A5 c5 (some ⟨g6, 0, none⟩) c6 k (m + 1) x1 (putAt x2 (m * 7 + 1) cs) w3 := by
  have hg5 := (h.d.fields.lt g6 rfl)
  have hgx := h.lo6 g6 rfl (by omega)
  have hw : ∀ b, b < wr.heap.size → b ≠ g6 → w3.heap[b]? = wr.heap[b]? := fun b hb hne => by rw [hg3.block b (by have := hb2.size; omega) (by simpa using hne), hb2.block b hb]
  have hext := h.ext
  have h2s := hb2.size
  have h3s := hg3.size
  have hi2 := owns_below h.d.items hb2 (fun g hg => (h.d.items.lt g hg).2)
  have hf2 := owns_below h.d.fields hb2 (fun g hg => (h.d.fields.lt g hg).2)
  obtain ⟨c, hc, hcs⟩ := h.d.out
  have hl : m * 7 + 7 ≤ x2.length := by rw [h.d.fields.1]; omega
  refine ⟨⟨?_, ?_, ⟨c, ?_, hcs⟩, owns_other hi2 hf2 (by decide) hg3, hown⟩, by omega, h.lo5, h.lo6, fun j y hj hy => ?_, h.todo1, fun j y hj hy => ?_, fun j hj => ?_⟩
  · exact (h.d.below.trans (hb2.mono h.d.below.size)).grown hg3 (by have := h.d.below.size; omega) (fun q hq => by injection hq with hq; omega)
  · rw [hw _ (lt_of_block h.d.box) (by omega)]; exact h.d.box
  · rw [hw _ (lt_of_block hc) (by omega)]; exact hc
  · exact RV.map (fun b hb => ⟨hb.1, by have := hb.2; omega⟩) (fun b hb => hw b hb.2 (by have := hb.1; omega)) _ _ _ (h.done1 j y hj hy)
  · rcases Nat.lt_or_ge j m with hjk | hjk
    · rw [chunk_put_argO hRV.size (by omega)]
      exact RArg.map (fun x cs hR => RV.map (fun b hb => ⟨hb.1, by have := hb.2; omega⟩) (fun b hb => hw b hb.2 (by have := hb.1; omega)) _ _ _ hR) (h.done2 j y hjk hy)
    · have hjk : j = m := by omega
      subst hjk
      rw [hx] at hy
      injection hy with hy
      subst hy
      rw [chunk_put_arg hRV.size hcv hl ((h.todo2 j (Nat.le_refl _)).trans he)]
      exact ⟨cs, rfl, hRV.size, RV.map (fun b hb => ⟨by have := hb.1; omega, by have := hb.2; omega⟩) (fun b hb => hg3.block b hb.2 (by have := hb.1; simp; omega)) _ _ _ hRV⟩
  · rw [chunk_put_argO hRV.size (by omega)]; exact h.todo2 j (by omega)
set_option maxRecDepth 20000 in
set_option maxHeartbeats 6400000 in
theorem deep_any (n : Nat) : ∀ (S : Nat → Prop) (v : V) (cs : List Value) (w : World), RV w S n v cs → (∀ b, S b → b < w.heap.size) → FewV n v →
    Calls Try.prog 66 #[.agg cs.toArray] w (DeepPost w n v) := by
  induction n with
  | zero => exact fun _ _ _ _ h => h.elim
  | succ n ih0 =>
    rintro S v cs w ⟨A1, c1, A2, c2, e, h1, h2⟩ hS ⟨k1, k2, k3, k4, k5⟩
    subst e
    obtain ⟨l1, r1, o1, e1⟩ := h1.flat (by decide) hS (fun _ _ h => h.one)
    obtain ⟨l2, r2, o2, e2⟩ := h2.flat (by decide) hS (fun _ _ h => h.one)
    have H := hide (And.intro r1 (And.intro o1 (And.intro e1 (And.intro r2 (And.intro o2 (And.intro e2 (And.intro hS (And.intro k4 k5))))))))
    have ih := hide ih0
    clear ih0 h1 h2 r1 o1 e1 r2 o2 e2 hS k4 k5
    go_enter Try.func66, Try.ntmps66
    go_wp2_with fail
    obtain ⟨W, hW⟩ : ∃ W, W = (w.alloc (.cells #[.int .i64 v.kind, tx v.text, .slice A1 v.items.length c1, .slice A2 v.fields.length c2, .int .i64 v.pos] 67)).alloc (.cells #[.int .i64 0, .string ⟨#[]⟩, .slice none 0 0, .slice none 0 0, .int .i64 0] 67) := ⟨_, rfl⟩
    rw [← hW]
    have hb0 : Below w.heap.size w W := by rw [hW]; exact ((Below.refl _ w).alloc (Nat.le_refl _) _).alloc (by simp) _
    have hsz : W.heap.size = w.heap.size + 2 := by rw [hW]; simp
    have hg : W.heap[w.heap.size]? = some (.cells #[.int .i64 v.kind, tx v.text, .slice A1 v.items.length c1, .slice A2 v.fields.length c2, .int .i64 v.pos] 67 (0, 0)) := by rw [hW]; exact heap_alloc2_old w _ _
    have hg1 : W.heap[w.heap.size + 1]? = some (.cells #[.int .i64 0, .string ⟨#[]⟩, .slice none 0 0, .slice none 0 0, .int .i64 0] 67 (0, 0)) := by rw [hW]; exact heap_alloc2_new w _ _
    have e2 : W.cell? ⟨w.heap.size, 2, none⟩ = some (.slice A1 v.items.length c1) := by rw [cell_of_row _ _ _ _ _ _ hg]; rfl
    have e3 : W.cell? ⟨w.heap.size, 3, none⟩ = some (.slice A2 v.fields.length c2) := by rw [cell_of_row _ _ _ _ _ _ hg]; rfl
    have f2 : W.frozen? ⟨w.heap.size, 2, none⟩ = false := by simp [World.frozen?, hg]
    have f3 : W.frozen? ⟨w.heap.size, 3, none⟩ = false := by simp [World.frozen?, hg]
    have HW := hide (And.intro hb0 (And.intro hg (And.intro hg1 hsz)))
    have hgW : w.heap.size < W.heap.size := by omega
    clear hW hb0 hg hg1 hsz
    have q1 := hide (H.out.1.below HW.out.1)
    have q2 := hide (H.out.2.2.2.1.below HW.out.1)
    go_upto_region 1 with fail
    go_cut [] (fun wx => ∃ A5 c5 A6 c6, Deep1 w v l1 l2 A5 c5 A6 c6 wx)
    case first =>
      go_region_with (first
        | (go_at_call 87; refine (cloneV_any c1 (q1.out.drewN _) (by simp; omega) (by omega) H.out.2.1).mono ?_; rintro e w3 ⟨A5, c5, rfl, hr3, hb3⟩; have h3s := hb3.size; have e3' : w3.cell? ⟨w.heap.size, 3, none⟩ = some (.slice A2 v.fields.length c2) := by { rw [hb3.cell (by simpa using hgW)]; exact e3 }; have hk3 : w3.heap[w.heap.size]? = W.heap[w.heap.size]? := by { rw [hb3.block _ (by simpa using hgW)]; rfl })
        | (go_at_call 87; refine (cloneV_any c1 (q1.out.drew) (by simp; omega) (by omega) H.out.2.1).mono ?_; rintro e w3 ⟨A5, c5, rfl, hr3, hb3⟩; have h3s := hb3.size; have e3' : w3.cell? ⟨w.heap.size, 3, none⟩ = some (.slice A2 v.fields.length c2) := by { rw [hb3.cell (by simpa using hgW)]; exact e3 }; have hk3 : w3.heap[w.heap.size]? = W.heap[w.heap.size]? := by { rw [hb3.block _ (by simpa using hgW)]; rfl })
        | (go_at_call 88; refine (cloneA_any c2 (((q2.out.drewN 1).below (hb3.mono (by simp; omega)))) (by have := hb3.size; simp at this; simp; omega) (by omega) H.out.2.2.2.2.1).mono ?_; rintro e w4 ⟨A6, c6, rfl, hr4, hb4⟩; have h4s := hb4.size; have hk4 : w4.heap[w.heap.size]? = W.heap[w.heap.size]? := by { rw [hb4.block _ (by have := hb3.size; simp at this; simp; omega)]; exact hk3 }; have f24 : w4.frozen? ⟨w.heap.size, 2, none⟩ = false := by { rw [World.frozen?_of_block (w := W) hk4]; exact f2 }; have f34 : w4.frozen? ⟨w.heap.size, 3, none⟩ = false := by { rw [World.frozen?_of_block (w := W) hk4]; exact f3 }; have g24 : w4.cell? ⟨w.heap.size, 2, none⟩ = some (.slice A1 v.items.length c1) := by { rw [cell_congr hk4]; exact e2 }; have g34 : w4.cell? ⟨w.heap.size, 3, none⟩ = some (.slice A2 v.fields.length c2) := by { rw [cell_congr hk4]; exact e3 })
        | (go_at_call 88; refine (cloneA_any c2 (((q2.out.drewN 1).below (hb3.mono (by simp; omega))).drew) (by have := hb3.size; simp at this; simp; omega) (by omega) H.out.2.2.2.2.1).mono ?_; rintro e w4 ⟨A6, c6, rfl, hr4, hb4⟩; have h4s := hb4.size; have hk4 : w4.heap[w.heap.size]? = W.heap[w.heap.size]? := by { rw [hb4.block _ (by have := hb3.size; simp at this; simp; omega)]; exact hk3 }; have f24 : w4.frozen? ⟨w.heap.size, 2, none⟩ = false := by { rw [World.frozen?_of_block (w := W) hk4]; exact f2 }; have f34 : w4.frozen? ⟨w.heap.size, 3, none⟩ = false := by { rw [World.frozen?_of_block (w := W) hk4]; exact f3 }; have g24 : w4.cell? ⟨w.heap.size, 2, none⟩ = some (.slice A1 v.items.length c1) := by { rw [cell_congr hk4]; exact e2 }; have g34 : w4.cell? ⟨w.heap.size, 3, none⟩ = some (.slice A2 v.fields.length c2) := by { rw [cell_congr hk4]; exact e3 })
        | (go_at_call 88; refine (cloneA_any c2 (((q2.out.drewN 1).below (hb3.mono (by simp; omega))).drewN _) (by have := hb3.size; simp at this; simp; omega) (by omega) H.out.2.2.2.2.1).mono ?_; rintro e w4 ⟨A6, c6, rfl, hr4, hb4⟩; have h4s := hb4.size; have hk4 : w4.heap[w.heap.size]? = W.heap[w.heap.size]? := by { rw [hb4.block _ (by have := hb3.size; simp at this; simp; omega)]; exact hk3 }; have f24 : w4.frozen? ⟨w.heap.size, 2, none⟩ = false := by { rw [World.frozen?_of_block (w := W) hk4]; exact f2 }; have f34 : w4.frozen? ⟨w.heap.size, 3, none⟩ = false := by { rw [World.frozen?_of_block (w := W) hk4]; exact f3 }; have g24 : w4.cell? ⟨w.heap.size, 2, none⟩ = some (.slice A1 v.items.length c1) := by { rw [cell_congr hk4]; exact e2 }; have g34 : w4.cell? ⟨w.heap.size, 3, none⟩ = some (.slice A2 v.fields.length c2) := by { rw [cell_congr hk4]; exact e3 })
        | (go_at_call 88; refine (cloneA_any c2 ((q2.out.drew.below (hb3.mono (by simp; omega)))) (by have := hb3.size; simp at this; simp; omega) (by omega) H.out.2.2.2.2.1).mono ?_; rintro e w4 ⟨A6, c6, rfl, hr4, hb4⟩; have h4s := hb4.size; have hk4 : w4.heap[w.heap.size]? = W.heap[w.heap.size]? := by { rw [hb4.block _ (by have := hb3.size; simp at this; simp; omega)]; exact hk3 }; have f24 : w4.frozen? ⟨w.heap.size, 2, none⟩ = false := by { rw [World.frozen?_of_block (w := W) hk4]; exact f2 }; have f34 : w4.frozen? ⟨w.heap.size, 3, none⟩ = false := by { rw [World.frozen?_of_block (w := W) hk4]; exact f3 }; have g24 : w4.cell? ⟨w.heap.size, 2, none⟩ = some (.slice A1 v.items.length c1) := by { rw [cell_congr hk4]; exact e2 }; have g34 : w4.cell? ⟨w.heap.size, 3, none⟩ = some (.slice A2 v.fields.length c2) := by { rw [cell_congr hk4]; exact e3 }))
      all_goals
        go_wp2_with fail
        go_meet
        refine ⟨A5, c5, A6, c6, ?_⟩
        exact deep1_of HW.out.1 HW.out.2.2.2 HW.out.2.1 HW.out.2.2.1 rfl ⟨hb3.os, hb3.tape, hb3.output, hb3.size, hb3.block⟩ hr3 ⟨hb4.os, hb4.tape, hb4.output, hb4.size, hb4.block⟩ hr4
    case rest =>
      obtain ⟨A5, c5, A6, c6, hD⟩ := hcut
      have HD := hide hD
      have b2 : wc.cell? ⟨w.heap.size, 2, none⟩ = some (.slice A5 v.items.length c5) := by rw [cell_of_row _ _ _ _ _ _ hD.box]; rfl
      clear hD e2 e3 f2 f3
      go_wp2_with fail
      go_loopw [16] (fun i wr => ∃ k : Nat, k ≤ v.items.length ∧ i = .int .i64 k ∧ Hid (∃ x1, DeepL w wc n v l1 l2 A5 c5 A6 c6 k 0 x1 l2 wr)) (fun i _ => v.items.length - (intOf i).toNat)
      case atStart => exact ⟨0, Nat.zero_le _, rfl, hide ⟨l1, DeepL.start HD.out⟩⟩
      case round =>
        obtain ⟨k, hk, rfl, HR⟩ := hrel
        obtain ⟨cells, hR⟩ := HR.out
        clear HR b2
        have b2 : wr.cell? ⟨w.heap.size, 2, none⟩ = some (.slice A5 v.items.length c5) := by rw [cell_of_row _ _ _ _ _ _ hR.d.box]; rfl
        by_cases hlt : k < v.items.length
        · obtain ⟨g5, rfl, hg5, hg5l⟩ := owns_addr hR.d.items (by omega)
          obtain ⟨ce, hce⟩ : ∃ ce, ce = chunk 5 cells k := ⟨_, rfl⟩
          have hrg : wr.rangeAt g5 (0 + k * 5) ce := by rw [hce, Nat.zero_add]; exact owns_range hR.d.items k
          have hcel : ce.length = 5 := by rw [hce]; exact chunk_len hR.d.items.1 hlt
          have hxk : v.items[k]? = some v.items[k] := List.getElem?_eq_getElem hlt
          have hRV : RV wr.drew S n v.items[k] ce := by
            rw [hce, hR.todo1 k (Nat.le_refl _)]
            exact RV.map (w' := wr.drew) (fun _ h => h) (fun b hb => hR.d.below.block b (H.out.2.2.2.2.2.2.1 b hb)) _ _ _ (H.out.2.2.1 k _ hxk)
          have hSr : ∀ b, S b → b < wr.drew.heap.size := fun b hb => Nat.lt_of_lt_of_le (H.out.2.2.2.2.2.2.1 b hb) hR.d.below.size
          have HK := hide (And.intro hR (And.intro hg5 (And.intro hg5l (And.intro hRV (And.intro hrg (And.intro hcel (And.intro hSr hxk)))))))
          clear hR hg5 hg5l hce hrg hcel hRV hSr hxk
          go_wp2_with fail
          refine wp_region_G (fun w' => w'.cell? ⟨w.heap.size, 2, none⟩ = some (.slice (some ⟨g5, 0, none⟩) v.items.length c5) ∧ w'.rangeAt g5 (0 + k * 5) ce) (fun j => decide (j < 10)) (by kernel_rfl) (⟨by simpa using b2, by simpa using HK.out.2.2.2.2.1⟩) (fun hS => ?_)
          refine wpG_take 0 rfl (by kernel_rfl) (fun _ _ _ h => h) (by rfl) (fun w' hw => by go_simp; rfl) hS (fun _ => ?_)
          simp only [Act.put, List.setIfInBounds_toArray, List.set_cons_zero, List.set_cons_succ]
          refine wpG_load 1 rfl (by kernel_rfl) (fun _ _ _ h => h) (by rfl) rfl (v := .slice (some ⟨g5, 0, none⟩) v.items.length c5) (fun w' hw => by have := hw.1; clear hw; go_simp) hS (fun _ => ?_)
          simp only [Act.put, List.setIfInBounds_toArray, List.set_cons_zero, List.set_cons_succ]
          refine wpG_take 2 rfl (by kernel_rfl) (fun _ _ _ h => h) (by rfl) (fun w' hw => by go_simp; rfl) hS (fun _ => ?_)
          simp only [Act.put, List.setIfInBounds_toArray, List.set_cons_zero, List.set_cons_succ]
          refine wpG_take 3 rfl (by kernel_rfl) (fun _ _ _ h => h) (by rfl) (fun w' hw => by go_simp; rfl) hS (fun _ => ?_)
          simp only [Act.put, List.setIfInBounds_toArray, List.set_cons_zero, List.set_cons_succ]
          refine wpG_load 4 rfl (by kernel_rfl) (fun _ _ _ h => h) (by rfl) rfl (v := .slice (some ⟨g5, 0, none⟩) v.items.length c5) (fun w' hw => by have := hw.1; clear hw; go_simp) hS (fun _ => ?_)
          simp only [Act.put, List.setIfInBounds_toArray, List.set_cons_zero, List.set_cons_succ]
          refine wpG_take 5 rfl (by kernel_rfl) (fun _ _ _ h => h) (by rfl) (fun w' hw => by go_simp; rfl) hS (fun _ => ?_)
          simp only [Act.put, List.setIfInBounds_toArray, List.set_cons_zero, List.set_cons_succ]
          refine wpG_index 6 rfl (by kernel_rfl) (fun _ _ _ h => h) (by rfl) rfl rfl rfl Try.underlying64 Try.sizeV hlt hS (fun _ => ?_)
          simp only [Act.put, List.setIfInBounds_toArray, List.set_cons_zero, List.set_cons_succ]
          refine wpG_load 7 rfl (by kernel_rfl) (fun _ _ _ h => h) (by rfl) rfl (v := .agg ce.toArray) (fun w' hw => run_loadAt_mid w' g5 (0 + k * 5) 67 ce _ hw.2 Try.underlying67 rfl (by rw [Try.sizeV, HK.out.2.2.2.2.2.1])) hS (fun _ => ?_)
          simp only [Act.put, List.setIfInBounds_toArray, List.set_cons_zero, List.set_cons_succ]
          refine wpG_one 8 rfl (by kernel_rfl) (by rfl) (fun K hK => ?_)
          go_simp
          refine (ih.out _ _ _ _ HK.out.2.2.2.1 HK.out.2.2.2.2.2.2.1 (H.out.2.2.2.2.2.2.2.1 _ (List.getElem_mem hlt))).mono ?_
          rintro e w2 ⟨cs, rfl, hRV2, hb2⟩
          have hb2' : Below wr.heap.size wr w2 := ⟨hb2.os, hb2.tape, hb2.output, hb2.size, hb2.block⟩
          have hbx : w.heap.size < wr.heap.size := lt_of_block HK.out.1.d.box
          refine hK _ _ (fun _ => ⟨(hb2'.cell hbx).trans b2, range_congr (hb2'.block _ HK.out.2.2.1) HK.out.2.2.2.2.1⟩) (fun _ => ?_)
          have hS2 : w2.cell? ⟨w.heap.size, 2, none⟩ = some (.slice (some ⟨g5, 0, none⟩) v.items.length c5) ∧ w2.rangeAt g5 (0 + k * 5) ce := ⟨(hb2'.cell hbx).trans b2, range_congr (hb2'.block _ HK.out.2.2.1) HK.out.2.2.2.2.1⟩
          have HM := hide (And.intro hRV2 hb2')
          clear hRV2 hb2 hb2' hK K hS
          have hS := hS2
          clear hS2
          refine wpG_index 9 rfl (by kernel_rfl) (fun _ _ _ h => h) (by rfl) rfl rfl rfl Try.underlying64 Try.sizeV hlt hS (fun _ => ?_)
          simp only [Act.put, List.setIfInBounds_toArray, List.set_cons_zero, List.set_cons_succ]
          refine wpG_one 10 rfl (by kernel_rfl) (by rfl) (fun K hK => ?_)
          refine wp_store_elem rfl rfl rfl (by rw [Nat.zero_add]) (owns_below HK.out.1.d.items HM.out.2 (fun g hg => (HK.out.1.d.items.lt g hg).2)) hlt Try.sizeV HM.out.1.size HM.out.1.one ?_
          intro w3 hown3 hg3
          refine hK _ _ (fun h => by simp at h) (fun _ => wpG_done (by kernel_rfl) ?_)
          have HZ := hide (HK.out.1.step1 hlt HK.out.2.2.2.2.2.2.2 HM.out.1 HM.out.2 hown3 hg3)
          clear hown3 hg3 hK K hS b2
          go_wp2
          go_roundw
          case rel => exact ⟨k + 1, by omega, by go_num, hide ⟨_, HZ.out⟩⟩
          case measure => simp [intOf]; omega
        · obtain ⟨wk, hwk⟩ : ∃ wk, wk = wr := ⟨_, rfl⟩
          have hkn : k = v.items.length := by omega
          rw [← hwk] at hR b2 ⊢
          subst hkn
          have b3 : wk.cell? ⟨w.heap.size, 3, none⟩ = some (.slice A6 v.fields.length c6) := by rw [cell_of_row _ _ _ _ _ _ hR.d.box]; rfl
          have HR := hide hR
          clear hR hwk
          go_wp2_with fail
          go_loopw [33] (fun i wr => ∃ m : Nat, m ≤ v.fields.length ∧ i = .int .i64 m ∧ Hid (∃ x2, DeepL w wc n v l1 l2 A5 c5 A6 c6 v.items.length m cells x2 wr)) (fun i _ => v.fields.length - (intOf i).toNat)
          case atStart => exact ⟨0, Nat.zero_le _, rfl, hide ⟨l2, HR.out⟩⟩
          case round =>
            obtain ⟨m, hm, rfl, HS⟩ := hrel
            obtain ⟨x2, hS2⟩ := HS.out
            clear HS b2 b3 HR
            have b3 : wr.cell? ⟨w.heap.size, 3, none⟩ = some (.slice A6 v.fields.length c6) := by rw [cell_of_row _ _ _ _ _ _ hS2.d.box]; rfl
            by_cases hlm : m < v.fields.length
            · obtain ⟨g6, rfl, hg6, hg6l⟩ := owns_addr hS2.d.fields (by omega)
              have hxm : v.fields[m]? = some v.fields[m] := List.getElem?_eq_getElem hlm
              obtain ⟨f, hf⟩ : ∃ f, f = v.fields[m] := ⟨_, rfl⟩
              have hfew := H.out.2.2.2.2.2.2.2.2 _ (List.getElem_mem hlm)
              rw [← hf] at hxm hfew
              obtain ⟨cv, hcv, hcvl, hcR⟩ := H.out.2.2.2.2.2.1 m _ hxm
              have hrg0 : wr.rangeAt g6 (m * 7) (tx f.1 :: (cv ++ [.int .i64 f.2.2])) := by rw [← hcv, ← hS2.todo2 m (Nat.le_refl _)]; exact owns_range hS2.d.fields m
              have hrg : wr.rangeAt g6 (m * 7 + 1) cv := fun j u hu => by
                have := hrg0 (j + 1) u (by rw [List.getElem?_cons_succ, List.getElem?_append_left (List.getElem?_eq_some_iff.1 hu).1]; exact hu)
                rw [show m * 7 + 1 + j = m * 7 + (j + 1) by omega]
                exact this
              have hRV : RV wr.drew S n f.2.1 cv := RV.map (w' := wr.drew) (fun _ h => h) (fun b hb => hS2.d.below.block b (H.out.2.2.2.2.2.2.1 b hb)) _ _ _ hcR
              have hSr : ∀ b, S b → b < wr.drew.heap.size := fun b hb => Nat.lt_of_lt_of_le (H.out.2.2.2.2.2.2.1 b hb) hS2.d.below.size
              have HK := hide (And.intro hS2 (And.intro hg6 (And.intro hg6l (And.intro hRV (And.intro hrg (And.intro hcvl (And.intro hSr (And.intro hxm (And.intro hcv hfew.2)))))))))
              clear hS2 hg6 hg6l hRV hrg hrg0 hcvl hSr hxm hcv hcR hf hfew
              go_wp2_with fail
              refine wp_region_G (fun w' => w'.cell? ⟨w.heap.size, 3, none⟩ = some (.slice (some ⟨g6, 0, none⟩) v.fields.length c6) ∧ w'.rangeAt g6 (m * 7 + 1) cv) (fun j => decide (j < 10)) (by kernel_rfl) (⟨by simpa using b3, by simpa using HK.out.2.2.2.2.1⟩) (fun hS => ?_)
              refine wpG_take 0 rfl (by kernel_rfl) (fun _ _ _ h => h) (by rfl) (fun w' hw => by go_simp; rfl) hS (fun _ => ?_)
              simp only [Act.put, List.setIfInBounds_toArray, List.set_cons_zero, List.set_cons_succ]
              refine wpG_load 1 rfl (by kernel_rfl) (fun _ _ _ h => h) (by rfl) rfl (v := .slice (some ⟨g6, 0, none⟩) v.fields.length c6) (fun w' hw => by have := hw.1; clear hw; go_simp) hS (fun _ => ?_)
              simp only [Act.put, List.setIfInBounds_toArray, List.set_cons_zero, List.set_cons_succ]
              refine wpG_take 2 rfl (by kernel_rfl) (fun _ _ _ h => h) (by rfl) (fun w' hw => by go_simp; rfl) hS (fun _ => ?_)
              simp only [Act.put, List.setIfInBounds_toArray, List.set_cons_zero, List.set_cons_succ]
              refine wpG_take 3 rfl (by kernel_rfl) (fun _ _ _ h => h) (by rfl) (fun w' hw => by go_simp; rfl) hS (fun _ => ?_)
              simp only [Act.put, List.setIfInBounds_toArray, List.set_cons_zero, List.set_cons_succ]
              refine wpG_load 4 rfl (by kernel_rfl) (fun _ _ _ h => h) (by rfl) rfl (v := .slice (some ⟨g6, 0, none⟩) v.fields.length c6) (fun w' hw => by have := hw.1; clear hw; go_simp) hS (fun _ => ?_)
              simp only [Act.put, List.setIfInBounds_toArray, List.set_cons_zero, List.set_cons_succ]
              refine wpG_take 5 rfl (by kernel_rfl) (fun _ _ _ h => h) (by rfl) (fun w' hw => by go_simp; rfl) hS (fun _ => ?_)
              simp only [Act.put, List.setIfInBounds_toArray, List.set_cons_zero, List.set_cons_succ]
              refine wpG_index 6 rfl (by kernel_rfl) (fun _ _ _ h => h) (by rfl) rfl rfl rfl Try.underlying65 Try.sizeA hlm hS (fun _ => ?_)
              simp only [Act.put, List.setIfInBounds_toArray, List.set_cons_zero, List.set_cons_succ]
              refine wpG_take 7 rfl (by kernel_rfl) (fun _ _ _ h => h) (by rfl) (fun w' hw => by go_simp; rfl) hS (fun _ => ?_)
              simp only [Act.put, List.setIfInBounds_toArray, List.set_cons_zero, List.set_cons_succ]
              refine wpG_load 8 rfl (by kernel_rfl) (fun _ _ _ h => h) (by rfl) rfl (v := .agg cv.toArray) (fun w' hw => run_loadAt_mid w' g6 (m * 7 + 1) 67 cv _ hw.2 Try.underlying67 rfl (by rw [Try.sizeV, HK.out.2.2.2.2.2.1])) hS (fun _ => ?_)
              simp only [Act.put, List.setIfInBounds_toArray, List.set_cons_zero, List.set_cons_succ]
              refine wpG_one 9 rfl (by kernel_rfl) (by rfl) (fun K hK => ?_)
              go_simp
              refine (ih.out _ _ _ _ HK.out.2.2.2.1 HK.out.2.2.2.2.2.2.1 HK.out.2.2.2.2.2.2.2.2.2).mono ?_
              rintro e w2 ⟨cs, rfl, hRV2, hb2⟩
              have hb2' : Below wr.heap.size wr w2 := ⟨hb2.os, hb2.tape, hb2.output, hb2.size, hb2.block⟩
              have hbx : w.heap.size < wr.heap.size := lt_of_block HK.out.1.d.box
              refine hK _ _ (fun _ => ⟨(hb2'.cell hbx).trans b3, range_congr (hb2'.block _ HK.out.2.2.1) HK.out.2.2.2.2.1⟩) (fun _ => ?_)
              have hS2 : w2.cell? ⟨w.heap.size, 3, none⟩ = some (.slice (some ⟨g6, 0, none⟩) v.fields.length c6) ∧ w2.rangeAt g6 (m * 7 + 1) cv := ⟨(hb2'.cell hbx).trans b3, range_congr (hb2'.block _ HK.out.2.2.1) HK.out.2.2.2.2.1⟩
              have HM := hide (And.intro hRV2 hb2')
              clear hRV2 hb2 hb2' hK K hS
              have hS := hS2
              clear hS2
              refine wpG_indexW 10 rfl (by kernel_rfl) (fun _ _ _ h => h) (by rfl) rfl rfl rfl Try.underlying65 Try.sizeA hlm ?_
              simp only [Act.put, List.setIfInBounds_toArray, List.set_cons_zero, List.set_cons_succ]
              refine wpG_takeW 11 rfl (by kernel_rfl) (fun _ _ _ h => h) (by rfl) (fun w' => by go_simp; rfl) ?_
              simp only [Act.put, List.setIfInBounds_toArray, List.set_cons_zero, List.set_cons_succ]
              refine wpG_one 12 rfl (by kernel_rfl) (by rfl) (fun K hK => ?_)
              refine wp_store_mid _ _ _ rfl g6 (m * 7 + 1) cs.toArray rfl rfl (owns_there (owns_below HK.out.1.d.fields HM.out.2 (fun g hg => (HK.out.1.d.fields.lt g hg).2)) (by simp [HM.out.1.size]; omega)) (by rw [Try.sizeV]; simp [HM.out.1.size]) (all_oneCell_toArray HM.out.1.one) ?_
              obtain ⟨hown3, hg3⟩ := owns_setCells cs (m * 7 + 1) w2 _ (owns_below HK.out.1.d.fields HM.out.2 (fun g hg => (HK.out.1.d.fields.lt g hg).2))
              refine hK _ _ (fun h => by simp at h) (fun _ => wpG_done (by kernel_rfl) ?_)
              have HZ := hide (HK.out.1.step2 hlm HK.out.2.2.2.2.2.2.2.1 HK.out.2.2.2.2.2.1 HK.out.2.2.2.2.2.2.2.2.1 HM.out.1 HM.out.2 hown3 hg3)
              obtain ⟨w3, hw3⟩ : ∃ w3, w3 = w2.setCells g6 (m * 7 + 1) cs := ⟨_, rfl⟩
              simp only
              rw [← hw3] at HZ ⊢
              clear hown3 hg3 hK K hS b3 hw3
              go_wp2
              go_roundw
              case rel => exact ⟨m + 1, by omega, by go_num, hide ⟨_, HZ.out⟩⟩
              case measure => simp [intOf]; omega
            · have hmn : m = v.fields.length := by omega
              subst hmn
              have hbx := hS2.d.box
              obtain ⟨co, hco, hcos⟩ := hS2.d.out
              have hbl := hS2.d.below
              have hRVf : RV wr (fun b => New w wr b ∧ b ≠ w.heap.size + 1) (n + 1) v [.int .i64 v.kind, tx v.text, .slice A5 v.items.length c5, .slice A6 v.fields.length c6, .int .i64 v.pos] := by
                have hlo : w.heap.size + 1 < wc.heap.size := by obtain ⟨_, hx, _⟩ := HD.out.out; exact lt_of_block hx
                have hin : ∀ b, Btw wc wr b → New w wr b ∧ b ≠ w.heap.size + 1 := fun b hb => ⟨⟨by have := hb.1; omega, hb.2⟩, by have := hb.1; omega⟩
                refine ⟨A5, c5, A6, c6, rfl, Sl.of_own hS2.d.items rfl (fun g hg => ?_) (fun j x hx => ?_), Sl.of_own hS2.d.fields rfl (fun g hg => ?_) (fun j x hx => ?_)⟩
                · subst hg; have := hS2.d.items.lt g rfl; exact ⟨⟨by omega, this.2⟩, by omega⟩
                · exact RV.map hin (fun _ _ => rfl) _ _ _ (hS2.done1 j x (List.getElem?_eq_some_iff.1 hx).1 hx)
                · subst hg; have := hS2.d.fields.lt g rfl; exact ⟨⟨by omega, this.2⟩, by omega⟩
                · exact RArg.map (fun x cs h => RV.map hin (fun _ _ => rfl) _ _ _ h) (hS2.done2 j x (List.getElem?_eq_some_iff.1 hx).1 hx)
              obtain ⟨cf, hcf⟩ : ∃ cf : List Value, cf = [.int .i64 v.kind, tx v.text, .slice A5 v.items.length c5, .slice A6 v.fields.length c6, .int .i64 v.pos] := ⟨_, rfl⟩
              have hrb : wr.rangeAt w.heap.size 0 cf := fun j u hu => by
                rw [cell_of_row _ _ _ _ _ _ hbx, Nat.zero_add]
                rw [hcf] at hu
                simpa using hu
              have hcl : cf.length = 5 := by rw [hcf]; rfl
              rw [← hcf] at hRVf
              have HF := hide (And.intro hrb (And.intro hcl (And.intro hco (And.intro hcos (And.intro hRVf hbl)))))
              clear hrb hcl hco hcos hRVf hbl hcf hbx hS2
              go_wp2_with (first
                | ((with_reducible show wpList _ _ _ ({ dst := _, op := .load 67 _, type := _, pos := _, after := _, guard := _ } :: _) _ _); refine wpList_loadE rfl HF.out.1 Try.underlying67 rfl (by rw [Try.sizeV, HF.out.2.1]) rfl ?_)
                | ((with_reducible show wpList _ _ _ ({ dst := _, op := .store 67 _ _, type := _, pos := _, after := _, guard := _ } :: _) _ _); refine wpList_store_row rfl 67 _ _ rfl (w.heap.size + 1) cf.toArray rfl rfl 67 co HF.out.2.2.1 (by rw [Try.sizeV]; simp [HF.out.2.1]) (by simp [HF.out.2.1, HF.out.2.2.2.1]) (all_oneCell_toArray HF.out.2.2.2.2.1.one) ?_))
              have hnw : (wr.setRow (w.heap.size + 1) cf.toArray).heap[w.heap.size + 1]? = some (.cells cf.toArray 67 (0, 0)) := setRow_heap _ _ _ _ _ _ HF.out.2.2.1
              refine bodyPost_ret (v := .agg cf.toArray) (results_cell_row Try.results66 _ _ (w.heap.size + 1) 67 cf.toArray (0, 0) _ rfl hnw Try.underlying67 rfl (by rw [Try.sizeV]; simp [HF.out.2.1])) rfl ⟨cf, rfl, ?_, ?_⟩
              · refine RV.map (fun b hb => ⟨hb.1.1, by simpa using hb.1.2⟩) (fun b hb => setRow_other _ _ _ _ hb.2) _ _ _ HF.out.2.2.2.2.1
              · exact below_setRow HF.out.2.2.2.2.2 (by omega) _
end Go.Proofs.Ytlpmnnkijdbopaa
