/-
  What TypesOwn's walk keeps behind the second loop, in plain words.
-/
import Derived.Test.YtlpmnnkijdbopaaOwnRows2
namespace Go.Proofs.Ytlpmnnkijdbopaa
open Go.RowKit Go.Maps

/-- the types, the old memory, and what was answered first -/
structure Kp (n : Nat) (wc : World) (lo hi p : Nat) (T : Ts) (X : TL) (M : Nat) (AW : Option Addr) (ws : List Bs) (w : World) : Prop where
  tys : TysX n w lo hi p T X
  low : Below wc.heap.size wc w
  was : ws = [] ∨ ∃ g cur, AW = some ⟨g, 0, none⟩ ∧ hi ≤ g ∧ g < M ∧ w.heap[g]? = some (.cells cur 9 (0, 0)) ∧ cur.toList.take ws.length = ws.map tx
  cM : wc.heap.size ≤ M
  hM : hi ≤ M
  M : M ≤ w.heap.size
section
variable {n lo hi p M : Nat} {wc w w' : World} {T : Ts} {X : TL} {AW : Option Addr} {ws : List Bs}
theorem Kp.more (h : Kp n wc lo hi p T X M AW ws w) (hb : Below w.heap.size w w') : Kp n wc lo hi p T X M AW ws w' := by
  refine ⟨h.tys.below hb, h.low.trans (hb.mono h.low.size), ?_, h.cM, h.hM, Nat.le_trans h.M hb.size⟩
  rcases h.was with h1 | ⟨g, cur, h1, h2, h3, h4, h5⟩
  · exact .inl h1
  · exact .inr ⟨g, cur, h1, h2, h3, by rw [hb.block g (lt_of_block h4)]; exact h4, h5⟩
theorem Kp.set (h : Kp n wc lo hi p T X M AW ws w) {b o : Nat} (hb : M ≤ b) (u : Value) : Kp n wc lo hi p T X M AW ws (w.setCell ⟨b, o, none⟩ u) := by
  have hM := h.hM
  refine ⟨h.tys.keep (by simp) (fun x hx => heap_setCell_other _ _ _ _ (by have := hx.2; simp; omega)), h.low.setCell (by have := h.cM; simp; omega) _, ?_, h.cM, h.hM, by simpa using h.M⟩
  rcases h.was with h1 | ⟨g, cur, h1, h2, h3, h4, h5⟩
  · exact .inl h1
  · exact .inr ⟨g, cur, h1, h2, h3, by rw [heap_setCell_other _ _ _ _ (by simp; omega)]; exact h4, h5⟩
theorem Kp.sl (h : Kp n wc lo hi p T X M AW ws w) : Sl w (fun b => b < w.heap.size) 1 AW RS ws := by
  have hr : Row w hi AW ws := by
    rcases h.was with h1 | ⟨g, cur, h1, h2, h3, h4, h5⟩
    · exact .inl h1
    · exact .inr ⟨g, cur, h1, h2, h4, h5⟩
  exact hr.sl (fun _ _ h => h)
end
/-- a whole block of so many cells, not frozen -/
def Blk (w : World) (b s : Nat) : Prop := ∃ cur t, w.heap[b]? = some (.cells cur t (0, 0)) ∧ s ≤ cur.size
theorem Blk.set {w : World} {b s : Nat} (h : Blk w b s) (g o : Nat) (u : Value) : Blk (w.setCell ⟨g, o, none⟩ u) b s := by
  obtain ⟨cur, t, h1, h2⟩ := h
  by_cases hb : b = g
  · subst hb
    exact ⟨_, t, heap_setCell_same _ _ o _ _ u h1, by simpa using h2⟩
  · exact ⟨cur, t, by rw [heap_setCell_other _ _ _ _ (by simpa using hb)]; exact h1, h2⟩
theorem Blk.keep {w w' : World} {b s : Nat} (h : Blk w b s) (hk : w'.heap[b]? = w.heap[b]?) : Blk w' b s := by
  obtain ⟨cur, t, h1, h2⟩ := h
  exact ⟨cur, t, by rw [hk]; exact h1, h2⟩
theorem Blk.lt {w : World} {b s : Nat} (h : Blk w b s) : b < w.heap.size := by
  obtain ⟨cur, t, h1, _⟩ := h
  exact lt_of_block h1
theorem Blk.cell {w : World} {b s : Nat} (h : Blk w b s) {j : Nat} (hj : j < s) : (∃ v, w.cell? ⟨b, j, none⟩ = some v) ∧ w.frozen? ⟨b, j, none⟩ = false := by
  obtain ⟨cur, t, h1, h2⟩ := h
  exact ⟨⟨cur[j]'(by omega), by rw [cell_of_row _ _ _ _ _ _ h1]; exact Array.getElem?_eq_getElem (by omega)⟩, frozen_of_row _ _ _ _ _ h1⟩
theorem blk_of {α : Type} {w : World} {S : Nat → Prop} {k B : Nat} {A : Option Addr} {R : α → List Value → Prop} {xs : List α} (h : Sl w S k A R xs) (hF : Fr w B A) (hk : 0 < k) : xs.length = 0 ∨ ∃ b o, A = some ⟨b, o, none⟩ ∧ B ≤ b ∧ Blk w b (o + xs.length * k) := by
  by_cases hx : xs.length = 0
  · exact .inl hx
  · right
    have hj : xs.length - 1 < xs.length := by omega
    obtain ⟨b, o, cs, hA, _, hl, hr, _⟩ := h _ _ (List.getElem?_eq_getElem hj)
    obtain ⟨h1, c, t, h2⟩ := hF b o hA
    refine ⟨b, o, hA, h1, c, t, h2, ?_⟩
    have hlast : cs[k - 1]? = some (cs[k - 1]'(by omega)) := List.getElem?_eq_getElem (by omega)
    have hc := hr (k - 1) _ hlast
    rw [cell_of_row _ _ _ _ _ _ h2] at hc
    have := (Array.getElem?_eq_some_iff.1 hc).1
    have e : (xs.length - 1) * k + k = xs.length * k := by rw [← Nat.succ_mul]; congr 1; omega
    omega
/-- a copy that was answered, and its rows -/
structure Dc (bd M m f : Nat) (cs : List Value) (Am Af : Option Addr) (w : World) : Prop where
  blk : w.heap[bd]? = some (.cells cs.toArray 35 (0, 0))
  mem : m = 0 ∨ ∃ b o, Am = some ⟨b, o, none⟩ ∧ M ≤ b ∧ b < bd ∧ Blk w b (o + m * 1)
  fld : f = 0 ∨ ∃ b o, Af = some ⟨b, o, none⟩ ∧ M ≤ b ∧ b < bd ∧ Blk w b (o + f * 4)
theorem Dc.set {bd M m f b o : Nat} {cs : List Value} {Am Af : Option Addr} {w : World} (h : Dc bd M m f cs Am Af w) (hb : b < bd) (u : Value) : Dc bd M m f cs Am Af (w.setCell ⟨b, o, none⟩ u) := by
  refine ⟨by rw [heap_setCell_other _ _ _ _ (by simp; omega)]; exact h.blk, ?_, ?_⟩
  · rcases h.mem with h1 | ⟨b', o', h1, h2, h3, h4⟩
    · exact .inl h1
    · exact .inr ⟨b', o', h1, h2, h3, h4.set _ _ _⟩
  · rcases h.fld with h1 | ⟨b', o', h1, h2, h3, h4⟩
    · exact .inl h1
    · exact .inr ⟨b', o', h1, h2, h3, h4.set _ _ _⟩
/-- the copy in its block -/
theorem Dc.of {n M c2 c3 : Nat} {S : Nat → Prop} {d : Td} {cs : List Value} {A2 A3 : Option Addr} {w : World} (h : RT w S n d cs) (h3 : cs[3]? = some (.slice A2 d.fields.length c2)) (h4 : cs[4]? = some (.slice A3 d.members.length c3)) (f2 : Fr w M A2) (f3 : Fr w M A3) :
    Dc w.heap.size M d.members.length d.fields.length cs A3 A2 (w.alloc (.cells cs.toArray 35)) := by
  obtain ⟨B1, b1, B2, b2, B3, b3, B4, b4, rfl, s1, s2, s3, s4⟩ := h
  simp at h3 h4
  obtain ⟨rfl, rfl⟩ := h3
  obtain ⟨rfl, rfl⟩ := h4
  refine ⟨heap_alloc_new w _, ?_, ?_⟩
  · rcases blk_of s3 f3 (by decide) with h | ⟨b, o, h1, h2, h3⟩
    · exact .inl h
    · exact .inr ⟨b, o, h1, h2, h3.lt, h3.keep (heap_alloc_old w _ h3.lt)⟩
  · rcases blk_of s2 f2 (by decide) with h | ⟨b, o, h1, h2, h3⟩
    · exact .inl h
    · exact .inr ⟨b, o, h1, h2, h3.lt, h3.keep (heap_alloc_old w _ h3.lt)⟩
theorem Row.nb {w : World} {base M : Nat} {A : Option Addr} {l : List Bs} (h : Row w base A l) (hM : M ≤ base) : l.length = 0 ∨ ∃ g, A = some ⟨g, 0, none⟩ ∧ M ≤ g ∧ Blk w g l.length := by
  rcases h with h | ⟨g, cur, h1, h2, h3, h4⟩
  · exact .inl (by rw [h]; rfl)
  · have h5 := congrArg List.length h4
    rw [List.length_take, List.length_map] at h5
    exact .inr ⟨g, h1, Nat.le_trans hM h2, cur, _, h3, by simp at h5; omega⟩
theorem Fr.base {w : World} {B B' : Nat} {A : Option Addr} (h : Fr w B A) (hB : B' ≤ B) : Fr w B' A := fun b o hb => ⟨Nat.le_trans hB (h b o hb).1, (h b o hb).2⟩
theorem Dc.at {bd M m f i : Nat} {cs : List Value} {Am Af : Option Addr} {w : World} {v : Value} (h : Dc bd M m f cs Am Af w) (hc : cs[i]? = some v) : w.cell? ⟨bd, i, none⟩ = some v := by
  rw [cell_of_row _ _ _ _ _ _ h.blk]
  simpa using hc
theorem one_rt {w : World} {S : Nat → Prop} {n g : Nat} {d : Td} {cs : List Value} (h : RT w S n d cs) (hg : w.heap[g]? = some (.cells cs.toArray 35 (0, 0))) (hS : S g) : Sl w S 7 (some ⟨g, 0, none⟩) (RT w S n) [d] := by
  intro j x hx
  have hj : j = 0 := by
    have := (List.getElem?_eq_some_iff.1 hx).1
    simpa using this
  subst hj
  simp at hx
  subst hx
  refine ⟨g, 0, cs, rfl, hS, RT.len h, fun i u hu => ?_, h⟩
  rw [cell_of_row _ _ _ _ _ _ hg]
  simpa using hu
end Go.Proofs.Ytlpmnnkijdbopaa
