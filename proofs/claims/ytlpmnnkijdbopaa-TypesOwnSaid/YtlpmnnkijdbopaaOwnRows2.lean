/-
  The rows that TypesOwn overwrites, in plain words.
-/
import Derived.Test.YtlpmnnkijdbopaaOwnRows
namespace Go.Proofs.Ytlpmnnkijdbopaa
open Go.RowKit Go.Maps

/-- blocks from B to top may be otherwise, nothing else -/
structure Mid (B top : Nat) (w w' : World) : Prop where
  os : w'.os = w.os
  tape : w'.tape = w.tape
  output : w'.output = w.output
  size : w'.heap.size = w.heap.size
  block : ∀ b, b < B ∨ top ≤ b → w'.heap[b]? = w.heap[b]?
theorem Mid.refl (B top : Nat) (w : World) : Mid B top w w := ⟨rfl, rfl, rfl, rfl, fun _ _ => rfl⟩
theorem Mid.set {B top b o : Nat} {w w' : World} (h : Mid B top w w') (h1 : B ≤ b) (h2 : b < top) (u : Value) : Mid B top w (w'.setCell ⟨b, o, none⟩ u) := by
  refine ⟨?_, ?_, ?_, ?_, fun x hx => ?_⟩
  · exact h.os
  · exact h.tape
  · exact h.output
  · simpa using h.size
  · rw [heap_setCell_other _ _ _ _ (by simp; omega)]; exact h.block x hx
theorem Mid.below {B top : Nat} {w w' : World} (h : Mid B top w w') : Below B w w' := ⟨h.os, h.tape, h.output, Nat.le_of_eq h.size.symm, fun b hb => h.block b (.inl hb)⟩
/-- a row of its own below top (nothing is said of none) -/
def Rw2 (w : World) (B top m : Nat) (A : Option Addr) (c : Nat) : Prop := m = 0 ∨ (∃ xs, w.ownsRow B 9 1 (.slice A m c) m xs) ∧ ∀ g, A = some ⟨g, 0, none⟩ → g < top
theorem Rw2.keep {w w' : World} {B top m c : Nat} {A : Option Addr} (h : Rw2 w B top m A c) (hk : ∀ b cur, B ≤ b → b < top → w.heap[b]? = some (.cells cur 9 (0, 0)) → w'.heap[b]? = w.heap[b]?) : Rw2 w' B top m A c := by
  rcases h with h | ⟨⟨xs, h⟩, ht⟩
  · exact .inl h
  · refine .inr ⟨⟨xs, h.1, ?_⟩, ht⟩
    rcases h.2 with hn | ⟨g, cap, cur, hv, hbg, hgg, rest⟩
    · exact .inl hn
    · exact .inr ⟨g, cap, cur, hv, hbg, by rw [hk g cur hbg (ht g (by injection hv)) hgg]; exact hgg, rest⟩
theorem Rw2.set {w : World} {B top m c : Nat} {A : Option Addr} (h : Rw2 w B top m A c) (b o : Nat) (u : Value) : Rw2 (w.setCell ⟨b, o, none⟩ u) B top m A c := by
  rcases h with h | ⟨h, ht⟩
  · exact .inl h
  · exact .inr ⟨Rw.set h b o u, ht⟩
theorem Rw2.addr {w : World} {B top m c : Nat} {A : Option Addr} (h : Rw2 w B top m A c) (hm : 0 < m) : ∃ g, A = some ⟨g, 0, none⟩ ∧ B ≤ g ∧ g < top ∧ (∃ cur, w.heap[g]? = some (.cells cur 9 (0, 0))) ∧ ∀ k, k < m → (∃ v, w.cell? ⟨g, k, none⟩ = some v) ∧ w.frozen? ⟨g, k, none⟩ = false := by
  rcases h with h | ⟨⟨xs, h⟩, ht⟩
  · omega
  · obtain ⟨g, rfl, hg, hgl⟩ := owns_addr h hm
    refine ⟨g, rfl, hg, ht g rfl, ?_, fun k hk => ?_⟩
    · rcases h.2 with ⟨hv, _⟩ | ⟨g', cap, cur, hv, _, hc, _⟩
      · cases hv
      · injection hv with h1 _ _
        injection h1 with h1
        injection h1 with h1
        subst h1
        exact ⟨cur, hc⟩
    · obtain ⟨q, f⟩ := owns_there h (o := k) (m := 1) (by omega) 0 (by decide)
      exact ⟨Option.isSome_iff_exists.1 q, f⟩
/-- the copies, whatever their texts are -/
structure In2 (B top : Nat) (l : List Td) (A : Option Addr) (c : Nat) (w : World) : Prop where
  row : ∃ x1, w.ownsRow B 35 7 (.slice A l.length c) l.length x1 ∧ ∀ j x, l[j]? = some x → ∃ A1 c1 A3 c3 v0 v1 v3 v5 v6, chunk 7 x1 j = [v0, v1, .slice A1 x.impls.length c1, v3, .slice A3 x.members.length c3, v5, v6] ∧ Rw2 w B top x.impls.length A1 c1 ∧ Rw2 w B top x.members.length A3 c3
  top : ∀ g, A = some ⟨g, 0, none⟩ → g < top
theorem Ow.rw2 {w : World} {B c : Nat} {l : List Bs} {A : Option Addr} (h : Ow w B l A c) : Rw2 w B w.heap.size l.length A c := by
  rcases h with h | h
  · subst h; exact .inl rfl
  · exact .inr ⟨⟨_, h⟩, fun g hg => by subst hg; exact (h.lt g rfl).2⟩
theorem CpL.in2 {w0 w : World} {B n c : Nat} {l : List Td} {A : Option Addr} {x1 : List Value} (h : CpL w0 B n l A c l.length x1 w) : In2 B w.heap.size l A c w := by
  refine ⟨⟨x1, h.row, fun j x hx => ?_⟩, fun g hg => by subst hg; exact (h.row.lt g rfl).2⟩
  obtain ⟨A1, c1, A2, c2, A3, c3, A4, c4, e, h1, h3, _⟩ := h.done j x (List.getElem?_eq_some_iff.1 hx).1 hx
  exact ⟨A1, c1, A3, c3, _, _, _, _, _, e, h1.rw2, h3.rw2⟩
theorem CpL.sl {w0 w : World} {B n c : Nat} {l : List Td} {A : Option Addr} {x1 : List Value} (h : CpL w0 B n l A c l.length x1 w) : Sl w (fun b => b < w.heap.size) 7 A (RT w (fun b => b < w.heap.size) n) l :=
  Sl.of_own h.row rfl (fun g hg => by subst hg; exact (h.row.lt g rfl).2) (fun j x hx => (h.done j x (List.getElem?_eq_some_iff.1 hx).1 hx).rt h.below)
theorem In2.keep {w w' : World} {B top c : Nat} {l : List Td} {A : Option Addr} (h : In2 B top l A c w) (hk : ∀ b, B ≤ b → b < top → w'.heap[b]? = w.heap[b]?) : In2 B top l A c w' := by
  obtain ⟨x1, hr, hx⟩ := h.row
  refine ⟨⟨x1, ⟨hr.1, ?_⟩, fun j x hj => ?_⟩, h.top⟩
  · rcases hr.2 with hn | ⟨g, cap, cur, hv, hbg, hgg, rest⟩
    · exact .inl hn
    · exact .inr ⟨g, cap, cur, hv, hbg, by rw [hk g hbg (h.top g (by injection hv))]; exact hgg, rest⟩
  · obtain ⟨A1, c1, A3, c3, v0, v1, v3, v5, v6, e, h1, h3⟩ := hx j x hj
    exact ⟨A1, c1, A3, c3, v0, v1, v3, v5, v6, e, h1.keep (fun b _ hb ht _ => hk b hb ht), h3.keep (fun b _ hb ht _ => hk b hb ht)⟩
theorem In2.set_str {w : World} {B top c g k : Nat} {l : List Td} {A : Option Addr} (h : In2 B top l A c w) (hg : ∃ cur, w.heap[g]? = some (.cells cur 9 (0, 0))) (u : Value) : In2 B top l A c (w.setCell ⟨g, k, none⟩ u) := by
  obtain ⟨x1, hr, hx⟩ := h.row
  obtain ⟨cur, hg⟩ := hg
  refine ⟨⟨x1, owns_keep hr (fun b cur' _ hc => heap_setCell_other _ _ _ _ (fun e => ?_)), fun j x hj => ?_⟩, h.top⟩
  · have e : b = g := e
    subst e
    rw [hg] at hc
    injection hc with hc
    injection hc with _ hc _
    exact str_ne hc
  · obtain ⟨A1, c1, A3, c3, v0, v1, v3, v5, v6, e, h1, h3⟩ := hx j x hj
    exact ⟨A1, c1, A3, c3, v0, v1, v3, v5, v6, e, h1.set _ _ _, h3.set _ _ _⟩
theorem In2.set_name {w : World} {B top c g j : Nat} {l : List Td} {x : Td} (h : In2 B top l (some ⟨g, 0, none⟩) c w) (hj : l[j]? = some x) (u : Value) : In2 B top l (some ⟨g, 0, none⟩) c (w.setCell ⟨g, j * 7 + 1, none⟩ u) := by
  obtain ⟨x1, hr, hx⟩ := h.row
  have hlt : j < l.length := (List.getElem?_eq_some_iff.1 hj).1
  have hl : j * 7 + 7 ≤ x1.length := by rw [hr.1]; omega
  refine ⟨⟨putAt x1 (j * 7 + 1) [u], (owns_setCells [u] (j * 7 + 1) w _ hr).1, fun i y hi => ?_⟩, h.top⟩
  obtain ⟨A1, c1, A3, c3, v0, v1, v3, v5, v6, e, h1, h3⟩ := hx i y hi
  by_cases hij : i = j
  · subst hij
    have e' : chunk 7 x1 i = [v0] ++ ([v1] ++ [.slice A1 y.impls.length c1, v3, .slice A3 y.members.length c3, v5, v6]) := e
    refine ⟨A1, c1, A3, c3, v0, u, v3, v5, v6, ?_, h1.set _ _ _, h3.set _ _ _⟩
    rw [chunk_put_mid (k := 7) (o := 1) (cv := [v1]) (cs := [u]) rfl rfl rfl hl e']
    rfl
  · refine ⟨A1, c1, A3, c3, v0, v1, v3, v5, v6, ?_, h1.set _ _ _, h3.set _ _ _⟩
    rw [chunk_put_midO (by simp) (by omega)]; exact e
theorem In2.at {w : World} {B top c j : Nat} {l : List Td} {A : Option Addr} {x : Td} (h : In2 B top l A c w) (hj : l[j]? = some x) : ∃ g A1 c1 A3 c3 v, A = some ⟨g, 0, none⟩ ∧ B ≤ g ∧ g < top ∧ w.cell? ⟨g, j * 7 + 4, none⟩ = some (.slice A3 x.members.length c3) ∧ w.cell? ⟨g, j * 7 + 2, none⟩ = some (.slice A1 x.impls.length c1) ∧
    Rw2 w B top x.members.length A3 c3 ∧ Rw2 w B top x.impls.length A1 c1 ∧ w.cell? ⟨g, j * 7 + 1, none⟩ = some v ∧ w.frozen? ⟨g, j * 7 + 1, none⟩ = false := by
  obtain ⟨x1, hr, hx⟩ := h.row
  have hlt : j < l.length := (List.getElem?_eq_some_iff.1 hj).1
  obtain ⟨g, rfl, hg, _⟩ := owns_addr hr (by omega)
  obtain ⟨A1, c1, A3, c3, v0, v1, v3, v5, v6, e, h1, h3⟩ := hx j x hj
  have hrg := owns_range hr j
  rw [e] at hrg
  exact ⟨g, A1, c1, A3, c3, v1, rfl, hg, h.top g rfl, hrg 4 _ rfl, hrg 2 _ rfl, h3, h1, hrg 1 _ rfl, hr.frozenAt _⟩
end Go.Proofs.Ytlpmnnkijdbopaa
