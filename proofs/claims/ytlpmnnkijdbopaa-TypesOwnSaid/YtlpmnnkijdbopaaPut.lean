/-
  Stores of many cells into a row of the call's own: what the row then holds; a new element's store as a law of the walk.
-/
import Derived.Test.YtlpmnnkijdbopaaClone
namespace Go.Proofs.Ytlpmnnkijdbopaa
open Go.RowKit

/-- cells vs in the place of those from o on -/
def putAt (xs : List Value) : Nat → List Value → List Value
  | _, [] => xs
  | o, v :: r => putAt (xs.set o v) (o + 1) r
theorem putAt_length : ∀ (vs : List Value) (xs : List Value) (o : Nat), (putAt xs o vs).length = xs.length
  | [], _, _ => rfl
  | v :: r, xs, o => by rw [putAt, putAt_length r]; simp
theorem putAt_out : ∀ (vs : List Value) (xs : List Value) (o i : Nat), (i < o ∨ o + vs.length ≤ i) → (putAt xs o vs)[i]? = xs[i]?
  | [], _, _, _, _ => rfl
  | v :: r, xs, o, i, h => by
    rw [putAt, putAt_out r _ _ _ (by simp at h; omega), List.getElem?_set_ne (by simp at h; omega)]
theorem putAt_in : ∀ (vs : List Value) (xs : List Value) (o j : Nat), o + vs.length ≤ xs.length → j < vs.length → (putAt xs o vs)[o + j]? = vs[j]?
  | [], _, _, _, _, hj => by simp at hj
  | v :: r, xs, o, 0, h, _ => by
    rw [putAt, putAt_out r _ _ _ (by omega)]
    simp at h
    simp [show o < xs.length by omega]
  | v :: r, xs, o, j + 1, h, hj => by
    rw [putAt, show o + (j + 1) = o + 1 + j by omega, putAt_in r _ _ j (by simp at h ⊢; omega) (by simpa using hj)]
    simp
theorem chunk_put {k j : Nat} {xs vs : List Value} (hv : vs.length = k) (hx : j * k + k ≤ xs.length) : chunk k (putAt xs (j * k) vs) j = vs := by
  apply List.ext_getElem?
  intro i
  by_cases hi : i < k
  · rw [chunk_get hi, putAt_in _ _ _ _ (by omega) (by omega)]
  · unfold chunk
    rw [List.getElem?_take, if_neg hi, List.getElem?_eq_none (by omega)]
theorem chunk_putO {k j i : Nat} {xs vs : List Value} (hv : vs.length = k) (hij : i ≠ j) : chunk k (putAt xs (j * k) vs) i = chunk k xs i := by
  apply List.ext_getElem?
  intro m
  by_cases hm : m < k
  · rw [chunk_get hm, chunk_get hm, putAt_out]
    rcases Nat.lt_or_gt_of_ne hij with h | h
    · have := Nat.mul_le_mul_right k (show i + 1 ≤ j by omega)
      rw [Nat.succ_mul] at this
      omega
    · have := Nat.mul_le_mul_right k (show j + 1 ≤ i by omega)
      rw [Nat.succ_mul] at this
      omega
  · unfold chunk
    rw [List.getElem?_take, List.getElem?_take, if_neg hm, if_neg hm]
theorem mem_putAt : ∀ (vs : List Value) (xs : List Value) (o : Nat) (u : Value), u ∈ putAt xs o vs → u ∈ xs ∨ u ∈ vs
  | [], _, _, _, h => .inl h
  | v :: r, xs, o, u, h => by
    rw [putAt] at h
    rcases mem_putAt r _ _ _ h with h | h
    · rcases List.mem_or_eq_of_mem_set h with h | h
      · exact .inl h
      · exact .inr (by simp [h])
    · exact .inr (by simp [h])
section
variable {w : World} {base g n cap k : Nat} {e : TypeId} {xs : List Value}
theorem owns_setCells : ∀ (vs : List Value) (o : Nat) (w : World) (xs : List Value), w.ownsRow base e k (.slice (some ⟨g, 0, none⟩) n cap) n xs →
    (w.setCells g o vs).ownsRow base e k (.slice (some ⟨g, 0, none⟩) n cap) n (putAt xs o vs) ∧ w.grownBy (w.setCells g o vs) (some g)
  | [], _, w, _, h => ⟨h, World.grownBy.refl w _⟩
  | v :: r, o, w, xs, h => by
    obtain ⟨h1, h2⟩ := h.stored o v
    obtain ⟨h3, h4⟩ := owns_setCells r (o + 1) _ _ h1
    exact ⟨h3, h2.trans h4⟩
theorem owns_there (h : w.ownsRow base e k (.slice (some ⟨g, 0, none⟩) n cap) n xs) {o m : Nat} (hm : o + m ≤ n * k) : w.there g o m := fun j hj => by
  have hl : o + j < xs.length := by rw [h.1]; omega
  refine ⟨?_, h.frozenAt _⟩
  rw [h.cellAt _ (by omega), List.getElem?_eq_getElem hl]
  rfl
theorem owns_range (h : w.ownsRow base e k (.slice (some ⟨g, 0, none⟩) n cap) n xs) (j : Nat) : w.rangeAt g (j * k) (chunk k xs j) := own_cells h j
end
theorem owns_addr {w : World} {base n c k : Nat} {A : Option Addr} {e : TypeId} {xs : List Value} (h : w.ownsRow base e k (.slice A n c) n xs) (hn : 0 < n) : ∃ g, A = some ⟨g, 0, none⟩ ∧ base ≤ g ∧ g < w.heap.size := by
  rcases h.2 with ⟨_, h0⟩ | ⟨g, cap, cur, hv, hb, hg, _⟩
  · omega
  · cases hv
    exact ⟨g, rfl, hb, lt_of_block hg⟩
section
variable {P : Program} {ops : Array Oper} {rest : List Oper} {a : Act} {Q : Exit → Act → World → Prop} {w : World} {dst : Option Tmp} {ty : TypeId} {pos : String} {af : Array Edge} {x y : Operand}
/-- the j-th element of a row of the call's own is set -/
theorem wpList_store_elem {base g n cap k j o : Nat} {e t : TypeId} {xs vs : List Value} (hx : a.eval x = .pointer (some ⟨g, o, none⟩)) (hy : a.eval y = .agg vs.toArray) (ho : o = j * k)
    (hown : w.ownsRow base e k (.slice (some ⟨g, 0, none⟩) n cap) n xs) (hj : j < n) (hi : (P.info? t).map (·.size) = some k) (hv : vs.length = k) (h1 : ∀ u ∈ vs, u.oneCell' = true)
    (h : ∀ w', w'.ownsRow base e k (.slice (some ⟨g, 0, none⟩) n cap) n (putAt xs (j * k) vs) → w.grownBy w' (some g) → wpList P ops Q rest (a.put dst undef) w') :
    wpList P ops Q ({ dst := dst, op := .store t x y, type := ty, pos := pos, after := af, guard := none } :: rest) a w := by
  have hle : j * k + k ≤ n * k := by
    have := Nat.mul_le_mul_right k (show j + 1 ≤ n by omega)
    rwa [Nat.succ_mul] at this
  subst ho
  refine wpList_store_mid rfl t x y rfl g (j * k) vs.toArray hx hy (owns_there hown (by simp; omega)) (by rw [hi]; simp [hv]) (all_oneCell_toArray h1) ?_
  obtain ⟨h3, h4⟩ := owns_setCells vs (j * k) w xs hown
  exact h _ h3 h4
end
/-- a store of an element, in a region that draws its order: what follows is in every such world -/
theorem wp_store_elem {P : Program} {op : Oper} {a : Act} {w : World} {K : Act → World → Prop} {Q : Exit → Act → World → Prop} {x y : Operand} {base g n cap k j o : Nat} {e t : TypeId} {xs vs : List Value} (ho : op.op = .store t x y)
    (hx : a.eval x = .pointer (some ⟨g, o, none⟩)) (hy : a.eval y = .agg vs.toArray) (hoj : o = j * k)
    (hown : w.ownsRow base e k (.slice (some ⟨g, 0, none⟩) n cap) n xs) (hj : j < n) (hi : (P.info? t).map (·.size) = some k) (hv : vs.length = k) (h1 : ∀ u ∈ vs, u.oneCell' = true)
    (h : ∀ w', w'.ownsRow base e k (.slice (some ⟨g, 0, none⟩) n cap) n (putAt xs (j * k) vs) → w.grownBy w' (some g) → K (a.put op.dst undef) w') : op.wp P a w K Q := by
  have hle : j * k + k ≤ n * k := by
    have := Nat.mul_le_mul_right k (show j + 1 ≤ n by omega)
    rwa [Nat.succ_mul] at this
  subst hoj
  refine wp_store_mid t x y ho g (j * k) vs.toArray hx hy (owns_there hown (by simp; omega)) (by rw [hi]; simp [hv]) (all_oneCell_toArray h1) ?_
  obtain ⟨h3, h4⟩ := owns_setCells vs (j * k) w xs hown
  exact h _ h3 h4
end Go.Proofs.Ytlpmnnkijdbopaa
