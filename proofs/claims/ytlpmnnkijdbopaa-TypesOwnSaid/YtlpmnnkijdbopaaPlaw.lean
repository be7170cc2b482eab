/-
  Plain law: sorted and compacted texts rise, and hold what was there.
-/
import Derived.Test.YtlpmnnkijdbopaaFits
import Derived.Test.YtlpmnnkijdbopaaOver
namespace Go.Proofs.Ytlpmnnkijdbopaa

theorem le_trans' {a b c : Bs} (h : a ≤ b) (k : b ≤ c) : a ≤ c := List.le_trans h k
theorem lt_of_le_ne {a b : Bs} (h : a ≤ b) (hn : a ≠ b) : a < b := by
  rcases List.le_total b a with k | k
  · exact absurd (List.le_antisymm h k) hn
  · exact Classical.byContradiction fun hh => hn (List.le_antisymm h hh)
theorem lt_of_le_of_lt' {a b c : Bs} (h : a ≤ b) (k : b < c) : a < c := List.lt_of_le_of_lt h k
theorem comp_spec (l : List Bs) (h : l.Pairwise (· ≤ ·)) : ∀ m, m ≤ l.length → (Lib.compactUpTo l.toArray m).Pairwise (· < ·) ∧ (∀ x, x ∈ Lib.compactUpTo l.toArray m ↔ x ∈ l.take m)
  | 0, _ => ⟨by simp [Lib.compactUpTo], fun x => by simp [Lib.compactUpTo]⟩
  | m + 1, hm => by
    obtain ⟨h1, h2⟩ := comp_spec l h m (by omega)
    have hlt : m < l.length := by omega
    have hd : l.toArray[m]! = l[m] := by simp [hlt]
    rw [Lib.compactUpTo_succ, List.take_succ_eq_append_getElem hlt]
    have hle : ∀ x ∈ l.take m, 0 < m ∧ ∀ hp : m - 1 < l.length, x ≤ l[m - 1] := fun x hx => by
      obtain ⟨i, hi, rfl⟩ := List.mem_take_iff_getElem.1 hx
      refine ⟨by omega, fun hp => ?_⟩
      rcases Nat.lt_or_ge i (m - 1) with hi2 | hi2
      · exact List.pairwise_iff_getElem.1 h i (m - 1) (by omega) hp hi2
      · have : i = m - 1 := by omega
        subst this
        exact List.le_refl _
    by_cases hk : Lib.keeps l.toArray m = true
    · rw [if_pos hk, hd]
      refine ⟨List.pairwise_append.2 ⟨h1, List.pairwise_singleton _ _, fun a ha b hb => ?_⟩, fun x => ?_⟩
      · rw [List.mem_singleton.1 hb]
        obtain ⟨hpos, hx⟩ := hle a ((h2 a).1 ha)
        have hp : m - 1 < l.length := by omega
        have hne : l[m] ≠ l[m - 1] := by
          unfold Lib.keeps at hk
          have hk := of_decide_eq_true hk
          rcases hk with hk | hk
          · omega
          · rw [hd, show l.toArray[m - 1]! = l[m - 1] by simp [hp]] at hk
            exact hk
        exact lt_of_le_of_lt' (hx hp) (lt_of_le_ne (List.pairwise_iff_getElem.1 h (m - 1) m hp hlt (by omega)) (fun e => hne e.symm))
      · rw [List.mem_append, List.mem_append, h2]
    · rw [if_neg hk, List.append_nil]
      refine ⟨h1, fun x => ?_⟩
      rw [h2, List.mem_append, List.mem_singleton]
      refine ⟨.inl, fun hx => hx.elim id fun e => ?_⟩
      unfold Lib.keeps at hk
      have hk : ¬ (m = 0 ∨ l.toArray[m]! ≠ l.toArray[m - 1]!) := fun hh => hk (decide_eq_true hh)
      have hm0 : m ≠ 0 := fun e => hk (.inl e)
      have hp : m - 1 < l.length := by omega
      have he : l.toArray[m]! = l.toArray[m - 1]! := Classical.byContradiction fun hh => hk (.inr hh)
      rw [hd, show l.toArray[m - 1]! = l[m - 1] by simp [hp]] at he
      rw [e, he]
      exact List.mem_take_iff_getElem.2 ⟨m - 1, by omega, rfl⟩
theorem sorted_pair (l : List Bs) : (l.mergeSort fun x y => decide (x ≤ y)).Pairwise (· ≤ ·) := by
  have := List.pairwise_mergeSort (le := fun x y : Bs => decide (x ≤ y)) (fun a b c h k => by simp only [decide_eq_true_eq] at *; exact le_trans' h k) (fun a b => by
    rcases List.le_total a b with h | h <;> simp [h]) l
  exact this.imp fun h => by simpa using h
theorem poss_rise (T : Ts) (k : Bs) : (poss T k).Pairwise (· < ·) := by
  have := comp_spec _ (sorted_pair (raw T k)) _ (Nat.le_refl _)
  exact this.1
theorem poss_mem {T : Ts} {k s : Bs} : s ∈ poss T k ↔ s ∈ raw T k := by
  have := (comp_spec _ (sorted_pair (raw T k)) _ (Nat.le_refl _)).2 s
  rw [List.take_length] at this
  exact this.trans (List.mergeSort_perm _ _).mem_iff
theorem rise_eq {l m : List Bs} (hl : l.Pairwise (· < ·)) (hm : m.Pairwise (· < ·)) (h : ∀ x, x ∈ l ↔ x ∈ m) : l = m := by
  induction l generalizing m with
  | nil =>
    cases m with
    | nil => rfl
    | cons y r => exact absurd ((h y).2 (by simp)) (by simp)
  | cons x r ih =>
    cases m with
    | nil => exact absurd ((h x).1 (by simp)) (by simp)
    | cons y q =>
      rw [List.pairwise_cons] at hl hm
      have hxy : x = y := by
        have h1 : x ∈ y :: q := (h x).1 (by simp)
        have h2 : y ∈ x :: r := (h y).2 (by simp)
        rcases List.mem_cons.1 h1 with e | h1
        · exact e
        rcases List.mem_cons.1 h2 with e | h2
        · exact e.symm
        exact absurd (List.lt_trans (hl.1 y h2) (hm.1 x h1)) (List.lt_irrefl _)
      subst hxy
      rw [ih hl.2 hm.2 fun z => ⟨fun hz => by
        rcases List.mem_cons.1 ((h z).1 (by simp [hz])) with e | h1
        · exact absurd (e ▸ hl.1 z hz) (List.lt_irrefl _)
        · exact h1, fun hz => by
        rcases List.mem_cons.1 ((h z).2 (by simp [hz])) with e | h1
        · exact absurd (e ▸ hm.1 z hz) (List.lt_irrefl _)
        · exact h1⟩]
end Go.Proofs.Ytlpmnnkijdbopaa
