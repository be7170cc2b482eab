/-
  The plain states of the law of the room.
-/
import Derived.Test.YtlnmjkilefnjpaaGood
namespace Go.Proofs.Ytlnmjkilefnjpaa
open Go.RowKit Go.Maps

theorem dins_perm (x : Bs × Nat) : ∀ l : Dir, (dins x l).Perm (x :: l)
  | [] => List.Perm.refl _
  | y :: r => by
    rw [dins_cons]
    split
    · exact List.Perm.refl _
    · exact ((dins_perm x r).cons y).trans (List.Perm.swap x y r)
theorem dput_perm {l : Dir} {k : Bs} (v : Nat) (h : dget l k = none) : (dput l k v).Perm ((k, v) :: l) := by
  have hf : l.filter (fun p => !(p.1 == k)) = l := by
    rw [List.filter_eq_self]
    intro p hp
    unfold dget at h
    rw [Option.map_eq_none_iff, List.find?_eq_none] at h
    simpa using h p hp
  unfold dput
  rw [hf]
  exact dins_perm _ _
/-- the j-th name -/
def nm (j : Nat) : Bs := [102, UInt8.ofNat (97 + j % 10), UInt8.ofNat (97 + j / 10)]
theorem nm_inj {i j : Nat} (hi : i < 100) (hj : j < 100) (h : nm i = nm j) : i = j := by
  unfold nm at h
  injection h with _ h
  injection h with h1 h
  injection h with h2 h
  have e1 := congrArg UInt8.toNat h1
  have e2 := congrArg UInt8.toNat h2
  rw [UInt8.toNat_ofNat', UInt8.toNat_ofNat'] at e1 e2
  omega
theorem nm_good : ∀ j, j < 70 → good (nm j) = true := by decide
def FInv (R c u s : Nat) (st : St) : Prop :=
  st.left = -1 ∧ st.room = (R : Int) ∧ st.steps ≤ s ∧ st.chg.length = c ∧ st.files.length = c ∧ st.dir.Perm ((List.range c).map fun j => (nm j, j)) ∧ (st.files.map fun f => f.1.length).sum = u
theorem FInv.start (R : Nat) : FInv R 0 0 0 (newS (R : Int)) := ⟨rfl, rfl, Nat.le_refl _, rfl, rfl, List.Perm.refl _, rfl⟩
theorem sum_range {α : Type} (g : α → Nat) (d : α) : ∀ (l : List α), ((List.range l.length).map fun j => g ((l[j]?).getD d)).sum = (l.map g).sum := by
  intro l
  have e : (List.range l.length).map (fun j => g ((l[j]?).getD d)) = l.map g := by
    apply List.ext_getElem
    · simp
    · intro i h1 h2
      have hi : i < l.length := by simpa using h1
      simp [hi]
  rw [e]
theorem FInv.used {R c u s : Nat} {st : St} (h : FInv R c u s st) : st.used = u := by
  obtain ⟨_, _, _, _, hc, hp, hu⟩ := h
  unfold St.used usedL
  have h1 : (st.dir.map fun p => ((st.files[p.2]?).getD ([], 0)).1.length).sum = (((List.range c).map fun j => (nm j, j)).map fun p => ((st.files[p.2]?).getD ([], 0)).1.length).sum := (hp.map _).sum_nat
  rw [h1, List.map_map, ← hc, ← hu]
  exact sum_range (fun f : Bs × Nat => f.1.length) ([], 0) st.files
theorem FInv.len {R c u s : Nat} {st : St} (h : FInv R c u s st) : st.dir.length = c := by rw [h.2.2.2.2.2.1.length_eq]; simp
theorem FInv.not {R c u s j : Nat} {st : St} (h : FInv R c u s st) (hj : c ≤ j) (hj2 : j < 70) : dget st.dir (nm j) = none := by
  cases e : dget st.dir (nm j) with
  | none => rfl
  | some i =>
    have hm := (h.2.2.2.2.2.1.mem_iff).1 (dget_mem e)
    obtain ⟨q, hq, hqe⟩ := List.mem_map.1 hm
    have hq := List.mem_range.1 hq
    injection hqe with h1 _
    have := nm_inj (i := q) (j := j) (by omega) (by omega) h1
    omega
theorem FInv.get {R c u s j : Nat} {st : St} (h : FInv R c u s st) (hs : Srt st.dir) (hj : j < c) : dget st.dir (nm j) = some j :=
  dget_of_mem hs ((h.2.2.2.2.2.1.mem_iff).2 (List.mem_map.2 ⟨j, List.mem_range.2 hj, rfl⟩))
theorem FInv.create {R c u s : Nat} {st : St} (h : FInv R c u s st) (hc : c < 64) : FInv R (c + 1) u (s + 1) (st.create (nm c)) ∧ (st.create (nm c)).files[c]? = some ([], 0) := by
  have hn := h.not (j := c) (Nat.le_refl _) (by omega)
  obtain ⟨h1, h2, h3, h4, h5, h6, h7⟩ := h
  refine ⟨⟨?_, h2, ?_, ?_, ?_, ?_, ?_⟩, ?_⟩
  · show max (st.left - 1) (-1) = -1
    rw [h1]; rfl
  · show st.steps + 1 ≤ s + 1; omega
  · show (st.chg ++ [_]).length = c + 1
    rw [List.length_append, h4]; rfl
  · show (st.files ++ [([], 0)]).length = c + 1
    rw [List.length_append, h5]; rfl
  · show (do1 st.dir (nm c, (st.files.length : Int))).Perm _
    rw [do1_pos (show ¬ (st.files.length : Int) < 0 by omega)]
    show (dput st.dir (nm c) st.files.length).Perm _
    rw [h5, List.range_succ, List.map_append]
    refine (dput_perm c hn).trans ?_
    refine (h6.cons _).trans ?_
    exact (List.perm_append_singleton _ _).symm
  · show ((st.files ++ [([], 0)]).map fun f : Bs × Nat => f.1.length).sum = u
    rw [List.map_append, List.sum_append, h7]; rfl
  · show (st.files ++ [([], 0)])[c]? = _
    rw [← h5]; simp
theorem FInv.step {R c u s : Nat} {st : St} (h : FInv R c u s st) : FInv R c u (s + 1) st.step := by
  obtain ⟨h1, h2, h3, h4, h5, h6, h7⟩ := h
  refine ⟨?_, h2, ?_, h4, h5, h6, h7⟩
  · show max (st.left - 1) (-1) = -1
    rw [h1]; rfl
  · show st.steps + 1 ≤ s + 1; omega
theorem sum_modify : ∀ (fs : List (Bs × Nat)) (i : Nat) (b : Bs) (f : Bs × Nat), fs[i]? = some f → ((fs.modify i fun f => (f.1 ++ b, f.2)).map fun f => f.1.length).sum = (fs.map fun f => f.1.length).sum + b.length
  | [], i, b, f, h => by simp at h
  | x :: r, 0, b, f, h => by simp; omega
  | x :: r, i + 1, b, f, h => by
    have ih := sum_modify r i b f (by simpa using h)
    simp only [List.modify_succ_cons, List.map_cons, List.sum_cons, ih]
    omega
theorem FInv.append {R c u s : Nat} {st : St} {b : Bs} {f : Bs × Nat} {i : Nat} (h : FInv R c u s st) (hf : st.files[i]? = some f) : FInv R c (u + b.length) (s + 1) (st.append i b) := by
  obtain ⟨h1, h2, h3, h4, h5, h6, h7⟩ := h.step
  refine ⟨h1, h2, h3, h4, ?_, h6, ?_⟩
  · show (st.files.modify i _).length = c
    rw [List.length_modify]; exact h5
  · show ((st.files.modify i fun f => (f.1 ++ b, f.2)).map fun f => f.1.length).sum = _
    rw [sum_modify st.files i b f hf]
    have : (st.files.map fun f => f.1.length).sum = u := h7
    omega
end Go.Proofs.Ytlnmjkilefnjpaa
