/-
  The reference's Find, plain: what New's table finds is the first of the list (or one of the five).
-/
import Derived.Test.YtlpmnnkijdbopaaPlain
namespace Go.Proofs.Ytlpmnnkijdbopaa

theorem find_fold (k : Bs) : ∀ (l : List Td) (T : Ts), k ∉ fiveL → find (l.foldl add1 T) k = (find T k).or (List.find? (fun d => d.name == k) l)
  | [], T, _ => by simp
  | d :: r, T, h => by
    rw [List.foldl_cons, find_fold k r _ h]
    unfold add1
    cases hf : find T d.name with
    | some x =>
      rw [Option.isSome_some, if_pos rfl, List.find?_cons]
      by_cases hk : d.name = k
      · subst hk; simp [hf]
      · have : (d.name == k) = false := by simpa using hk
        simp [this]
    | none =>
      rw [Option.isSome_none, if_neg (by decide), find_add hf k, List.find?_cons]
      by_cases hk : d.name = k
      · subst hk; simp [hf]
      · have : (d.name == k) = false := by simpa using hk
        simp [this]
theorem find_mkT (l : List Td) (k : Bs) : find (mkT l) k = if k ∈ fiveL then some (scalar k) else List.find? (fun d => d.name == k) l := by
  by_cases h : k ∈ fiveL
  · rw [if_pos h]; unfold find; rw [if_pos h]
  · rw [if_neg h]
    unfold mkT
    rw [find_fold k l [] h]
    unfold find
    rw [if_neg h]
    simp
end Go.Proofs.Ytlpmnnkijdbopaa
