/-
  Plain law of TypesOverlaps.
-/
import Derived.Test.YtlpmnnkijdbopaaDoorName
import Derived.Test.YtlpmnnkijdbopaaDoorAwake
namespace Go.Proofs.YtlpmnnkijdbopaaDoor

theorem nn_false {s : Bs} (h : good s) : nn s = false := by
  unfold nn Lib.hasSuffix
  cases hq : ([33] : Bs).isSuffixOf s with
  | false => rfl
  | true =>
    have := List.IsSuffix.subset (List.isSuffixOf_iff_suffix.1 hq) (show (33 : UInt8) ∈ [33] by simp)
    exact absurd rfl (h.2 33 this).1
theorem nu_same {s : Bs} (h : good s) : nu s = s := by
  have := nn_false h
  unfold nn at this
  unfold nu Lib.trimSuffix
  rw [this]
  rfl
theorem isL_false {s : Bs} (h : good s) : isL s = false := by
  unfold isL Lib.hasPrefix
  rw [nu_same h]
  cases hq : ([91] : Bs).isPrefixOf s with
  | false => rfl
  | true =>
    have := List.IsPrefix.subset (List.isPrefixOf_iff_prefix.1 hq) (show (91 : UInt8) ∈ [91] by simp)
    exact absurd rfl (h.2 91 this).2.1
theorem fits_names {T : Ts} {a b : Bs} (ha : good a) (hb : good b) : fits T a b = fitN T a b := by
  unfold fits
  rw [fit_succ, nn_false ha, nn_false hb, isL_false ha, isL_false hb]
  rfl
theorem mem_mkT {l : List Td} {d : Td} (h : d ∈ mkT l) : d ∈ l := by
  have H : ∀ (l : List Td) (T : Ts), d ∈ l.foldl add1 T → d ∈ T ∨ d ∈ l := by
    intro l
    induction l with
    | nil => exact fun T h => .inl h
    | cons x r ih =>
      intro T h
      rw [List.foldl_cons] at h
      rcases ih _ h with h | h
      · unfold add1 at h
        split at h
        · exact .inl h
        · rcases List.mem_append.1 h with h | h
          · exact .inl h
          · exact .inr (by simp [List.mem_singleton.1 h])
      · exact .inr (by simp [h])
  rcases H l [] h with h | h
  · simp at h
  · exact h
/-- a name of an object's is a type's own -/
theorem kind2_mem {T : Ts} {s : Bs} (h : kind T s = 2) : ∃ d ∈ T, d.name = s := by
  unfold kind at h
  cases hf : find T s with
  | none => rw [hf] at h; cases h
  | some d =>
    unfold find at hf
    split at hf
    · injection hf with hf
      have h2 : find T s = some (scalar s) := by unfold find; rw [if_pos ‹_›]
      rw [h2] at h
      cases h
    · exact ⟨d, List.mem_of_find?_eq_some hf, by simpa using List.find?_some hf⟩
theorem isK2 {T : Ts} {s : Bs} (h : isK T s [2] = true) : kind T s = 2 := by
  unfold isK at h
  simp at h
  exact h.2
theorem raw_kind {T : Ts} {a s : Bs} (h : s ∈ raw T a) : kind T s = 2 := by
  unfold raw at h
  split at h
  · rw [List.mem_singleton.1 h]; assumption
  · split at h
    · have := (List.mem_filter.1 h).2
      simp only [Bool.and_eq_true] at this
      exact isK2 this.1
    · split at h
      · exact isK2 (List.mem_filter.1 h).2
      · simp at h
theorem poss_self {T : Ts} {s : Bs} (h : kind T s = 2) : poss T s = [s] := by
  refine rise_eq (poss_rise _ _) (List.pairwise_singleton _ _) fun x => ?_
  rw [poss_mem]
  unfold raw
  rw [if_pos h]
theorem raw_fits {T : Ts} {a s : Bs} (h : s ∈ raw T a) : fitN T s a = true := by
  have hk := raw_kind h
  unfold fitN
  by_cases e : s = a
  · rw [if_pos e]
  · rw [if_neg e]
    unfold raw at h
    split at h
    · exact absurd (List.mem_singleton.1 h) e
    · split at h
      · rename_i h3
        have := (List.mem_filter.1 h).2
        simp only [Bool.and_eq_true, decide_eq_true_eq] at this
        rw [if_pos (by unfold isK; rw [h3]; rfl)]
        simp [isK, hk, this.2]
      · split at h
        · rename_i h4
          obtain ⟨h5, h6⟩ := List.mem_filter.1 h
          rw [if_neg (by unfold isK; rw [h4]; simp)]
          simp [isK, hk, h4, h5]
        · simp at h
theorem raw_comp {T : Ts} {a : Bs} (h : raw T a ≠ []) : comp T a = true := by
  unfold raw at h
  unfold comp isK
  split at h
  · rename_i e; rw [e]; rfl
  · split at h
    · rename_i e; rw [e]; rfl
    · split at h
      · rename_i e; rw [e]; rfl
      · exact absurd rfl h
theorem common_comm (l m : List Bs) : common l m = common m l := by
  rw [Bool.eq_iff_iff]
  unfold common
  simp
  exact ⟨fun ⟨x, h, k⟩ => ⟨x, k, h⟩, fun ⟨x, h, k⟩ => ⟨x, k, h⟩⟩
/-- what the statement's loop asks of each possible type -/
structure PossOk (T : Ts) (a : Bs) : Prop where
  kind : ∀ s ∈ poss T a, kind T s = 2
  self : ∀ s ∈ poss T a, poss T s = [s]
  fit : ∀ s ∈ poss T a, fits T s a = true
  comp : poss T a ≠ [] → comp T a = true
theorem poss_ok {l : List Td} {a : Bs} (hl : ∀ d ∈ l, good d.name) (ha : good a) : PossOk (mkT l) a := by
  refine ⟨fun s hs => raw_kind (poss_mem.1 hs), fun s hs => poss_self (raw_kind (poss_mem.1 hs)), fun s hs => ?_, fun h => raw_comp fun e => h ?_⟩
  · obtain ⟨d, hd, e⟩ := kind2_mem (raw_kind (poss_mem.1 hs))
    have hg : good s := by rw [← e]; exact hl d (mem_mkT hd)
    rw [fits_names hg ha]
    exact raw_fits (poss_mem.1 hs)
  · exact List.eq_nil_iff_forall_not_mem.2 fun x hx => by
      have := poss_mem.1 hx
      rw [e] at this
      simp at this
end Go.Proofs.YtlpmnnkijdbopaaDoor
