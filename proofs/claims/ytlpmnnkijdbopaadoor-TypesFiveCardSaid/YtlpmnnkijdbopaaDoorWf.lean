/-
  Well formed types' texts; the plain law of TypesSelf.
-/
import Derived.Test.YtlpmnnkijdbopaaDoorOverLaw
namespace Go.Proofs.YtlpmnnkijdbopaaDoor

/-- a type's text; true: with a ! at its end -/
inductive Wf : Bool → Bs → Prop where
  | name {s : Bs} : good s → Wf false s
  | list {b : Bool} {s : Bs} : Wf b s → Wf false (91 :: (s ++ [93]))
  | bang {s : Bs} : Wf false s → Wf true (s ++ [33])
def WfT (s : Bs) : Prop := ∃ b, Wf b s
theorem hasSuffix_end (s : Bs) (x : UInt8) : Lib.hasSuffix (s ++ [x]) [x] = true := by
  unfold Lib.hasSuffix
  exact List.isSuffixOf_iff_suffix.2 ⟨s, rfl⟩
theorem trimSuffix_end (s : Bs) (x : UInt8) : Lib.trimSuffix (s ++ [x]) [x] = s := by
  unfold Lib.trimSuffix
  rw [if_pos (hasSuffix_end s x)]
  simp
theorem hasSuffix_other (s : Bs) {x y : UInt8} (h : x ≠ y) : Lib.hasSuffix (s ++ [y]) [x] = false := by
  unfold Lib.hasSuffix
  cases hq : ([x] : Bs).isSuffixOf (s ++ [y]) with
  | false => rfl
  | true =>
    obtain ⟨t, ht⟩ := List.isSuffixOf_iff_suffix.1 hq
    have := (List.append_inj' ht rfl).2
    injection this with h1 _
    exact absurd h1 h
theorem nn_end (s : Bs) : nn (s ++ [33]) = true := hasSuffix_end s 33
theorem nu_end (s : Bs) : nu (s ++ [33]) = s := trimSuffix_end s 33
theorem nn_core {s : Bs} (h : Wf false s) : nn s = false := by
  cases h with
  | name h => exact nn_false h
  | list _ => exact hasSuffix_other (91 :: _) (by decide)
theorem nu_of_nn {s : Bs} (h : nn s = false) : nu s = s := by
  unfold nn at h
  unfold nu Lib.trimSuffix
  rw [if_neg (by rw [h]; decide)]
theorem nu_core {s : Bs} (h : Wf false s) : nu s = s := nu_of_nn (nn_core h)
theorem nu_wf {b : Bool} {s : Bs} (h : Wf b s) : Wf false (nu s) := by
  cases h with
  | name h => rw [nu_core (.name h)]; exact .name h
  | list h => rw [nu_core (.list h)]; exact .list h
  | bang h => rw [nu_end]; exact h
theorem nn_list (s : Bs) : nn (91 :: (s ++ [93])) = false := hasSuffix_other (91 :: s) (x := 33) (y := 93) (by decide)
theorem isL_list (s : Bs) : isL (91 :: (s ++ [93])) = true := by
  unfold isL
  rw [nu_of_nn (nn_list s)]
  rfl
theorem it_list (s : Bs) : it (91 :: (s ++ [93])) = s := by
  unfold it
  rw [if_pos (isL_list s), nu_of_nn (nn_list s)]
  exact trimSuffix_end s 93
theorem fits_step (T : Ts) (a b : Bs) : fits T a b = if nn a then fits T (nu a) (nu b) else if nn b then false else if isL a && isL b then fits T (it a) (it b) else if isL a || isL b then false else fitN T a b := by
  show fit T (a.length + 1) a b = _
  rw [fit_succ]
  by_cases h1 : nn a = true
  · rw [if_pos h1, if_pos h1]
    exact fits_eq T _ (by have := nu_lt h1; omega)
  · rw [if_neg h1, if_neg h1]
    by_cases h2 : nn b = true
    · rw [if_pos h2, if_pos h2]
    · rw [if_neg h2, if_neg h2]
      by_cases h3 : (isL a && isL b) = true
      · rw [if_pos h3, if_pos h3]
        exact fits_eq T _ (by have := it_lt (a := a) (by simp at h3; exact h3.1); omega)
      · rw [if_neg h3, if_neg h3]
theorem fits_bang (T : Ts) (s b : Bs) : fits T (s ++ [33]) b = fits T s (nu b) := by rw [fits_step, nn_end, if_pos rfl, nu_end]
theorem fits_lists (T : Ts) (a b : Bs) : fits T (91 :: (a ++ [93])) (91 :: (b ++ [93])) = fits T a b := by
  rw [fits_step, nn_list, nn_list, isL_list, isL_list, it_list, it_list]
  rfl
theorem fits_list_good (T : Ts) (a : Bs) {b : Bs} (h : good b) : fits T (91 :: (a ++ [93])) b = false := by
  rw [fits_step, nn_list, nn_false h, isL_list, isL_false h]
  rfl
theorem fits_not (T : Ts) {x : Bs} (y : Bs) (h : Wf false x) : fits T x (y ++ [33]) = false := by
  rw [fits_step, nn_core h, nn_end]
  rfl
theorem fits_self (T : Ts) {b : Bool} {s : Bs} (h : Wf b s) : fits T s s = true ∧ fits T s (nu s) = true := by
  induction h with
  | name h =>
    rw [nu_same h, fits_names h h]
    have : ∀ x, fitN T x x = true := fun x => by unfold fitN; rw [if_pos rfl]
    exact ⟨this _, this _⟩
  | list h ih => rw [nu_core (.list h), fits_lists]; exact ⟨ih.1, ih.1⟩
  | bang h ih => rw [fits_bang, fits_bang, nu_end, nu_core h]; exact ⟨ih.1, ih.1⟩
/-- the name in a type -/
def sgn (c : UInt8) : Bool := c == 91 || c == 93 || c == 33
def base (s : Bs) : Bs := s.filter fun c => !sgn c
theorem base_good {s : Bs} (h : good s) : base s = s := by
  unfold base
  rw [List.filter_eq_self]
  intro c hc
  obtain ⟨h1, h2, h3⟩ := h.2 c hc
  unfold sgn
  have n1 : c ≠ 33 := fun e => h1 (by rw [e]; rfl)
  have n2 : c ≠ 91 := fun e => h2 (by rw [e]; rfl)
  have n3 : c ≠ 93 := fun e => h3 (by rw [e]; rfl)
  simp [n1, n2, n3]
theorem base_wf {b : Bool} {s : Bs} (h : Wf b s) : good (base s) := by
  induction h with
  | name h => rw [base_good h]; exact h
  | list h ih =>
    have : base (91 :: (‹Bs› ++ [93])) = base ‹Bs› := by
      unfold base
      rw [List.filter_cons_of_neg (by decide), List.filter_append, List.filter_cons_of_neg (by decide)]
      simp
    rw [this]; exact ih
  | bang h ih =>
    have : base (‹Bs› ++ [33]) = base ‹Bs› := by
      unfold base
      rw [List.filter_append, List.filter_cons_of_neg (by decide)]
      simp
    rw [this]; exact ih
theorem wf_inner {b : Bool} {a : Bs} (h : Wf b (91 :: (a ++ [93]))) : ∃ b', Wf b' a := by
  generalize e : 91 :: (a ++ [93]) = s at h
  cases h with
  | name h => exact absurd rfl (h.2 91 (by rw [← e]; simp)).2.1
  | list h =>
    injection e with _ e
    have := (List.append_inj' e rfl).1
    subst this
    exact ⟨_, h⟩
  | bang h =>
    have := (List.append_inj' (show (91 :: a) ++ [93] = _ ++ [33] from e) rfl).2
    injection this with h1 _
    exact absurd h1 (by decide)
structure SelfOk (T : Ts) (a b : Bs) : Prop where
  s1 : fits T a a = true
  s2 : fits T a (nu a) = true
  s3 : fits T (nu a) (nu b) = true → fits T (nu a ++ [33]) (nu b) = true ∧ fits T (nu a ++ [33]) (nu b ++ [33]) = true ∧ fits T (nu a) (nu b ++ [33]) = false
  s4 : fits T (91 :: (a ++ [93])) (91 :: (b ++ [93])) = fits T a b
  s5 : fits T (91 :: (a ++ [93])) (base b) = false
theorem self_ok (T : Ts) {a b : Bs} (ha : WfT (91 :: (a ++ [93]))) (hb : WfT (91 :: (b ++ [93]))) : SelfOk T a b := by
  obtain ⟨_, ha⟩ := ha
  obtain ⟨_, hb⟩ := hb
  obtain ⟨_, ha⟩ := wf_inner ha
  obtain ⟨_, hb⟩ := wf_inner hb
  have na := nu_wf ha
  have nb := nu_wf hb
  refine ⟨(fits_self T ha).1, (fits_self T ha).2, fun h => ⟨?_, ?_, fits_not T _ na⟩, fits_lists T a b, fits_list_good T a (base_wf hb)⟩
  · rw [fits_bang, nu_core nb]; exact h
  · rw [fits_bang, nu_end]; exact h
end Go.Proofs.YtlpmnnkijdbopaaDoor
