/-
  Types' texts: what ends with !, without it, the item of a list (program's and document's); fits, in plain words; the walk of Fits.
-/
import Derived.Test.YtlpmnnkijdbopaaKind
import Derived.Test.YtlpmnnkijdbopaaLay
namespace Go.Proofs.Ytlpmnnkijdbopaa
open Go.RowKit Go.Maps

def nn (a : Bs) : Bool := Lib.hasSuffix a [33]
def nu (a : Bs) : Bs := Lib.trimSuffix a [33]
def isL (a : Bs) : Bool := Lib.hasPrefix (nu a) [91]
def it (a : Bs) : Bs := if isL a then Lib.trimSuffix (Lib.trimPrefix (nu a) [91]) [93] else []
theorem trim_le (a p : Bs) : (Lib.trimSuffix a p).length ≤ a.length := by
  unfold Lib.trimSuffix
  split
  · simp
  · exact Nat.le_refl _
theorem nu_le (a : Bs) : (nu a).length ≤ a.length := trim_le _ _
theorem suffix_one {a : Bs} {x : UInt8} (h : Lib.hasSuffix a [x] = true) : 1 ≤ a.length := by
  unfold Lib.hasSuffix at h
  have := List.IsSuffix.length_le (List.isSuffixOf_iff_suffix.1 h)
  simpa using this
theorem nu_lt {a : Bs} (h : nn a = true) : (nu a).length + 1 = a.length := by
  have := suffix_one h
  unfold nu Lib.trimSuffix
  unfold nn at h
  rw [if_pos h]
  simp
  omega
theorem it_lt {a : Bs} (h : isL a = true) : (it a).length < a.length := by
  have hl : 1 ≤ (nu a).length := by
    unfold isL Lib.hasPrefix at h
    have := List.IsPrefix.length_le (List.isPrefixOf_iff_prefix.1 h)
    simpa using this
  have h1 := nu_le a
  unfold it
  rw [if_pos h]
  have h2 := trim_le (Lib.trimPrefix (nu a) [91]) [93]
  have h3 : (Lib.trimPrefix (nu a) [91]).length + 1 = (nu a).length := by
    unfold Lib.trimPrefix
    unfold isL at h
    rw [if_pos h]
    simp
    omega
  omega
theorem nonNull_any {a : Bs} (w : World) (h : a.length ≤ 9223372036854775807) : Calls Try.prog 26 #[tx a] w fun e w' => e = .returned (.bool (nn a)) ∧ w = w' := by
  have hh := (Try.strings_HasSuffix ⟨a.toArray⟩ ⟨#[33]⟩ w (by show a.toArray.size ≤ _; simpa using h))
  have H := hide hh
  clear hh h
  go_enter Try.func26, Try.ntmps26
  go_wp2_with fail
  refine H.out.mono ?_
  rintro e w' ⟨rfl, rfl⟩
  go_wp2
  go_ret
  exact ⟨rfl, rfl⟩
theorem nullable_any {a : Bs} (w : World) (h : a.length ≤ 9223372036854775807) : Calls Try.prog 27 #[tx a] w fun e w' => e = .returned (tx (nu a)) ∧ w = w' := by
  have hh := (Try.strings_TrimSuffix ⟨a.toArray⟩ ⟨#[33]⟩ w (by show a.toArray.size ≤ _; simpa using h))
  have H := hide hh
  clear hh h
  go_enter Try.func27, Try.ntmps27
  go_wp2_with fail
  refine H.out.mono ?_
  rintro e w' ⟨rfl, rfl⟩
  go_wp2
  go_ret
  exact ⟨rfl, rfl⟩
theorem item_any {a : Bs} (w : World) (h : a.length ≤ 9223372036854775807) : Calls Try.prog 28 #[tx a] w fun e w' => e = .returned (.tuple #[tx (it a), .bool (isL a)]) ∧ w = w' := by
  have h0 := nullable_any (a := a) w (by omega)
  have h1 := (Try.strings_CutPrefix ⟨(nu a).toArray⟩ ⟨#[91]⟩ w)
  have h2 := (Try.strings_TrimSuffix ⟨(Lib.trimPrefix (nu a) [91]).toArray⟩ ⟨#[93]⟩ w (by
    show (Lib.trimPrefix (nu a) [91]).toArray.size ≤ _
    have := nu_le a
    have : (Lib.trimPrefix (nu a) [91]).length ≤ (nu a).length := by unfold Lib.trimPrefix; split <;> simp
    simp
    omega))
  have H := hide (And.intro h0 (And.intro h1 h2))
  clear h h0 h1 h2
  cases hq : isL a with
  | true =>
    have hq' : Lib.hasPrefix (nu a) [91] = true := hq
    have HQ := hide (And.intro hq hq')
    clear hq hq'
    go_enter Try.func28, Try.ntmps28
    go_wp2_with fail
    refine H.out.1.mono ?_
    rintro e w' ⟨rfl, rfl⟩
    go_wp2_with fail
    refine H.out.2.1.mono ?_
    rintro e w' ⟨rfl, rfl⟩
    rw [show Lib.hasPrefix (ByteArray.mk (nu a).toArray).data.toList (ByteArray.mk #[91]).data.toList = true from HQ.out.2]
    go_wp2_with fail
    refine H.out.2.2.mono ?_
    rintro e w' ⟨rfl, rfl⟩
    go_wp2
    go_ret2
    exact ⟨by unfold it; rw [if_pos HQ.out.1]; rfl, rfl⟩
  | false =>
    have hq' : Lib.hasPrefix (nu a) [91] = false := hq
    have HQ := hide (And.intro hq hq')
    clear hq hq'
    go_enter Try.func28, Try.ntmps28
    go_wp2_with fail
    refine H.out.1.mono ?_
    rintro e w' ⟨rfl, rfl⟩
    go_wp2_with fail
    refine H.out.2.1.mono ?_
    rintro e w' ⟨rfl, rfl⟩
    rw [show Lib.hasPrefix (ByteArray.mk (nu a).toArray).data.toList (ByteArray.mk #[91]).data.toList = false from HQ.out.2]
    go_wp2
    go_ret2
    exact ⟨by unfold it; rw [HQ.out.1]; rfl, rfl⟩
/-- does a fit b? (names) -/
def fitN (T : Ts) (a b : Bs) : Bool :=
  if a = b then true
  else if isK T b [3] then isK T a [2, 3] && decide (b ∈ (look T a).impls)
  else isK T b [4] && isK T a [2] && decide (a ∈ (look T b).members)
/-- does a fit b? (by the length of a, which each step shortens) -/
def fit (T : Ts) : Nat → Bs → Bs → Bool
  | 0, _, _ => false
  | n + 1, a, b =>
    if nn a then fit T n (nu a) (nu b)
    else if nn b then false
    else if isL a && isL b then fit T n (it a) (it b)
    else if isL a || isL b then false
    else fitN T a b
theorem fit_succ (T : Ts) (n : Nat) (a b : Bs) : fit T (n + 1) a b = if nn a then fit T n (nu a) (nu b) else if nn b then false else if isL a && isL b then fit T n (it a) (it b) else if isL a || isL b then false else fitN T a b := rfl
def fits (T : Ts) (a b : Bs) : Bool := fit T (a.length + 1) a b
theorem fit_more (T : Ts) : ∀ (n m : Nat) (a b : Bs), a.length < n → n ≤ m → fit T m a b = fit T n a b
  | 0, _, a, _, h, _ => by omega
  | n + 1, 0, _, _, _, h => by omega
  | n + 1, m + 1, a, b, h, hm => by
    unfold fit
    by_cases h1 : nn a = true
    · rw [if_pos h1, if_pos h1]
      have := nu_lt h1
      exact fit_more T n m _ _ (by omega) (by omega)
    · rw [if_neg h1, if_neg h1]
      by_cases h2 : nn b = true
      · rw [if_pos h2, if_pos h2]
      · rw [if_neg h2, if_neg h2]
        by_cases h3 : (isL a && isL b) = true
        · rw [if_pos h3, if_pos h3]
          have := it_lt (a := a) (by simp at h3; exact h3.1)
          exact fit_more T n m _ _ (by omega) (by omega)
        · rw [if_neg h3, if_neg h3]
theorem fits_eq (T : Ts) {n : Nat} {a : Bs} (b : Bs) (h : a.length < n) : fit T n a b = fits T a b := fit_more T (a.length + 1) n a b (by omega) (by omega)
end Go.Proofs.Ytlpmnnkijdbopaa
