/-
  The walks of Letter, Digit, Name: what is a name has no sign in it.
-/
import Derived.Test.YtlpmnnkijdbopaaArms
namespace Go.Proofs.Ytlpmnnkijdbopaa
open Go.RowKit Go.Maps

/-- none of ! [ ] -/
def okc (c : Int) : Prop := c ≠ 33 ∧ c ≠ 91 ∧ c ≠ 93
def ChPost (c : Int) (w : World) (e : Ending) (w' : World) : Prop := ∃ r, e = .returned (.bool r) ∧ (r = true → okc c) ∧ w = w'
theorem letter_33 (w : World) : Calls Try.prog 32 #[.int .u8 33] w (ChPost 33 w) := by
  go_enter Try.func32, Try.ntmps32
  go_wp2
  go_ret
  exact ⟨false, rfl, by simp, rfl⟩
theorem letter_91 (w : World) : Calls Try.prog 32 #[.int .u8 91] w (ChPost 91 w) := by
  go_enter Try.func32, Try.ntmps32
  go_wp2
  go_ret
  exact ⟨false, rfl, by simp, rfl⟩
theorem letter_93 (w : World) : Calls Try.prog 32 #[.int .u8 93] w (ChPost 93 w) := by
  go_enter Try.func32, Try.ntmps32
  go_wp2
  go_ret
  exact ⟨false, rfl, by simp, rfl⟩
set_option maxHeartbeats 800000 in
theorem letter_any (c : Int) (w : World) (h0 : 0 ≤ c) (h1 : c ≤ 255) : Calls Try.prog 32 #[.int .u8 c] w (ChPost c w) := by
  by_cases ok : okc c
  · have OK := hide ok
    clear ok
    go_enter Try.func32, Try.ntmps32
    go_wp2
    all_goals go_ret
    all_goals exact ⟨_, rfl, fun _ => OK.out, rfl⟩
  · by_cases e1 : c = 33
    · subst e1; exact letter_33 w
    · by_cases e2 : c = 91
      · subst e2; exact letter_91 w
      · by_cases e3 : c = 93
        · subst e3; exact letter_93 w
        · exact absurd ⟨e1, e2, e3⟩ ok
theorem digit_33 (w : World) : Calls Try.prog 33 #[.int .u8 33] w (ChPost 33 w) := by
  go_enter Try.func33, Try.ntmps33
  go_wp2
  go_ret
  exact ⟨false, rfl, by simp, rfl⟩
theorem digit_91 (w : World) : Calls Try.prog 33 #[.int .u8 91] w (ChPost 91 w) := by
  go_enter Try.func33, Try.ntmps33
  go_wp2
  go_ret
  exact ⟨false, rfl, by simp, rfl⟩
theorem digit_93 (w : World) : Calls Try.prog 33 #[.int .u8 93] w (ChPost 93 w) := by
  go_enter Try.func33, Try.ntmps33
  go_wp2
  go_ret
  exact ⟨false, rfl, by simp, rfl⟩
set_option maxHeartbeats 800000 in
theorem digit_any (c : Int) (w : World) (h0 : 0 ≤ c) (h1 : c ≤ 255) : Calls Try.prog 33 #[.int .u8 c] w (ChPost c w) := by
  by_cases ok : okc c
  · have OK := hide ok
    clear ok
    go_enter Try.func33, Try.ntmps33
    go_wp2
    all_goals go_ret
    all_goals exact ⟨_, rfl, fun _ => OK.out, rfl⟩
  · by_cases e1 : c = 33
    · subst e1; exact digit_33 w
    · by_cases e2 : c = 91
      · subst e2; exact digit_91 w
      · by_cases e3 : c = 93
        · subst e3; exact digit_93 w
        · exact absurd ⟨e1, e2, e3⟩ ok
theorem letter_u8 (x : UInt8) (w : World) : Calls Try.prog 32 #[.int .u8 (x.toNat : Int)] w (ChPost (x.toNat : Int) w) := letter_any _ w (by omega) (by have := x.toNat_lt; omega)
theorem digit_u8 (x : UInt8) (w : World) : Calls Try.prog 33 #[.int .u8 (x.toNat : Int)] w (ChPost (x.toNat : Int) w) := digit_any _ w (by omega) (by have := x.toNat_lt; omega)
/-- a text of at least one byte without signs -/
def good (s : Bs) : Prop := s ≠ [] ∧ ∀ c ∈ s, okc (c.toNat : Int)
def NmPost (s : Bs) (w : World) (e : Ending) (w' : World) : Prop := ∃ r, e = .returned (.bool r) ∧ (r = true → good s) ∧ w = w'
set_option maxRecDepth 20000 in
set_option maxHeartbeats 1600000 in
theorem name_any {s : Bs} (w : World) (hs : s.length ≤ maxLen) : Calls Try.prog 13 #[tx s] w (NmPost s w) := by
  cases s with
  | nil =>
    clear hs
    go_enter Try.func13, Try.ntmps13
    go_wp2
    go_ret
    exact ⟨false, rfl, by simp, rfl⟩
  | cons x r =>
    obtain ⟨s, hs'⟩ : ∃ s, s = x :: r := ⟨_, rfl⟩
    rw [← hs'] at hs ⊢
    have hne : s.isEmpty = false := by rw [hs']; rfl
    have hpos : 0 < s.length := by rw [hs']; simp
    have i1 : (s.length : Int) ≤ 9223372036854775807 := by unfold maxLen at hs; omega
    have HS := hide (show s ≠ [] by rw [hs']; simp)
    clear hs hs'
    go_enter Try.func13, Try.ntmps13
    go_wp2_with fail
    refine (letter_u8 _ w).mono ?_
    rintro e w1 ⟨q, rfl, hq, rfl⟩
    clear hq
    cases q with
    | false =>
      go_wp2
      go_ret
      exact ⟨false, rfl, by simp, rfl⟩
    | true =>
      go_wp2
      go_loop [3] (fun i => ∃ k : Nat, k ≤ s.length ∧ i = .int .i64 k ∧ Hid (∀ c ∈ s.take k, okc (c.toNat : Int))) (fun i => s.length - (intOf i).toNat)
      case atStart => exact ⟨0, Nat.zero_le _, rfl, hide (by simp)⟩
      case round =>
        obtain ⟨k, hk, rfl, HR⟩ := hrel
        by_cases hlt : k < s.length
        · go_wp2_with fail
          refine (letter_u8 _ w).mono ?_
          rintro e w1 ⟨q, rfl, hq, rfl⟩
          have HQ := hide hq
          clear hq
          cases q with
          | true =>
            go_wp2
            go_round
            case rel => exact ⟨k + 1, by omega, by go_num, hide (fun c hc => by
              rw [List.take_succ_eq_append_getElem hlt] at hc
              rcases List.mem_append.1 hc with hc | hc
              · exact HR.out c hc
              · rw [List.mem_singleton.1 hc]; exact HQ.out (by trivial))⟩
            case measure => simp [intOf]; omega
          | false =>
            go_wp2_with fail
            refine (digit_u8 _ w).mono ?_
            rintro e w1 ⟨q2, rfl, hq2, rfl⟩
            have HQ2 := hide hq2
            clear hq2
            cases q2 with
            | true =>
              go_wp2
              go_round
              case rel => exact ⟨k + 1, by omega, by go_num, hide (fun c hc => by
                rw [List.take_succ_eq_append_getElem hlt] at hc
                rcases List.mem_append.1 hc with hc | hc
                · exact HR.out c hc
                · rw [List.mem_singleton.1 hc]; exact HQ2.out (by trivial))⟩
              case measure => simp [intOf]; omega
            | false =>
              go_wp2
              go_ret
              exact ⟨false, rfl, by simp, rfl⟩
        · have HE := hide (show s.length ≤ k by omega)
          go_wp2
          go_ret
          exact ⟨true, rfl, fun _ => ⟨HS.out, fun c hc => HR.out c (by rw [List.take_of_length_le HE.out]; exact hc)⟩, rfl⟩
end Go.Proofs.Ytlpmnnkijdbopaa
