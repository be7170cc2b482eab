/-
  The walks of Letter, Digit, Name: what is a name has no sign in it.
-/
import Derived.Test.YtlpmnnkijdbopaaGreatDoorArms
namespace Go.Proofs.YtlpmnnkijdbopaaGreatDoor
open Go.RowKit Go.Maps

/-- none of ! [ ] -/
def okc (c : Int) : Prop := c ≠ 33 ∧ c ≠ 91 ∧ c ≠ 93
def ChPost (c : Int) (w : World) (e : Ending) (w' : World) : Prop := ∃ r, e = .returned (.bool r) ∧ (r = true → okc c) ∧ w = w'
theorem letter_33 (w : World) : Calls Tryz.prog 109 #[.int .u8 33] w (ChPost 33 w) := by
  go_enter Tryz.func109, Tryz.ntmps109
  go_wp2
  go_ret
  exact ⟨false, rfl, by simp, rfl⟩
theorem letter_91 (w : World) : Calls Tryz.prog 109 #[.int .u8 91] w (ChPost 91 w) := by
  go_enter Tryz.func109, Tryz.ntmps109
  go_wp2
  go_ret
  exact ⟨false, rfl, by simp, rfl⟩
theorem letter_93 (w : World) : Calls Tryz.prog 109 #[.int .u8 93] w (ChPost 93 w) := by
  go_enter Tryz.func109, Tryz.ntmps109
  go_wp2
  go_ret
  exact ⟨false, rfl, by simp, rfl⟩
set_option maxHeartbeats 800000 in
theorem letter_any (c : Int) (w : World) (h0 : 0 ≤ c) (h1 : c ≤ 255) : Calls Tryz.prog 109 #[.int .u8 c] w (ChPost c w) := by
  by_cases ok : okc c
  · have OK := hide ok
    clear ok
    go_enter Tryz.func109, Tryz.ntmps109
    go_wp2
    all_goals go_ret
    all_goals exact ⟨_, rfl, fun _ => OK.out, rfl⟩
  · by_cases e1 : c = 33
    · subst e1; exact letter_33 w
    · by_cases e2 : c = 91
      · subst e2; exact letter_91 w
      · by_cases e3 : c = 93
        · subst e3; exact letter_93 w
        · exact absurd ⟨e1, e2, e3⟩ ok
theorem digit_33 (w : World) : Calls Tryz.prog 110 #[.int .u8 33] w (ChPost 33 w) := by
  go_enter Tryz.func110, Tryz.ntmps110
  go_wp2
  go_ret
  exact ⟨false, rfl, by simp, rfl⟩
theorem digit_91 (w : World) : Calls Tryz.prog 110 #[.int .u8 91] w (ChPost 91 w) := by
  go_enter Tryz.func110, Tryz.ntmps110
  go_wp2
  go_ret
  exact ⟨false, rfl, by simp, rfl⟩
theorem digit_93 (w : World) : Calls Tryz.prog 110 #[.int .u8 93] w (ChPost 93 w) := by
  go_enter Tryz.func110, Tryz.ntmps110
  go_wp2
  go_ret
  exact ⟨false, rfl, by simp, rfl⟩
set_option maxHeartbeats 800000 in
theorem digit_any (c : Int) (w : World) (h0 : 0 ≤ c) (h1 : c ≤ 255) : Calls Tryz.prog 110 #[.int .u8 c] w (ChPost c w) := by
  by_cases ok : okc c
  · have OK := hide ok
    clear ok
    go_enter Tryz.func110, Tryz.ntmps110
    go_wp2
    all_goals go_ret
    all_goals exact ⟨_, rfl, fun _ => OK.out, rfl⟩
  · by_cases e1 : c = 33
    · subst e1; exact digit_33 w
    · by_cases e2 : c = 91
      · subst e2; exact digit_91 w
      · by_cases e3 : c = 93
        · subst e3; exact digit_93 w
        · exact absurd ⟨e1, e2, e3⟩ ok
theorem letter_u8 (x : UInt8) (w : World) : Calls Tryz.prog 109 #[.int .u8 (x.toNat : Int)] w (ChPost (x.toNat : Int) w) := letter_any _ w (by omega) (by have := x.toNat_lt; omega)
theorem digit_u8 (x : UInt8) (w : World) : Calls Tryz.prog 110 #[.int .u8 (x.toNat : Int)] w (ChPost (x.toNat : Int) w) := digit_any _ w (by omega) (by have := x.toNat_lt; omega)
/-- a text of at least one byte without signs -/
def good (s : Bs) : Prop := s ≠ [] ∧ ∀ c ∈ s, okc (c.toNat : Int)
def NmPost (s : Bs) (w : World) (e : Ending) (w' : World) : Prop := ∃ r, e = .returned (.bool r) ∧ (r = true → good s) ∧ w = w'
end Go.Proofs.YtlpmnnkijdbopaaGreatDoor
