/-
  The walk of the reference's lexer, the eighth part: Letter, to the byte.
-/
import Derived.Test.YtlpmnnkijdbopaaGreatDoorLexG
namespace Go.Proofs.YtlpmnnkijdbopaaGreatDoor
open Go.RowKit Go.Maps

def letterV (c : Int) : Bool := (decide (97 ≤ c) && decide (c ≤ 122)) || (decide (65 ≤ c) && decide (c ≤ 90)) || decide (c = 95)
set_option maxHeartbeats 800000 in
theorem letter_exact (c : Int) (w : World) (h0 : 0 ≤ c) (h1 : c ≤ 255) : Calls Tryz.prog 109 #[.int .u8 c] w fun e w' => e = .returned (.bool (letterV c)) ∧ w = w' := by
  by_cases h95 : c = 95
  · subst h95
    clear h0 h1
    go_enter Tryz.func109, Tryz.ntmps109
    go_wp2
    go_ret
    exact ⟨rfl, rfl⟩
  · have hb : (c == 95) = false := by simpa using h95
    go_enter Tryz.func109, Tryz.ntmps109
    go_wp2
    all_goals go_ret
    all_goals refine ⟨ret_bl ?_, rfl⟩
    all_goals unfold letterV
    all_goals rw [Bool.eq_iff_iff]
    all_goals simp
    all_goals omega
theorem letterV_ok {c : Int} (h : letterV c = true) : okc c := by
  unfold letterV at h
  simp at h
  unfold okc
  omega
end Go.Proofs.YtlpmnnkijdbopaaGreatDoor
