/-
  The walk of the reference's Good.
-/
import Derived.Test.YtlnmjkilefnjpaaAwake
namespace Go.Proofs.Ytlnmjkilefnjpaa
open Go.RowKit Go.Maps

set_option maxHeartbeats 800000 in
theorem good_yes {w : World} {s : ByteArray} (hg : goodS s = true) :
    Calls Try.prog 20 #[.string s] w fun e w' => e = .returned (.bool true) ∧ w = w' := by
  have hl := goodS_len hg
  have l1 : (1 : Int) ≤ (s.size : Int) := by omega
  have l2 : (s.size : Int) ≤ 20 := by omega
  have HG := hide hg
  clear hg hl
  go_enter Try.func20, Try.ntmps20
  go_wp2
  go_loop [3] (fun i => ∃ m : Nat, m ≤ s.size ∧ i = .int .i64 m) (fun i => s.size - (intOf i).toNat)
  case atStart => exact ⟨0, Nat.zero_le _, rfl⟩
  case round =>
    obtain ⟨m, hm, rfl⟩ := hrel
    by_cases hlm : m < s.size
    · have hch := good_char hlm HG.out
      go_wp2
      all_goals first
        | (exfalso; simp only [Bool.not_eq_true', beq_eq_false_iff_ne, ne_eq] at *; omega)
        | (go_round
           case rel => exact ⟨m + 1, by omega, by go_num⟩
           case measure => simp [intOf]; omega)

    · go_wp2
      go_ret
      exact ⟨rfl, rfl⟩
set_option maxHeartbeats 1600000 in
theorem good_no {w : World} {s : ByteArray} (hmax : s.size ≤ 1000000) (hg : ¬ goodS s = true) :
    Calls Try.prog 20 #[.string s] w fun e w' => e = .returned (.bool false) ∧ w = w' := by
  have hmax1 : (s.size : Int) ≤ 1000000 := by omega
  have HG := hide hg
  clear hg hmax
  by_cases l1 : (s.size : Int) < 1
  · go_enter Try.func20, Try.ntmps20
    go_wp2
    go_ret
    exact ⟨rfl, rfl⟩
  by_cases l2 : (20 : Int) < (s.size : Int)
  · go_enter Try.func20, Try.ntmps20
    go_wp2
    go_ret
    exact ⟨rfl, rfl⟩
  go_enter Try.func20, Try.ntmps20
  go_wp2
  go_loop [3] (fun i => ∃ m : Nat, m ≤ s.size ∧ i = .int .i64 m ∧ Hid (okc s m)) (fun i => s.size - (intOf i).toNat)
  case atStart => exact ⟨0, Nat.zero_le _, rfl, hide (fun j hj h => by omega)⟩
  case round =>
    obtain ⟨m, hm, rfl, HO⟩ := hrel
    by_cases hlm : m < s.size
    · by_cases hch : (97 ≤ (s[m].toNat : Int) ∧ (s[m].toNat : Int) ≤ 122) ∨ (48 ≤ (s[m].toNat : Int) ∧ (s[m].toNat : Int) ≤ 57) ∨ (s[m].toNat : Int) = 46 ∨ (s[m].toNat : Int) = 45
      · have HO2 := hide (okc_succ HO.out hlm hch)
        go_wp2
        all_goals first
          | (exfalso; simp only [Bool.not_eq_true', beq_eq_false_iff_ne, ne_eq] at *; omega)
          | (go_round
             case rel => exact ⟨m + 1, by omega, by go_num, HO2⟩
             case measure => simp [intOf]; omega)

      · have e1 : ((s[m].toNat : Int) == 46) = false := by simp only [beq_eq_false_iff_ne, ne_eq]; omega
        have e2 : ((s[m].toNat : Int) == 45) = false := by simp only [beq_eq_false_iff_ne, ne_eq]; omega
        have e3 : ¬ (97 ≤ (s[m].toNat : Int) ∧ (s[m].toNat : Int) ≤ 122) := by omega
        have e4 : ¬ (48 ≤ (s[m].toNat : Int) ∧ (s[m].toNat : Int) ≤ 57) := by omega
        clear hch
        go_wp2
        all_goals first
          | (go_ret; exact ⟨rfl, rfl⟩)
          | (exfalso; simp only [Bool.not_eq_false', decide_eq_true_eq] at *; omega)

    · exfalso
      refine HG.out (bad_some (by omega) (by omega) fun j hj => HO.out j hj (by omega))
end Go.Proofs.Ytlnmjkilefnjpaa
