/-
  The walks of the reference's lexer, the second part: digits, hex, three, blanks, gap, number.
-/
import Derived.Test.YtlpmnnkijdbopaaGreatDoorLexA
import Derived.Deep.DeepCutAuto
namespace Go.Proofs.YtlpmnnkijdbopaaGreatDoor
open Go.RowKit Go.Maps

def AtPost (s : Bs) (k : Int) (w : World) (e : Ending) (w' : World) : Prop := ∃ m : Int, e = .returned (.int .i64 m) ∧ k ≤ m ∧ m ≤ s.length ∧ w = w'
set_option maxHeartbeats 800000 in
theorem digits_any (s : Bs) (k : Int) (w : World) (h0 : 0 ≤ k) (hk : k ≤ s.length) (hs : s.length ≤ 100000) : Calls Tryz.prog 121 #[tx s, .int .i64 k] w (AtPost s k w) := by
  obtain ⟨k, rfl⟩ := Int.eq_ofNat_of_zero_le h0
  have i1 : (s.length : Int) ≤ 100000 := by omega
  have hk' : k ≤ s.length := by omega
  clear h0 hs hk
  go_enter Tryz.func121, Tryz.ntmps121
  go_wp2
  go_loop [1] (fun i => ∃ m : Nat, k ≤ m ∧ m ≤ s.length ∧ i = .int .i64 m) (fun i => s.length - (intOf i).toNat)
  case atStart => exact ⟨k, Nat.le_refl _, hk', rfl⟩
  case round =>
    obtain ⟨m, hkm, hm, rfl⟩ := hrel
    by_cases hlt : m < s.length
    · go_wp2_with fail
      refine (digit_u8 _ w).mono ?_
      rintro e w1 ⟨q, rfl, hq, rfl⟩
      clear hq
      cases q with
      | true =>
        go_wp2
        go_round
        case rel => exact ⟨m + 1, by omega, by omega, by go_num⟩
        case measure => simp [intOf]; omega
      | false =>
        go_wp2
        go_ret
        exact ⟨m, rfl, by omega, by omega, rfl⟩
    · go_wp2
      go_ret
      exact ⟨m, rfl, by omega, by omega, rfl⟩
def IntPost (lo hi : Int) (w : World) (e : Ending) (w' : World) : Prop := ∃ r : Int, e = .returned (.int .i64 r) ∧ lo ≤ r ∧ r ≤ hi ∧ w = w'
set_option maxHeartbeats 800000 in
theorem hex_any (c : Int) (w : World) (h0 : -1 ≤ c) (h1 : c ≤ 255) : Calls Tryz.prog 129 #[.int .i64 c] w (IntPost (-1) 15 w) := by
  go_enter Tryz.func129, Tryz.ntmps129
  go_wp2
  all_goals go_ret
  all_goals exact ⟨_, rfl, by omega, by omega, rfl⟩
def BoolPost (p : Prop) (w : World) (e : Ending) (w' : World) : Prop := ∃ q : Bool, e = .returned (.bool q) ∧ (q = true → p) ∧ w = w'
set_option maxHeartbeats 800000 in
theorem three_any (s : Bs) (k : Int) (w : World) (h0 : 0 ≤ k) (hk : k ≤ s.length) (hs : s.length ≤ 100000) : Calls Tryz.prog 112 #[tx s, .int .i64 k] w (BoolPost (k + 3 ≤ s.length) w) := by
  obtain ⟨k, rfl⟩ := Int.eq_ofNat_of_zero_le h0
  have i1 : (s.length : Int) ≤ 100000 := by omega
  have hk' : k ≤ s.length := by omega
  clear h0 hs hk
  by_cases hlt : k + 3 ≤ s.length
  · have hlt' : (k : Int) + 3 ≤ s.length := by omega
    have HL := hide hlt'
    go_enter Tryz.func112, Tryz.ntmps112
    go_wp2
    go_ret
    exact ⟨_, rfl, fun _ => HL.out, rfl⟩
  · have hlt' : ¬ (k : Int) + 3 ≤ s.length := by omega
    go_enter Tryz.func112, Tryz.ntmps112
    go_wp2
    go_ret
    exact ⟨false, rfl, by simp, rfl⟩
set_option maxHeartbeats 800000 in
theorem blanks_any (s : Bs) (w : World) (hs : s.length ≤ 100000) : Calls Tryz.prog 128 #[tx s] w (IntPost 0 s.length w) := by
  have i1 : (s.length : Int) ≤ 100000 := by omega
  clear hs
  go_enter Tryz.func128, Tryz.ntmps128
  go_wp2
  go_loop [3] (fun i => ∃ m : Nat, m ≤ s.length ∧ i = .int .i64 m) (fun i => s.length - (intOf i).toNat)
  case atStart => exact ⟨0, by omega, rfl⟩
  case round =>
    obtain ⟨m, hm, rfl⟩ := hrel
    by_cases hlt : m < s.length
    · go_wp2_with fail
      all_goals first
        | (go_round
           case rel => exact ⟨m + 1, by omega, by go_num⟩
           case measure => simp [intOf]; omega)
        | (go_ret; exact ⟨m, rfl, by omega, by omega, rfl⟩)
    · go_wp2
      go_ret
      exact ⟨m, rfl, by omega, by omega, rfl⟩
def GapPost (s : Bs) (k : Int) (w : World) (e : Ending) (w' : World) : Prop := ∃ (m : Int) (q : Bool), e = .returned (.tuple #[.int .i64 m, .bool q]) ∧ k ≤ m ∧ m ≤ s.length ∧ w = w'
set_option maxRecDepth 20000 in
set_option maxHeartbeats 3200000 in
theorem gap_any (s : Bs) (k : Int) (w : World) (h0 : 0 ≤ k) (hk : k ≤ s.length) (hs : s.length ≤ 100000) : Calls Tryz.prog 93 #[tx s, .int .i64 k] w (GapPost s k w) := by
  obtain ⟨k, rfl⟩ := Int.eq_ofNat_of_zero_le h0
  have i1 : (s.length : Int) ≤ 100000 := by omega
  have hk' : k ≤ s.length := by omega
  have HS := hide hs
  clear h0 hs hk
  go_enter Tryz.func93, Tryz.ntmps93
  go_wp2
  go_loop [1] (fun i => ∃ m : Nat, k ≤ m ∧ m ≤ s.length ∧ i = .int .i64 m) (fun i => s.length - (intOf i).toNat)
  case atStart => exact ⟨k, Nat.le_refl _, hk', rfl⟩
  case round =>
    obtain ⟨m, hkm, hm, rfl⟩ := hrel
    by_cases hlt : m < s.length
    · by_cases hm0 : m = 0
      · subst hm0
        have hsz : 0 < (ByteArray.mk s.toArray).size := by show 0 < s.toArray.size; simpa using hlt
        by_cases h35 : (((ByteArray.mk s.toArray)[0]).toNat : Int) = 35
        · have b10 : ((((ByteArray.mk s.toArray)[0]).toNat : Int) != 10) = true := by rw [h35]; rfl
          have b13 : ((((ByteArray.mk s.toArray)[0]).toNat : Int) != 13) = true := by rw [h35]; rfl
          have b35 : ((((ByteArray.mk s.toArray)[0]).toNat : Int) == 35) = true := by rw [h35]; rfl
          go_wp2_with fail
          all_goals first
            | (go_round
               case rel => exact ⟨3, by omega, by omega, by go_num⟩
               case measure => simp [intOf]; omega)
            | skip
          all_goals
            go_loop [1] (fun i => ∃ p : Nat, 0 ≤ p ∧ p ≤ s.length ∧ i = .int .i64 p) (fun i => s.length - (intOf i).toNat)
            case atStart => exact ⟨0, Nat.le_refl _, by omega, rfl⟩
            case round =>
              obtain ⟨p, hmp, hp, rfl⟩ := hrel
              by_cases hpm : p = 0
              · subst hpm
                go_wp2_with fail
                refine (rune_any s 0 w (by omega) (by omega) HS.out).mono ?_
                rintro e w1 ⟨r, n, rfl, n0, n1, n2, rfl⟩
                obtain ⟨n, rfl⟩ := Int.eq_ofNat_of_zero_le n0
                by_cases hn : n = 0
                · subst hn
                  go_wp2
                  all_goals (go_ret2; exact ⟨_, false, rfl, by omega, by omega, rfl⟩)
                · have hn1 := n1 (by omega)
                  clear n1
                  go_wp2
                  all_goals first
                    | (go_ret2; exact ⟨_, false, rfl, by omega, by omega, rfl⟩)
                    | (go_round
                       case rel => exact ⟨n, by omega, by omega, by go_num⟩
                       case measure => simp [intOf]; omega)
              · by_cases hpl : p < s.length
                · go_wp2_with fail
                  all_goals first
                    | (go_round
                       case rel => exact ⟨p, by omega, by omega, by go_num⟩
                       case measure => simp [intOf]; omega)
                    | (refine (rune_any s p w (by omega) (by omega) HS.out).mono ?_
                       rintro e w1 ⟨r, n, rfl, n0, n1, n2, rfl⟩
                       obtain ⟨n, rfl⟩ := Int.eq_ofNat_of_zero_le n0
                       by_cases hn : n = 0
                       · subst hn
                         go_wp2
                         all_goals (go_ret2; exact ⟨_, false, rfl, by omega, by omega, rfl⟩)
                       · have hn1 := n1 (by omega)
                         clear n1
                         go_wp2
                         all_goals first
                           | (go_ret2; exact ⟨_, false, rfl, by omega, by omega, rfl⟩)
                           | (go_round
                              case rel => exact ⟨p + n, by omega, by omega, by go_num⟩
                              case measure => simp [intOf]; omega))
                · go_wp2
                  all_goals
                    go_round
                    case rel => exact ⟨p, by omega, by omega, by go_num⟩
                    case measure => simp [intOf]; omega
        · have hb : ((((ByteArray.mk s.toArray)[0]).toNat : Int) == 35) = false := by simpa using h35
          go_wp2_with fail
          all_goals first
            | (go_round
               case rel => exact ⟨0 + 1, by omega, by omega, by go_num⟩
               case measure => simp [intOf]; try omega)
            | (go_round
               case rel => exact ⟨3, by omega, by omega, by go_num⟩
               case measure => simp [intOf]; try omega)
            | (go_ret2; exact ⟨_, true, rfl, by omega, by omega, rfl⟩)
      · skip
        have hsz : m < (ByteArray.mk s.toArray).size := by show m < s.toArray.size; simpa using hlt
        by_cases h35 : (((ByteArray.mk s.toArray)[m]).toNat : Int) = 35
        · have b10 : ((((ByteArray.mk s.toArray)[m]).toNat : Int) != 10) = true := by rw [h35]; rfl
          have b13 : ((((ByteArray.mk s.toArray)[m]).toNat : Int) != 13) = true := by rw [h35]; rfl
          have b35 : ((((ByteArray.mk s.toArray)[m]).toNat : Int) == 35) = true := by rw [h35]; rfl
          go_wp2_with fail
          all_goals first
            | (go_round
               case rel => exact ⟨3, by omega, by omega, by go_num⟩
               case measure => simp [intOf]; omega)
            | skip
          all_goals
            go_loop [1] (fun i => ∃ p : Nat, m ≤ p ∧ p ≤ s.length ∧ i = .int .i64 p) (fun i => s.length - (intOf i).toNat)
            case atStart => exact ⟨m, Nat.le_refl _, by omega, rfl⟩
            case round =>
              obtain ⟨p, hmp, hp, rfl⟩ := hrel
              by_cases hpm : p = m
              · subst hpm
                go_wp2_with fail
                refine (rune_any s p w (by omega) (by omega) HS.out).mono ?_
                rintro e w1 ⟨r, n, rfl, n0, n1, n2, rfl⟩
                obtain ⟨n, rfl⟩ := Int.eq_ofNat_of_zero_le n0
                by_cases hn : n = 0
                · subst hn
                  go_wp2
                  all_goals (go_ret2; exact ⟨_, false, rfl, by omega, by omega, rfl⟩)
                · have hn1 := n1 (by omega)
                  clear n1
                  go_wp2
                  all_goals first
                    | (go_ret2; exact ⟨_, false, rfl, by omega, by omega, rfl⟩)
                    | (go_round
                       case rel => exact ⟨p + n, by omega, by omega, by go_num⟩
                       case measure => simp [intOf]; omega)
              · by_cases hpl : p < s.length
                · go_wp2_with fail
                  all_goals first
                    | (go_round
                       case rel => exact ⟨p, by omega, by omega, by go_num⟩
                       case measure => simp [intOf]; omega)
                    | (refine (rune_any s p w (by omega) (by omega) HS.out).mono ?_
                       rintro e w1 ⟨r, n, rfl, n0, n1, n2, rfl⟩
                       obtain ⟨n, rfl⟩ := Int.eq_ofNat_of_zero_le n0
                       by_cases hn : n = 0
                       · subst hn
                         go_wp2
                         all_goals (go_ret2; exact ⟨_, false, rfl, by omega, by omega, rfl⟩)
                       · have hn1 := n1 (by omega)
                         clear n1
                         go_wp2
                         all_goals first
                           | (go_ret2; exact ⟨_, false, rfl, by omega, by omega, rfl⟩)
                           | (go_round
                              case rel => exact ⟨p + n, by omega, by omega, by go_num⟩
                              case measure => simp [intOf]; omega))
                · go_wp2
                  all_goals
                    go_round
                    case rel => exact ⟨p, by omega, by omega, by go_num⟩
                    case measure => simp [intOf]; omega
        · have hb : ((((ByteArray.mk s.toArray)[m]).toNat : Int) == 35) = false := by simpa using h35
          go_wp2_with fail
          all_goals first
            | (go_round
               case rel => exact ⟨m + 1, by omega, by omega, by go_num⟩
               case measure => simp [intOf]; try omega)
            | (go_round
               case rel => exact ⟨3, by omega, by omega, by go_num⟩
               case measure => simp [intOf]; try omega)
            | (go_ret2; exact ⟨_, true, rfl, by omega, by omega, rfl⟩)
    · go_wp2
      go_ret2
      exact ⟨m, true, rfl, by omega, by omega, rfl⟩
end Go.Proofs.YtlpmnnkijdbopaaGreatDoor
