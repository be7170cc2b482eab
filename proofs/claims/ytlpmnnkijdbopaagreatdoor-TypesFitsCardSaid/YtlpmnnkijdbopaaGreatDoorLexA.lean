/-
  The walks of the reference's lexer, the first part: a byte, a rune, digits, numbers, blanks.
-/
import Derived.Test.YtlpmnnkijdbopaaGreatDoorName
namespace Go.Proofs.YtlpmnnkijdbopaaGreatDoor
open Go.RowKit Go.Maps

theorem ret_i {x y : Int} (h : x = y) : Ending.returned (.int .i64 x) = .returned (.int .i64 y) := by rw [h]
theorem wrap_u8 (c : UInt8) : wrap64 (c.toNat : Int) = (c.toNat : Int) := by have := c.toNat_lt; exact IntWalk.wrap64_in _ (by omega)
theorem ret_bl {x y : Bool} (h : x = y) : Ending.returned (.bool x) = .returned (.bool y) := by rw [h]
/-- the byte at a place; -1 behind the end -/
def oneV (s : Bs) (k : Int) : Int := match s[k.toNat]? with | some c => (c.toNat : Int) | none => -1
theorem oneV_lt {s : Bs} {k : Int} (h : 0 ≤ oneV s k) : k < s.length := by
  unfold oneV at h
  split at h
  · rename_i c hc
    have := (List.getElem?_eq_some_iff.1 hc).1
    omega
  · omega
theorem oneV_b (s : Bs) (k : Int) : -1 ≤ oneV s k ∧ oneV s k ≤ 255 := by
  unfold oneV
  split
  · rename_i c _
    have := c.toNat_lt
    omega
  · omega
theorem one_any (s : Bs) (k : Int) (w : World) (h0 : 0 ≤ k) (hs : s.length ≤ maxLen) : Calls Tryz.prog 119 #[tx s, .int .i64 k] w fun e w' => e = .returned (.int .i64 (oneV s k)) ∧ w = w' := by
  obtain ⟨k, rfl⟩ := Int.eq_ofNat_of_zero_le h0
  have i1 : (s.length : Int) ≤ 9223372036854775807 := by unfold maxLen at hs; omega
  clear h0 hs
  by_cases hlt : k < s.length
  · have HV := hide (show oneV s k = ((s[k]).toNat : Int) by unfold oneV; simp [hlt])
    go_enter Tryz.func119, Tryz.ntmps119
    go_wp2
    go_ret
    exact ⟨ret_i (by rw [HV.out]; exact wrap_u8 _), rfl⟩
  · have HV := hide (show oneV s k = -1 by unfold oneV; simp [hlt])
    go_enter Tryz.func119, Tryz.ntmps119
    go_wp2
    go_ret
    exact ⟨ret_i (by rw [HV.out]), rfl⟩
def goesV (s : Bs) (k : Int) : Bool := decide (128 ≤ oneV s k) && decide (oneV s k < 192)
theorem goesV_lt {s : Bs} {k : Int} (h : goesV s k = true) : k < s.length := by
  unfold goesV at h
  simp at h
  exact oneV_lt (by omega)
theorem goes_any (s : Bs) (k : Int) (w : World) (h0 : 0 ≤ k) (hs : s.length ≤ maxLen) : Calls Tryz.prog 120 #[tx s, .int .i64 k] w fun e w' => e = .returned (.bool (goesV s k)) ∧ w = w' := by
  have H := hide (And.intro h0 hs)
  obtain ⟨v, hv⟩ : ∃ v, v = oneV s k := ⟨_, rfl⟩
  have HV := hide hv
  have hb := oneV_b s k
  rw [← hv] at hb
  obtain ⟨b1, b2⟩ := hb
  clear h0 hs hv
  by_cases h1 : 128 ≤ v
  · by_cases h2 : v < 192
    · go_enter Tryz.func120, Tryz.ntmps120
      go_wp2_with fail
      refine (one_any s k w H.out.1 H.out.2).mono ?_
      rw [← HV.out]
      rintro e w' ⟨rfl, rfl⟩
      go_wp2_with fail
      refine (one_any s k w H.out.1 H.out.2).mono ?_
      rw [← HV.out]
      rintro e w' ⟨rfl, rfl⟩
      go_wp2
      go_ret
      exact ⟨ret_bl (by unfold goesV; rw [← HV.out]; first | (simp; done) | (simp; omega)), rfl⟩
    · go_enter Tryz.func120, Tryz.ntmps120
      go_wp2_with fail
      refine (one_any s k w H.out.1 H.out.2).mono ?_
      rw [← HV.out]
      rintro e w' ⟨rfl, rfl⟩
      go_wp2_with fail
      refine (one_any s k w H.out.1 H.out.2).mono ?_
      rw [← HV.out]
      rintro e w' ⟨rfl, rfl⟩
      go_wp2
      go_ret
      exact ⟨ret_bl (by unfold goesV; rw [← HV.out]; first | (simp; done) | (simp; omega)), rfl⟩
  · go_enter Tryz.func120, Tryz.ntmps120
    go_wp2_with fail
    refine (one_any s k w H.out.1 H.out.2).mono ?_
    rw [← HV.out]
    rintro e w' ⟨rfl, rfl⟩
    go_wp2
    go_ret
    exact ⟨ret_bl (by unfold goesV; rw [← HV.out]; first | (simp; done) | (simp; omega)), rfl⟩
/-- a rune and its bytes -/
def RunePost (s : Bs) (k : Int) (w : World) (e : Ending) (w' : World) : Prop := ∃ r n : Int, e = .returned (.tuple #[.int .i64 r, .int .i64 n]) ∧ 0 ≤ n ∧ (0 < n → k + n ≤ s.length) ∧ n ≤ 4 ∧ w = w'
set_option maxRecDepth 20000 in
set_option maxHeartbeats 3200000 in
theorem rune_any (s : Bs) (k : Int) (w : World) (h0 : 0 ≤ k) (hk : k ≤ s.length) (hs : s.length ≤ 100000) : Calls Tryz.prog 108 #[tx s, .int .i64 k] w (RunePost s k w) := by
  have i1 : (s.length : Int) ≤ 100000 := by omega
  have i2 : s.length ≤ maxLen := by unfold maxLen; omega
  obtain ⟨v, hv⟩ : ∃ v, v = oneV s k := ⟨_, rfl⟩
  obtain ⟨v1, hv1⟩ : ∃ v, v = oneV s (k + 1) := ⟨_, rfl⟩
  obtain ⟨v2, hv2⟩ : ∃ v, v = oneV s (k + 2) := ⟨_, rfl⟩
  obtain ⟨v3, hv3⟩ : ∃ v, v = oneV s (k + 3) := ⟨_, rfl⟩
  obtain ⟨g1, hg1⟩ : ∃ v, v = goesV s (k + 1) := ⟨_, rfl⟩
  obtain ⟨g2, hg2⟩ : ∃ v, v = goesV s (k + 2) := ⟨_, rfl⟩
  obtain ⟨g3, hg3⟩ : ∃ v, v = goesV s (k + 3) := ⟨_, rfl⟩
  have b0 := oneV_b s k
  have b1 := oneV_b s (k + 1)
  have b2 := oneV_b s (k + 2)
  have b3 := oneV_b s (k + 3)
  rw [← hv] at b0
  rw [← hv1] at b1
  rw [← hv2] at b2
  rw [← hv3] at b3
  have l0 : 0 ≤ v → k + 1 ≤ s.length := fun h => by have := oneV_lt (hv ▸ h); omega
  have l1 : g1 = true → k + 2 ≤ s.length := fun h => by have := goesV_lt (hg1 ▸ h); omega
  have l2 : g2 = true → k + 3 ≤ s.length := fun h => by have := goesV_lt (hg2 ▸ h); omega
  have l3 : g3 = true → k + 4 ≤ s.length := fun h => by have := goesV_lt (hg3 ▸ h); omega
  have c0 := one_any s k w h0 i2
  have c1 := one_any s (k + 1) w (by omega) i2
  have c2 := one_any s (k + 2) w (by omega) i2
  have c3 := one_any s (k + 3) w (by omega) i2
  have d1 := goes_any s (k + 1) w (by omega) i2
  have d2 := goes_any s (k + 2) w (by omega) i2
  have d3 := goes_any s (k + 3) w (by omega) i2
  rw [← hv] at c0
  rw [← hv1] at c1
  rw [← hv2] at c2
  rw [← hv3] at c3
  rw [← hg1] at d1
  rw [← hg2] at d2
  rw [← hg3] at d3
  have C := hide (And.intro c0 (And.intro c1 (And.intro c2 (And.intro c3 (And.intro d1 (And.intro d2 d3))))))
  have L := hide (And.intro l0 (And.intro l1 (And.intro l2 l3)))
  obtain ⟨p1, p2⟩ := b0
  obtain ⟨p3, p4⟩ := b1
  obtain ⟨p5, p6⟩ := b2
  obtain ⟨p7, p8⟩ := b3
  clear hv hv1 hv2 hv3 hg1 hg2 hg3 l0 l1 l2 l3 c0 c1 c2 c3 d1 d2 d3
  by_cases q0 : v < 0
  · skip
    go_enter Tryz.func108, Tryz.ntmps108
    go_wp2_with (first
      | (with_reducible refine C.out.1.mono ?_; rintro e w' ⟨rfl, rfl⟩)
      | (with_reducible refine C.out.2.1.mono ?_; rintro e w' ⟨rfl, rfl⟩)
      | (with_reducible refine C.out.2.2.1.mono ?_; rintro e w' ⟨rfl, rfl⟩)
      | (with_reducible refine C.out.2.2.2.1.mono ?_; rintro e w' ⟨rfl, rfl⟩)
      | (with_reducible refine C.out.2.2.2.2.1.mono ?_; rintro e w' ⟨rfl, rfl⟩)
      | (with_reducible refine C.out.2.2.2.2.2.1.mono ?_; rintro e w' ⟨rfl, rfl⟩)
      | (with_reducible refine C.out.2.2.2.2.2.2.mono ?_; rintro e w' ⟨rfl, rfl⟩))
    all_goals go_ret2
    all_goals first | exact ⟨_, 0, rfl, by omega, fun h => absurd h (by omega), by omega, rfl⟩
  by_cases q1 : v < 128
  · skip
    go_enter Tryz.func108, Tryz.ntmps108
    go_wp2_with (first
      | (with_reducible refine C.out.1.mono ?_; rintro e w' ⟨rfl, rfl⟩)
      | (with_reducible refine C.out.2.1.mono ?_; rintro e w' ⟨rfl, rfl⟩)
      | (with_reducible refine C.out.2.2.1.mono ?_; rintro e w' ⟨rfl, rfl⟩)
      | (with_reducible refine C.out.2.2.2.1.mono ?_; rintro e w' ⟨rfl, rfl⟩)
      | (with_reducible refine C.out.2.2.2.2.1.mono ?_; rintro e w' ⟨rfl, rfl⟩)
      | (with_reducible refine C.out.2.2.2.2.2.1.mono ?_; rintro e w' ⟨rfl, rfl⟩)
      | (with_reducible refine C.out.2.2.2.2.2.2.mono ?_; rintro e w' ⟨rfl, rfl⟩))
    all_goals go_ret2
    all_goals first | exact ⟨_, 0, rfl, by omega, fun h => absurd h (by omega), by omega, rfl⟩ | exact ⟨_, 1, rfl, by omega, fun _ => L.out.1 (by omega), by omega, rfl⟩
  by_cases q2 : v < 192
  · skip
    go_enter Tryz.func108, Tryz.ntmps108
    go_wp2_with (first
      | (with_reducible refine C.out.1.mono ?_; rintro e w' ⟨rfl, rfl⟩)
      | (with_reducible refine C.out.2.1.mono ?_; rintro e w' ⟨rfl, rfl⟩)
      | (with_reducible refine C.out.2.2.1.mono ?_; rintro e w' ⟨rfl, rfl⟩)
      | (with_reducible refine C.out.2.2.2.1.mono ?_; rintro e w' ⟨rfl, rfl⟩)
      | (with_reducible refine C.out.2.2.2.2.1.mono ?_; rintro e w' ⟨rfl, rfl⟩)
      | (with_reducible refine C.out.2.2.2.2.2.1.mono ?_; rintro e w' ⟨rfl, rfl⟩)
      | (with_reducible refine C.out.2.2.2.2.2.2.mono ?_; rintro e w' ⟨rfl, rfl⟩))
    all_goals go_ret2
    all_goals first | exact ⟨_, 0, rfl, by omega, fun h => absurd h (by omega), by omega, rfl⟩
  by_cases q3 : v < 224
  · cases g1 with
    | false =>
      go_enter Tryz.func108, Tryz.ntmps108
      go_wp2_with (first
        | (with_reducible refine C.out.1.mono ?_; rintro e w' ⟨rfl, rfl⟩)
        | (with_reducible refine C.out.2.1.mono ?_; rintro e w' ⟨rfl, rfl⟩)
        | (with_reducible refine C.out.2.2.1.mono ?_; rintro e w' ⟨rfl, rfl⟩)
        | (with_reducible refine C.out.2.2.2.1.mono ?_; rintro e w' ⟨rfl, rfl⟩)
        | (with_reducible refine C.out.2.2.2.2.1.mono ?_; rintro e w' ⟨rfl, rfl⟩)
        | (with_reducible refine C.out.2.2.2.2.2.1.mono ?_; rintro e w' ⟨rfl, rfl⟩)
        | (with_reducible refine C.out.2.2.2.2.2.2.mono ?_; rintro e w' ⟨rfl, rfl⟩))
      all_goals go_ret2
      all_goals first | exact ⟨_, 0, rfl, by omega, fun h => absurd h (by omega), by omega, rfl⟩
    | true =>
      go_enter Tryz.func108, Tryz.ntmps108
      go_wp2_with (first
        | (with_reducible refine C.out.1.mono ?_; rintro e w' ⟨rfl, rfl⟩)
        | (with_reducible refine C.out.2.1.mono ?_; rintro e w' ⟨rfl, rfl⟩)
        | (with_reducible refine C.out.2.2.1.mono ?_; rintro e w' ⟨rfl, rfl⟩)
        | (with_reducible refine C.out.2.2.2.1.mono ?_; rintro e w' ⟨rfl, rfl⟩)
        | (with_reducible refine C.out.2.2.2.2.1.mono ?_; rintro e w' ⟨rfl, rfl⟩)
        | (with_reducible refine C.out.2.2.2.2.2.1.mono ?_; rintro e w' ⟨rfl, rfl⟩)
        | (with_reducible refine C.out.2.2.2.2.2.2.mono ?_; rintro e w' ⟨rfl, rfl⟩))
      all_goals go_ret2
      all_goals first | exact ⟨_, 0, rfl, by omega, fun h => absurd h (by omega), by omega, rfl⟩ | exact ⟨_, 2, rfl, by omega, fun _ => L.out.2.1 (by trivial), by omega, rfl⟩
  by_cases q4 : v < 240
  · cases g1 with
    | false =>
      go_enter Tryz.func108, Tryz.ntmps108
      go_wp2_with (first
        | (with_reducible refine C.out.1.mono ?_; rintro e w' ⟨rfl, rfl⟩)
        | (with_reducible refine C.out.2.1.mono ?_; rintro e w' ⟨rfl, rfl⟩)
        | (with_reducible refine C.out.2.2.1.mono ?_; rintro e w' ⟨rfl, rfl⟩)
        | (with_reducible refine C.out.2.2.2.1.mono ?_; rintro e w' ⟨rfl, rfl⟩)
        | (with_reducible refine C.out.2.2.2.2.1.mono ?_; rintro e w' ⟨rfl, rfl⟩)
        | (with_reducible refine C.out.2.2.2.2.2.1.mono ?_; rintro e w' ⟨rfl, rfl⟩)
        | (with_reducible refine C.out.2.2.2.2.2.2.mono ?_; rintro e w' ⟨rfl, rfl⟩))
      all_goals go_ret2
      all_goals first | exact ⟨_, 0, rfl, by omega, fun h => absurd h (by omega), by omega, rfl⟩
    | true =>
      cases g2 with
      | false =>
        go_enter Tryz.func108, Tryz.ntmps108
        go_wp2_with (first
          | (with_reducible refine C.out.1.mono ?_; rintro e w' ⟨rfl, rfl⟩)
          | (with_reducible refine C.out.2.1.mono ?_; rintro e w' ⟨rfl, rfl⟩)
          | (with_reducible refine C.out.2.2.1.mono ?_; rintro e w' ⟨rfl, rfl⟩)
          | (with_reducible refine C.out.2.2.2.1.mono ?_; rintro e w' ⟨rfl, rfl⟩)
          | (with_reducible refine C.out.2.2.2.2.1.mono ?_; rintro e w' ⟨rfl, rfl⟩)
          | (with_reducible refine C.out.2.2.2.2.2.1.mono ?_; rintro e w' ⟨rfl, rfl⟩)
          | (with_reducible refine C.out.2.2.2.2.2.2.mono ?_; rintro e w' ⟨rfl, rfl⟩))
        all_goals go_ret2
        all_goals first | exact ⟨_, 0, rfl, by omega, fun h => absurd h (by omega), by omega, rfl⟩
      | true =>
        go_enter Tryz.func108, Tryz.ntmps108
        go_wp2_with (first
          | (with_reducible refine C.out.1.mono ?_; rintro e w' ⟨rfl, rfl⟩)
          | (with_reducible refine C.out.2.1.mono ?_; rintro e w' ⟨rfl, rfl⟩)
          | (with_reducible refine C.out.2.2.1.mono ?_; rintro e w' ⟨rfl, rfl⟩)
          | (with_reducible refine C.out.2.2.2.1.mono ?_; rintro e w' ⟨rfl, rfl⟩)
          | (with_reducible refine C.out.2.2.2.2.1.mono ?_; rintro e w' ⟨rfl, rfl⟩)
          | (with_reducible refine C.out.2.2.2.2.2.1.mono ?_; rintro e w' ⟨rfl, rfl⟩)
          | (with_reducible refine C.out.2.2.2.2.2.2.mono ?_; rintro e w' ⟨rfl, rfl⟩))
        all_goals go_ret2
        all_goals first | exact ⟨_, 0, rfl, by omega, fun h => absurd h (by omega), by omega, rfl⟩ | exact ⟨_, 3, rfl, by omega, fun _ => L.out.2.2.1 (by trivial), by omega, rfl⟩
  by_cases q5 : v < 248
  · cases g1 with
    | false =>
      go_enter Tryz.func108, Tryz.ntmps108
      go_wp2_with (first
        | (with_reducible refine C.out.1.mono ?_; rintro e w' ⟨rfl, rfl⟩)
        | (with_reducible refine C.out.2.1.mono ?_; rintro e w' ⟨rfl, rfl⟩)
        | (with_reducible refine C.out.2.2.1.mono ?_; rintro e w' ⟨rfl, rfl⟩)
        | (with_reducible refine C.out.2.2.2.1.mono ?_; rintro e w' ⟨rfl, rfl⟩)
        | (with_reducible refine C.out.2.2.2.2.1.mono ?_; rintro e w' ⟨rfl, rfl⟩)
        | (with_reducible refine C.out.2.2.2.2.2.1.mono ?_; rintro e w' ⟨rfl, rfl⟩)
        | (with_reducible refine C.out.2.2.2.2.2.2.mono ?_; rintro e w' ⟨rfl, rfl⟩))
      all_goals go_ret2
      all_goals first | exact ⟨_, 0, rfl, by omega, fun h => absurd h (by omega), by omega, rfl⟩
    | true =>
      cases g2 with
      | false =>
        go_enter Tryz.func108, Tryz.ntmps108
        go_wp2_with (first
          | (with_reducible refine C.out.1.mono ?_; rintro e w' ⟨rfl, rfl⟩)
          | (with_reducible refine C.out.2.1.mono ?_; rintro e w' ⟨rfl, rfl⟩)
          | (with_reducible refine C.out.2.2.1.mono ?_; rintro e w' ⟨rfl, rfl⟩)
          | (with_reducible refine C.out.2.2.2.1.mono ?_; rintro e w' ⟨rfl, rfl⟩)
          | (with_reducible refine C.out.2.2.2.2.1.mono ?_; rintro e w' ⟨rfl, rfl⟩)
          | (with_reducible refine C.out.2.2.2.2.2.1.mono ?_; rintro e w' ⟨rfl, rfl⟩)
          | (with_reducible refine C.out.2.2.2.2.2.2.mono ?_; rintro e w' ⟨rfl, rfl⟩))
        all_goals go_ret2
        all_goals first | exact ⟨_, 0, rfl, by omega, fun h => absurd h (by omega), by omega, rfl⟩
      | true =>
        cases g3 with
        | false =>
          go_enter Tryz.func108, Tryz.ntmps108
          go_wp2_with (first
            | (with_reducible refine C.out.1.mono ?_; rintro e w' ⟨rfl, rfl⟩)
            | (with_reducible refine C.out.2.1.mono ?_; rintro e w' ⟨rfl, rfl⟩)
            | (with_reducible refine C.out.2.2.1.mono ?_; rintro e w' ⟨rfl, rfl⟩)
            | (with_reducible refine C.out.2.2.2.1.mono ?_; rintro e w' ⟨rfl, rfl⟩)
            | (with_reducible refine C.out.2.2.2.2.1.mono ?_; rintro e w' ⟨rfl, rfl⟩)
            | (with_reducible refine C.out.2.2.2.2.2.1.mono ?_; rintro e w' ⟨rfl, rfl⟩)
            | (with_reducible refine C.out.2.2.2.2.2.2.mono ?_; rintro e w' ⟨rfl, rfl⟩))
          all_goals go_ret2
          all_goals first | exact ⟨_, 0, rfl, by omega, fun h => absurd h (by omega), by omega, rfl⟩
        | true =>
          go_enter Tryz.func108, Tryz.ntmps108
          go_wp2_with (first
            | (with_reducible refine C.out.1.mono ?_; rintro e w' ⟨rfl, rfl⟩)
            | (with_reducible refine C.out.2.1.mono ?_; rintro e w' ⟨rfl, rfl⟩)
            | (with_reducible refine C.out.2.2.1.mono ?_; rintro e w' ⟨rfl, rfl⟩)
            | (with_reducible refine C.out.2.2.2.1.mono ?_; rintro e w' ⟨rfl, rfl⟩)
            | (with_reducible refine C.out.2.2.2.2.1.mono ?_; rintro e w' ⟨rfl, rfl⟩)
            | (with_reducible refine C.out.2.2.2.2.2.1.mono ?_; rintro e w' ⟨rfl, rfl⟩)
            | (with_reducible refine C.out.2.2.2.2.2.2.mono ?_; rintro e w' ⟨rfl, rfl⟩))
          all_goals go_ret2
          all_goals first | exact ⟨_, 0, rfl, by omega, fun h => absurd h (by omega), by omega, rfl⟩ | exact ⟨_, 4, rfl, by omega, fun _ => L.out.2.2.2 (by trivial), by omega, rfl⟩
  go_enter Tryz.func108, Tryz.ntmps108
  go_wp2_with (first
    | (with_reducible refine C.out.1.mono ?_; rintro e w' ⟨rfl, rfl⟩)
    | (with_reducible refine C.out.2.1.mono ?_; rintro e w' ⟨rfl, rfl⟩)
    | (with_reducible refine C.out.2.2.1.mono ?_; rintro e w' ⟨rfl, rfl⟩)
    | (with_reducible refine C.out.2.2.2.1.mono ?_; rintro e w' ⟨rfl, rfl⟩)
    | (with_reducible refine C.out.2.2.2.2.1.mono ?_; rintro e w' ⟨rfl, rfl⟩)
    | (with_reducible refine C.out.2.2.2.2.2.1.mono ?_; rintro e w' ⟨rfl, rfl⟩)
    | (with_reducible refine C.out.2.2.2.2.2.2.mono ?_; rintro e w' ⟨rfl, rfl⟩))
  all_goals go_ret2
  all_goals first | exact ⟨_, 0, rfl, by omega, fun h => absurd h (by omega), by omega, rfl⟩
end Go.Proofs.YtlpmnnkijdbopaaGreatDoor
