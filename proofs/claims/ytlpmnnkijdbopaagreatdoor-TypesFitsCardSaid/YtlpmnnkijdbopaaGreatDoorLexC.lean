/-
  The walk of the reference's lexer, the third part: number.
-/
import Derived.Test.YtlpmnnkijdbopaaGreatDoorLexB
namespace Go.Proofs.YtlpmnnkijdbopaaGreatDoor
open Go.RowKit Go.Maps

/-- a kind that is no name's, and a place behind, or 0 -/
def NumPost (s : Bs) (k : Int) (w : World) (e : Ending) (w' : World) : Prop := ∃ q m : Int, e = .returned (.tuple #[.int .i64 q, .int .i64 m]) ∧ q ≠ 1 ∧ (m = 0 ∨ k < m) ∧ 0 ≤ m ∧ m ≤ s.length ∧ w = w'
set_option maxRecDepth 20000 in
set_option maxHeartbeats 3200000 in
theorem number_any (s : Bs) (k : Int) (w : World) (h0 : 0 ≤ k) (hk : k < s.length) (hs : s.length ≤ 100000) : Calls Tryz.prog 111 #[tx s, .int .i64 k] w (NumPost s k w) := by
  have i1 : (s.length : Int) ≤ 100000 := by omega
  have HS := hide (And.intro hs (show s.length ≤ maxLen by unfold maxLen; omega))
  obtain ⟨v, hv⟩ : ∃ v, v = oneV s k := ⟨_, rfl⟩
  have c0 := one_any s k w h0 HS.out.2
  rw [← hv] at c0
  have C := hide (And.intro c0 (show v = 45 → k + 1 ≤ s.length from fun _ => by omega))
  clear hv c0 hs
  go_enter Tryz.func111, Tryz.ntmps111
  go_upto_if 11 with (with_reducible refine C.out.1.mono ?_; rintro e w' ⟨rfl, rfl⟩)
  go_cut [1] (fun s1 wx => w = wx ∧ ∃ m : Nat, k ≤ m ∧ (m : Int) ≤ s.length ∧ s1 = .int .i64 m)
  case first =>
    by_cases h45 : v = 45
    · subst h45
      go_wp2
      go_meet
      exact ⟨rfl, (k + 1).toNat, by omega, by omega, by congr 1; omega⟩
    · have hb : (v == 45) = false := by simpa using h45
      go_wp2
      go_meet
      exact ⟨rfl, k.toNat, by omega, by omega, by congr 1; omega⟩
  case rest =>
    obtain ⟨rfl, m, hkm, hm, rfl⟩ := hcut
    go_wp2_with fail
    refine (digits_any s m w (by omega) (by omega) HS.out.1).mono ?_
    rintro e w1 ⟨p, rfl, hp1, hp2, rfl⟩
    go_upto_region 4 with fail
    go_cut [31] (fun s31 wx => w = wx ∧ ∃ b : Bool, s31 = .bool b ∧ (b = false → (m : Int) < p))
    case first =>
      by_cases hpm : p = m
      · subst hpm
        go_wp2
        go_meet
        exact ⟨rfl, true, rfl, by simp⟩
      · have hpb : (p == (m : Int)) = false := by simpa using hpm
        go_wp2
        all_goals go_meet
        all_goals exact ⟨rfl, _, rfl, fun _ => by omega⟩
    case rest =>
      obtain ⟨rfl, b, rfl, hmp⟩ := hcut
      cases b with
      | true =>
        go_wp2
        go_ret2
        exact ⟨0, 0, rfl, by omega, .inl rfl, by omega, by omega, rfl⟩
      | false =>
      have hmp := hmp rfl
      obtain ⟨p, rfl⟩ := Int.eq_ofNat_of_zero_le (show 0 ≤ p by omega)
      obtain ⟨v1, hv1⟩ : ∃ v, v = oneV s p := ⟨_, rfl⟩
      have c1 := one_any s p w (by omega) HS.out.2
      rw [← hv1] at c1
      have C1 := hide (And.intro c1 (show v1 = 46 → (p : Int) + 1 ≤ s.length from fun h => by have := oneV_lt (s := s) (k := p) (by omega); omega))
      clear hv1 c1
      go_upto_if 36 with (with_reducible refine C1.out.1.mono ?_; rintro e w' ⟨rfl, rfl⟩)
      go_cut [1, 6, 7] (fun s1 s6 s7 wx => w = wx ∧ ∃ (a : Nat) (q : Int), k < a ∧ (a : Int) ≤ s.length ∧ s1 = .int .i64 a ∧ s7 = .int .i64 q ∧ q ≠ 1)
      case first =>
        by_cases h46 : v1 = 46
        · subst h46
          have h47 := C1.out.2 rfl
          go_wp2_with fail
          refine (digits_any s ((p : Int) + 1) w (by omega) (by omega) HS.out.1).mono ?_
          rintro e w1 ⟨r, rfl, hr1, hr2, rfl⟩
          by_cases hrp : r = (p : Int) + 1
          · subst hrp
            go_wp2
            go_ret2
            exact ⟨0, 0, rfl, by omega, .inl rfl, by omega, by omega, rfl⟩
          · have hrb : (r == (p : Int) + 1) = false := by simpa using hrp
            go_wp2
            go_meet
            exact ⟨rfl, r.toNat, 3, by omega, by omega, by congr 1; omega, rfl, by omega⟩
        · have hb : (v1 == 46) = false := by simpa using h46
          go_wp2
          go_meet
          exact ⟨rfl, p, 2, by omega, by omega, rfl, rfl, by omega⟩
      case rest =>
        obtain ⟨rfl, a, q, hka, hal, rfl, rfl, hq⟩ := hcut
        clear hmp hkm hm hp1 hp2 C1
        obtain ⟨v2, hv2⟩ : ∃ v, v = oneV s a := ⟨_, rfl⟩
        obtain ⟨v3, hv3⟩ : ∃ v, v = oneV s ((a : Int) + 1) := ⟨_, rfl⟩
        have c2 := one_any s a w (by omega) HS.out.2
        have c3 := one_any s ((a : Int) + 1) w (by omega) HS.out.2
        rw [← hv2] at c2
        rw [← hv3] at c3
        have l2 : 0 ≤ v2 → (a : Int) + 1 ≤ s.length := fun h => by have := oneV_lt (s := s) (k := a) (by omega); omega
        have l3 : 0 ≤ v3 → (a : Int) + 2 ≤ s.length := fun h => by have := oneV_lt (s := s) (k := (a : Int) + 1) (by omega); omega
        have C2 := hide (And.intro c2 (And.intro c3 (And.intro l2 l3)))
        clear hv2 hv3 c2 c3 l2 l3
        go_upto_region 14 with fail
        go_cut [55] (fun s55 wx => w = wx ∧ ∃ b : Bool, s55 = .bool b ∧ (b = true → (a : Int) + 1 ≤ s.length))
        case first =>
          go_wp2_with (with_reducible refine C2.out.1.mono ?_; rintro e w' ⟨rfl, rfl⟩)
          all_goals go_meet
          all_goals exact ⟨rfl, _, rfl, fun h => C2.out.2.2.1 (by first | omega | (simp at h; omega))⟩
        case rest =>
          obtain ⟨rfl, b, rfl, hb⟩ := hcut
          go_upto_if 55 with fail
          go_cut [1, 6, 7] (fun s1 s6 s7 wx => w = wx ∧ ∃ (a : Nat) (q : Int), k < a ∧ (a : Int) ≤ s.length ∧ s1 = .int .i64 a ∧ s7 = .int .i64 q ∧ q ≠ 1)
          case first =>
            cases b with
            | false =>
              go_wp2
              go_meet
              exact ⟨rfl, a, q, hka, hal, rfl, rfl, hq⟩
            | true =>
              have hb1 := hb rfl
              clear hb
              have l3 := C2.out.2.2.2
              by_cases hs1 : v3 = 43 ∨ v3 = 45
              · have l4 := l3 (by omega)
                rcases hs1 with rfl | rfl
                all_goals go_wp2_with (with_reducible refine C2.out.2.1.mono ?_; rintro e w' ⟨rfl, rfl⟩)
                all_goals
                  with_reducible refine (digits_any s ((a : Int) + 1 + 1) w (by omega) (by omega) HS.out.1).mono ?_
                  rintro e w1 ⟨r, rfl, hr1, hr2, rfl⟩
                  by_cases hrp : r = (a : Int) + 1 + 1
                  · subst hrp
                    go_wp2
                    go_ret2
                    exact ⟨0, 0, rfl, by omega, .inl rfl, by omega, by omega, rfl⟩
                  · have hrb : (r == (a : Int) + 1 + 1) = false := by simpa using hrp
                    go_wp2
                    go_meet
                    exact ⟨rfl, r.toNat, 3, by omega, by omega, by congr 1; omega, rfl, by omega⟩
              · have n1 : (v3 == 43) = false := by simp; omega
                have n2 : (v3 == 45) = false := by simp; omega
                go_wp2_with (with_reducible refine C2.out.2.1.mono ?_; rintro e w' ⟨rfl, rfl⟩)
                all_goals
                  refine (digits_any s ((a : Int) + 1) w (by omega) (by omega) HS.out.1).mono ?_
                  rintro e w1 ⟨r, rfl, hr1, hr2, rfl⟩
                  by_cases hrp : r = (a : Int) + 1
                  · subst hrp
                    go_wp2
                    go_ret2
                    exact ⟨0, 0, rfl, by omega, .inl rfl, by omega, by omega, rfl⟩
                  · have hrb : (r == (a : Int) + 1) = false := by simpa using hrp
                    go_wp2
                    go_meet
                    exact ⟨rfl, r.toNat, 3, by omega, by omega, by congr 1; omega, rfl, by omega⟩
          case rest =>
            obtain ⟨rfl, a, q, hka, hal, rfl, rfl, hq⟩ := hcut
            go_wp2_with (refine (letter_u8 _ w).mono ?_; rintro e w1 ⟨lq, rfl, hlq, rfl⟩; clear hlq)
            all_goals go_ret2
            all_goals first
              | exact ⟨0, 0, rfl, by omega, .inl rfl, by omega, by omega, rfl⟩
              | exact ⟨q, a, rfl, hq, .inr hka, by omega, hal, rfl⟩
end Go.Proofs.YtlpmnnkijdbopaaGreatDoor
