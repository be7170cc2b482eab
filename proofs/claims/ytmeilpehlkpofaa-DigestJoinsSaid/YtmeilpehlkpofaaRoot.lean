/-
  The walks of the product of two words, of the comparison of a power, and of the roots.
-/
import Derived.Test.YtmeilpehlkpofaaSha
import Derived.Lib.Mul64
namespace Go.Proofs.Ytmeilpehlkpofaa
open Go.RowKit

theorem u64_in (n : Nat) (h : n < 18446744073709551616) : IntKind.u64.wrap (n : Int) = (n : Int) := by rw [IntKind.wrap_u64]; omega
theorem nat_and (n m : Nat) (hn : n < 18446744073709551616) (hm : m < 18446744073709551616) : bits .and .u64 (n : Int) (m : Int) = ((n &&& m : Nat) : Int) :=
  (bits_nat .u64 64 (by decide) (fun n h0 h1 => by rw [IntKind.wrap_u64]; omega) n m hn hm).1
theorem and_low (n : Nat) (hn : n < 18446744073709551616) : bits .and .u64 (n : Int) 4294967295 = ((n % 4294967296 : Nat) : Int) := by
  rw [show (4294967295 : Int) = ((4294967295 : Nat) : Int) from rfl, nat_and n _ hn (by decide)]
  rw [show 4294967295 = 2 ^ 32 - 1 from rfl, Nat.and_two_pow_sub_one_eq_mod]
set_option maxHeartbeats 400000 in
theorem mul64_any (x y : Nat) (hx : x < 18446744073709551616) (hy : y < 18446744073709551616) (w : World) :
    Calls Try.prog 32 #[.int .u64 (x : Int), .int .u64 (y : Int)] w fun e w' =>
      e = .returned (.tuple #[.int .u64 ((x * y / 18446744073709551616 : Nat) : Int), .int .u64 ((x * y % 18446744073709551616 : Nat) : Int)]) ∧ w' = w := by
  obtain ⟨h1, h2, h3, h4⟩ := Go.Lib.mul64_hi x y hx hy
  have a1 := and_low x hx
  have a2 := and_low y hy
  have hlo : IntKind.u64.wrap ((x : Int) * (y : Int)) = ((x * y % 18446744073709551616 : Nat) : Int) := by
    rw [IntKind.wrap_u64, ← Int.natCast_mul]; omega
  have p1 : (x : Int) / 4294967296 * ((y : Int) / 4294967296) = ((x / 4294967296 * (y / 4294967296) : Nat) : Int) := by rw [Int.natCast_mul]; congr 1 <;> omega
  have p2 : (x : Int) / 4294967296 * ((y : Int) % 4294967296) = ((x / 4294967296 * (y % 4294967296) : Nat) : Int) := by rw [Int.natCast_mul]; congr 1 <;> omega
  have p3 : (x : Int) % 4294967296 * ((y : Int) / 4294967296) = ((x % 4294967296 * (y / 4294967296) : Nat) : Int) := by rw [Int.natCast_mul]; congr 1 <;> omega
  have p4 : (x : Int) % 4294967296 * ((y : Int) % 4294967296) = ((x % 4294967296 * (y % 4294967296) : Nat) : Int) := by rw [Int.natCast_mul]; congr 1 <;> omega
  have ha := Go.Lib.half_mul_le (a := x / 4294967296) (b := y / 4294967296) (by omega) (by omega)
  have hb := Go.Lib.half_mul_le (a := x / 4294967296) (b := y % 4294967296) (by omega) (by omega)
  have hc := Go.Lib.half_mul_le (a := x % 4294967296) (b := y / 4294967296) (by omega) (by omega)
  have hd := Go.Lib.half_mul_le (a := x % 4294967296) (b := y % 4294967296) (by omega) (by omega)
  obtain ⟨a, ea⟩ : ∃ a, a = x / 4294967296 * (y / 4294967296) := ⟨_, rfl⟩
  obtain ⟨b, eb⟩ : ∃ b, b = x / 4294967296 * (y % 4294967296) := ⟨_, rfl⟩
  obtain ⟨c, ec⟩ : ∃ c, c = x % 4294967296 * (y / 4294967296) := ⟨_, rfl⟩
  obtain ⟨d, ed⟩ : ∃ d, d = x % 4294967296 * (y % 4294967296) := ⟨_, rfl⟩
  rw [← ea, ← eb, ← ec, ← ed] at h4
  rw [← eb, ← ec, ← ed] at h3
  rw [← eb, ← ed] at h2
  rw [← ea] at p1 ha
  rw [← eb] at p2 hb
  rw [← ec] at p3 hc
  rw [← ed] at p4 hd h1
  obtain ⟨s, es⟩ : ∃ s, s = b + d / 4294967296 := ⟨_, rfl⟩
  rw [← es] at h2 h3 h4
  have q1 : IntKind.u64.wrap ((x : Int) / 4294967296 * ((y : Int) / 4294967296)) = (a : Int) := by rw [p1]; exact u64_in _ (by omega)
  have q2 : IntKind.u64.wrap ((x : Int) / 4294967296 * ((y : Int) % 4294967296)) = (b : Int) := by rw [p2]; exact u64_in _ (by omega)
  have q3 : IntKind.u64.wrap ((x : Int) % 4294967296 * ((y : Int) / 4294967296)) = (c : Int) := by rw [p3]; exact u64_in _ (by omega)
  have q4 : IntKind.u64.wrap ((x : Int) % 4294967296 * ((y : Int) % 4294967296)) = (d : Int) := by rw [p4]; exact u64_in _ (by omega)
  have r1 : IntKind.u64.wrap ((b : Int) + (d : Int) / 4294967296) = (s : Int) := by rw [show (b : Int) + (d : Int) / 4294967296 = (s : Int) from by omega]; exact u64_in _ (by omega)
  have r2 := and_low s (by omega)
  obtain ⟨s1, es1⟩ : ∃ s1, s1 = s % 4294967296 := ⟨_, rfl⟩
  rw [← es1] at h3 h4 r2
  have r3 : IntKind.u64.wrap ((s1 : Int) + (c : Int)) = ((s1 + c : Nat) : Int) := by rw [show (s1 : Int) + (c : Int) = ((s1 + c : Nat) : Int) from by omega]; exact u64_in _ (by omega)
  obtain ⟨s2, es2⟩ : ∃ s2, s2 = s1 + c := ⟨_, rfl⟩
  rw [← es2] at h3 h4 r3
  have r4 : IntKind.u64.wrap ((a : Int) + (s : Int) / 4294967296) = ((a + s / 4294967296 : Nat) : Int) := by rw [show (a : Int) + (s : Int) / 4294967296 = ((a + s / 4294967296 : Nat) : Int) from by omega]; exact u64_in _ (by omega)
  obtain ⟨s3, es3⟩ : ∃ s3, s3 = a + s / 4294967296 := ⟨_, rfl⟩
  rw [← es3] at h4 r4
  have hxy : x * y < 18446744073709551616 * 18446744073709551616 := Nat.mul_lt_mul'' hx hy
  have hq : x * y / 18446744073709551616 < 18446744073709551616 := Nat.div_lt_of_lt_mul hxy
  have r5 : IntKind.u64.wrap ((s3 : Int) + (s2 : Int) / 4294967296) = ((x * y / 18446744073709551616 : Nat) : Int) := by
    rw [← h4, show (s3 : Int) + (s2 : Int) / 4294967296 = ((s3 + s2 / 4294967296 : Nat) : Int) from by omega]; exact u64_in _ (by omega)
  clear hxy hq h1 h2 h3 h4 ha hb hc hd ea eb ec ed es es1 es2 es3 p1 p2 p3 p4
  obtain ⟨hi, ehi⟩ : ∃ hi : Int, hi = ((x * y / 18446744073709551616 : Nat) : Int) := ⟨_, rfl⟩
  obtain ⟨lo, elo⟩ : ∃ lo : Int, lo = ((x * y % 18446744073709551616 : Nat) : Int) := ⟨_, rfl⟩
  rw [← ehi] at r5 ⊢
  rw [← elo] at hlo ⊢
  clear ehi elo hx hy
  go_enter Try.func32, Try.ntmps32
  go_wp2
  go_ret2
  exact ⟨rfl, rfl⟩
theorem ret_bool {x y : Bool} (h : x = y) : Ending.returned (.bool x) = Ending.returned (.bool y) := by rw [h]
set_option maxHeartbeats 400000 in
theorem above_any (t n : Nat) (cube : Bool) (ht : t < 137438953472) (hn : n < 1024) (w : World) :
    Calls Try.prog 30 #[.int .u64 (t : Int), .int .u64 (n : Int), .bool cube] w fun e w' => e = .returned (.bool (sha.abv t n cube)) ∧ w' = w := by
  have htt : t * t < 137438953472 * 137438953472 := Nat.mul_lt_mul'' ht ht
  cases cube with
  | false =>
    obtain ⟨hi, ehi⟩ : ∃ hi, hi = t * t / 18446744073709551616 := ⟨_, rfl⟩
    obtain ⟨lo, elo⟩ : ∃ lo, lo = t * t % 18446744073709551616 := ⟨_, rfl⟩
    have hr : sha.abv t n false = (decide (n < hi) || (hi == n && decide (0 < lo))) := by rw [ehi, elo]; rfl
    rw [hr]
    clear hr
    have H := hide (And.intro ehi (And.intro elo (And.intro htt (And.intro ht hn))))
    clear ehi elo htt ht hn
    go_enter Try.func30, Try.ntmps30
    go_wp2_with fail
    refine (mul64_any t t (Nat.lt_trans H.out.2.2.2.1 (by decide)) (Nat.lt_trans H.out.2.2.2.1 (by decide)) w).mono ?_
    rintro e w1 ⟨rfl, rfl⟩
    rw [← H.out.1, ← H.out.2.1]
    by_cases g1 : (n : Int) < (hi : Int)
    · go_wp2_with fail
      go_ret
      exact ⟨ret_bool (by simp <;> omega), rfl⟩
    · by_cases g2 : ((hi : Int) == (n : Int)) = true
      · by_cases g3 : (0 : Int) < (lo : Int)
        · go_wp2_with fail
          go_ret
          exact ⟨ret_bool (by rw [show hi = n from by simp at g2; omega]; simp <;> omega), rfl⟩
        · go_wp2_with fail
          go_ret
          exact ⟨ret_bool (by rw [show hi = n from by simp at g2; omega]; simp <;> omega), rfl⟩
      · have g2 : ((hi : Int) == (n : Int)) = false := by simpa using g2
        go_wp2_with fail
        go_ret
        exact ⟨ret_bool (by simp at g2 ⊢ <;> omega), rfl⟩
  | true =>
    obtain ⟨hi, ehi⟩ : ∃ hi, hi = t * t / 18446744073709551616 := ⟨_, rfl⟩
    obtain ⟨lo, elo⟩ : ∃ lo, lo = t * t % 18446744073709551616 := ⟨_, rfl⟩
    obtain ⟨h, eh⟩ : ∃ h, h = lo * t / 18446744073709551616 := ⟨_, rfl⟩
    obtain ⟨l, el⟩ : ∃ l, l = lo * t % 18446744073709551616 := ⟨_, rfl⟩
    obtain ⟨m, em⟩ : ∃ m, m = hi * t := ⟨_, rfl⟩
    obtain ⟨g, eg⟩ : ∃ g, g = h + m := ⟨_, rfl⟩
    obtain ⟨N, eN⟩ : ∃ N, N = n * 4294967296 := ⟨_, rfl⟩
    have hr : sha.abv t n true = (decide (N < g) || (g == N && decide (0 < l))) := by rw [eg, eN, em, eh, el, ehi, elo]; rfl
    rw [hr]
    have hhi : hi < 1024 := by omega
    have hlo : lo < 18446744073709551616 := by omega
    have hlt : lo * t < 18446744073709551616 * 137438953472 := Nat.mul_lt_mul'' hlo ht
    have hm : m < 1024 * 137438953472 := by rw [em]; exact Nat.mul_lt_mul'' hhi ht
    have hh : h < 137438953472 := by omega
    have f1 : IntKind.u64.wrap ((hi : Int) * (t : Int)) = (m : Int) := by rw [← Int.natCast_mul, ← em]; exact u64_in _ (by omega)
    have f2 : IntKind.u64.wrap ((h : Int) + (m : Int)) = (g : Int) := by rw [← Int.natCast_add, ← eg]; exact u64_in _ (by omega)
    have f3 : IntKind.u64.wrap ((n : Int) * 4294967296) = (N : Int) := by rw [show (n : Int) * 4294967296 = (N : Int) from by omega]; exact u64_in _ (by omega)
    clear hr
    have H := hide (And.intro ehi (And.intro elo (And.intro htt (And.intro ht (And.intro hn (And.intro eh (And.intro el hlo)))))))
    clear ehi elo htt ht hn em eg eN eh el hhi hlo hlt hm hh
    go_enter Try.func30, Try.ntmps30
    go_wp2_with fail
    refine (mul64_any t t (Nat.lt_trans H.out.2.2.2.1 (by decide)) (Nat.lt_trans H.out.2.2.2.1 (by decide)) w).mono ?_
    rintro e w1 ⟨rfl, rfl⟩
    rw [← H.out.1, ← H.out.2.1]
    go_wp2_with fail
    refine (mul64_any lo t H.out.2.2.2.2.2.2.2 (Nat.lt_trans H.out.2.2.2.1 (by decide)) _).mono ?_
    rintro e w2 ⟨rfl, rfl⟩
    rw [← H.out.2.2.2.2.2.1, ← H.out.2.2.2.2.2.2.1]
    by_cases g1 : (N : Int) < (g : Int)
    · go_wp2_with fail
      go_ret
      exact ⟨ret_bool (by simp <;> omega), rfl⟩
    · by_cases g2 : ((g : Int) == (N : Int)) = true
      · by_cases g3 : (0 : Int) < (l : Int)
        · go_wp2_with fail
          go_ret
          exact ⟨ret_bool (by rw [show g = N from by simp at g2; omega]; simp <;> omega), rfl⟩
        · go_wp2_with fail
          go_ret
          exact ⟨ret_bool (by rw [show g = N from by simp at g2; omega]; simp <;> omega), rfl⟩
      · have g2 : ((g : Int) == (N : Int)) = false := by simpa using g2
        go_wp2_with fail
        go_ret
        exact ⟨ret_bool (by simp at g2 ⊢ <;> omega), rfl⟩
end Go.Proofs.Ytmeilpehlkpofaa
