/-
  The walks of the roots and of the primes.
-/
import Derived.Test.YtmeilpehlkpofaaRoot
namespace Go.Proofs.Ytmeilpehlkpofaa
open Go.RowKit

theorem or_u64 (n m : Nat) (hn : n < 18446744073709551616) (hm : m < 18446744073709551616) : bits .or .u64 (n : Int) (m : Int) = ((n ||| m : Nat) : Int) :=
  (bits_nat .u64 64 (by decide) (fun n h0 h1 => by rw [IntKind.wrap_u64]; omega) n m hn hm).2
theorem ret_u32 {a b : Int} (h : a = b) : Ending.returned (.int .u32 a) = .returned (.int .u32 b) := by rw [h]
set_option maxHeartbeats 400000 in
theorem root_any (n : Nat) (cube : Bool) (hn : n < 1024) (w : World) :
    Calls Try.prog 26 #[.int .u64 (n : Int), .bool cube] w fun e w' => e = .returned (.int .u32 ((sha.root n cube).toNat : Int)) ∧ w' = w := by
  go_enter Try.func26, Try.ntmps26
  go_wp2_with fail
  go_loop [5, 6] (fun r b => ∃ j R : Nat, j ≤ 37 ∧ b = .int .i64 ((j : Int) - 1) ∧ r = .int .u64 (R : Int) ∧ R < 2 ^ 37 ∧ sha.rootGo n cube j R = sha.rootGo n cube 37 0) (fun _ b => (intOf b + 1).toNat)
  case atStart => exact ⟨37, 0, by omega, rfl, rfl, by decide, rfl⟩
  case round =>
    obtain ⟨j, R, hj, rfl, rfl, hR, hgo⟩ := hrel
    cases j with
    | zero =>
      have i0 : ¬ ((0 : Int) ≤ ((0 : Nat) : Int) - 1) := by omega
      go_wp2_with fail
      go_ret
      refine ⟨ret_u32 ?_, rfl⟩
      unfold sha.root
      rw [← hgo, BitVec.toNat_ofNat]
      show (R : Int) % 4294967296 = ((R % 2 ^ 32 : Nat) : Int)
      omega
    | succ c =>
      have i0 : (0 : Int) ≤ ((c + 1 : Nat) : Int) - 1 := by omega
      obtain ⟨b, hb⟩ : ∃ b : Int, b = ((c + 1 : Nat) : Int) - 1 := ⟨_, rfl⟩
      rw [← hb] at i0 ⊢
      have hp : 2 ^ c < 2 ^ 37 := Nat.pow_lt_pow_right (by decide) (by omega)
      have ht := Nat.or_lt_two_pow hR hp
      have i1 : ¬ (b < 0) := by omega
      have i2 : min b.toNat 64 = c := by omega
      have i3 : IntKind.u64.wrap (2 ^ c) = ((2 ^ c : Nat) : Int) := by
        have e : (2 : Int) ^ c = ((2 ^ c : Nat) : Int) := by simp
        rw [e]; exact u64_in _ (by omega)
      obtain ⟨T, hT⟩ : ∃ T, T = R ||| 2 ^ c := ⟨_, rfl⟩
      have i4 : bits .or .u64 (R : Int) (2 ^ c) = (T : Int) := by
        have e : (2 : Int) ^ c = ((2 ^ c : Nat) : Int) := by simp
        rw [e, hT]; exact or_u64 R (2 ^ c) (by omega) (by omega)
      rw [← hT] at ht
      have i5 : IntKind.i64.wrap (b - 1) = b - 1 := IntWalk.i64_in _ (by omega)
      have H := hide (And.intro hj (And.intro hR (And.intro hgo (And.intro hb (And.intro ht hT)))))
      clear hj hR hgo hb ht hp hT
      go_wp2_with fail
      refine (above_any T n cube (by have := H.out.2.2.2.2.1; omega) hn w).mono ?_
      rintro e w1 ⟨rfl, rfl⟩
      obtain ⟨ab, hab⟩ : ∃ ab, ab = sha.abv T n cube := ⟨_, rfl⟩
      rw [← hab]
      have HA := hide hab
      clear hab
      cases ab with
      | true =>
        go_wp2_with fail
        go_round
        case rel => exact ⟨c, R, by have := H.out.1; omega, by rw [H.out.2.2.2.1]; congr 1; omega, rfl, H.out.2.1, by
          rw [← H.out.2.2.1, sha.rootGo, ← H.out.2.2.2.2.2, ← HA.out]; rfl⟩
        case measure => simp [intOf]; omega
      | false =>
        go_wp2_with fail
        go_round
        case rel => exact ⟨c, T, by have := H.out.1; omega, by rw [H.out.2.2.2.1]; congr 1; omega, rfl, H.out.2.2.2.2.1, by
          rw [← H.out.2.2.1, sha.rootGo, ← H.out.2.2.2.2.2, ← HA.out]; rfl⟩
        case measure => simp [intOf]; omega
end Go.Proofs.Ytmeilpehlkpofaa
