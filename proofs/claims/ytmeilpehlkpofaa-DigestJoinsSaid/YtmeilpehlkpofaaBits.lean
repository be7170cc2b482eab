/-
  Words of 32 bits in the walk's spelling; the walks of the rotations.
-/
import Derived.Test.YtmeilpehlkpofaaWords
import Derived.Deep.QuietTactic
import Derived.BigQuiet
import Derived.Lib.EndianBits
namespace Go.Proofs.Ytmeilpehlkpofaa
open Go.RowKit

abbrev W32 := BitVec 32
def rotr (x : W32) (n : Nat) : W32 := (x >>> n) ||| (x <<< (32 - n))
theorem or32 (x y : W32) : bits .or .u32 (x.toNat : Int) (y.toNat : Int) = ((x ||| y).toNat : Int) := by
  show IntKind.u32.wrap ((BitVec.ofInt 32 (x.toNat : Int) ||| BitVec.ofInt 32 (y.toNat : Int)).toNat : Int) = _
  rw [ofInt32, ofInt32, IntKind.wrap_u32]
  have := (x ||| y).isLt
  omega
theorem and32 (x y : W32) : bits .and .u32 (x.toNat : Int) (y.toNat : Int) = ((x &&& y).toNat : Int) := by
  show IntKind.u32.wrap ((BitVec.ofInt 32 (x.toNat : Int) &&& BitVec.ofInt 32 (y.toNat : Int)).toNat : Int) = _
  rw [ofInt32, ofInt32, IntKind.wrap_u32]
  have := (x &&& y).isLt
  omega
theorem add32 (x y : W32) : ((x.toNat : Int) + (y.toNat : Int)) % 4294967296 = ((x + y).toNat : Int) := by
  rw [BitVec.toNat_add]; omega
theorem shr32n (x : W32) (n : Nat) : (x.toNat : Int).fdiv (2 ^ n) = ((x >>> n).toNat : Int) := by
  rw [BitVec.toNat_ushiftRight, Nat.shiftRight_eq_div_pow, Int.fdiv_eq_ediv_of_nonneg _ (Int.le_of_lt (Int.pow_pos (by decide)))]
  rw [Int.natCast_ediv]; simp
theorem shl32n (x : W32) (n : Nat) : IntKind.u32.wrap ((x.toNat : Int) * 2 ^ n) = ((x <<< n).toNat : Int) := by
  rw [IntKind.wrap_u32, BitVec.toNat_shiftLeft, Nat.shiftLeft_eq]
  rw [Int.natCast_emod]; simp
set_option maxHeartbeats 400000 in
theorem turn_any (x : W32) (n : Nat) (m : Int) (hm : m = n) (h1 : 1 ≤ n) (h31 : n ≤ 31) (w : World) :
    Calls Try.prog 18 #[.int .u32 (x.toNat : Int), .int .i64 m] w fun e w' => e = .returned (.int .u32 ((rotr x n).toNat : Int)) ∧ ∃ q, w' = w.drewN q := by
  have i1 : (1 : Int) ≤ m := by omega
  have i2 : m ≤ 31 := by omega
  have i3 : ¬ (m < 0) := by omega
  have i4 : IntKind.i64.wrap (32 - m) = 32 - m := IntWalk.i64_in _ (by omega)
  have i5 : ¬ (32 - m < 0) := by omega
  have i6 : min m.toNat 32 = n := by omega
  have i7 : min (32 - m).toNat 32 = 32 - n := by omega
  have hsh : bits .or .u32 ((x.toNat : Int) / 2 ^ m.toNat) ((x.toNat : Int) * 2 ^ (32 - m).toNat % 4294967296) = ((rotr x n).toNat : Int) := by
    rw [show m.toNat = n from by omega, show (32 - m).toNat = 32 - n from by omega]
    rw [← Int.fdiv_eq_ediv_of_nonneg _ (Int.le_of_lt (Int.pow_pos (by decide))), ← IntKind.wrap_u32, shr32n, shl32n, or32]; rfl
  have H := hide (And.intro hm (And.intro h1 (And.intro h31 hsh)))
  clear hm h1 h31 hsh
  go_enter Try.func18, Try.ntmps18
  go_wp2
  go_quiet (fail)
  rename_i nq
  go_wp2
  exact bodyPost_ret (v := .int .u32 ((rotr x n).toNat : Int)) (by
    simp [results, Try.results18, go_sem]
    exact H.out.2.2.2) rfl ⟨rfl, nq, rfl⟩
set_option maxHeartbeats 400000 in
theorem rotl_any (x : W32) (n : Nat) (m : Int) (hm : m = -(n : Int)) (h1 : 1 ≤ n) (h31 : n ≤ 31) (w : World) :
    Calls Try.prog 31 #[.int .u32 (x.toNat : Int), .int .i64 m] w fun e w' => e = .returned (.int .u32 ((rotr x n).toNat : Int)) ∧ w' = w := by
  have k0 : bits .and .u64 (IntKind.u64.wrap m) 31 = 32 - (n : Int) := by
    subst hm
    have : ∀ j : Fin 32, 1 ≤ j.1 → bits .and .u64 (IntKind.u64.wrap (-(j.1 : Int))) 31 = 32 - (j.1 : Int) := by decide +kernel
    exact this ⟨n, by omega⟩ h1
  obtain ⟨k, hk⟩ : ∃ k : Int, k = 32 - (n : Int) := ⟨_, rfl⟩
  rw [← hk] at k0
  have i3 : ¬ (k < 0) := by omega
  have i4 : IntKind.u64.wrap (32 - k) = n := by rw [IntKind.wrap_u64]; omega
  have i5 : ¬ ((n : Int) < 0) := by omega
  have i6 : min n 32 = n := by omega
  have i7 : min k.toNat 32 = 32 - n := by omega
  have hsh : bits .or .u32 ((x.toNat : Int) * 2 ^ (32 - n) % 4294967296) ((x.toNat : Int) / 2 ^ n) = ((rotr x n).toNat : Int) := by
    rw [← Int.fdiv_eq_ediv_of_nonneg _ (Int.le_of_lt (Int.pow_pos (by decide))), ← IntKind.wrap_u32, shr32n, shl32n, or32, BitVec.or_comm]; rfl
  have H := hide (And.intro hm (And.intro h1 (And.intro h31 (And.intro hk hsh))))
  clear hm h1 h31 hk hsh
  go_enter Try.func31, Try.ntmps31
  go_wp2
  exact bodyPost_ret (v := .int .u32 ((rotr x n).toNat : Int)) (by
    simp [results, Try.results31, go_sem]
    exact H.out.2.2.2.2) rfl ⟨rfl, rfl⟩
end Go.Proofs.Ytmeilpehlkpofaa
