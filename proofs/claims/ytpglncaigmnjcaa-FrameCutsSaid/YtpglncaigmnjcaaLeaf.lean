/-
  The walks of the frame's small functions.
-/
import Derived.Test.YtpglncaigmnjcaaWords
import Derived.Test.YtpglncaigmnjcaaCrc
import Derived.Deep.QuietTactic
import Derived.BigQuiet
namespace Go.Proofs.Ytpglncaigmnjcaa
open Go.RowKit

theorem xor_byte (x : BitVec 32) (b : UInt8) : bits .xor .u32 (x.toNat : Int) ((b.toNat : Int) % 4294967296) = ((x ^^^ BitVec.ofNat 32 b.toNat).toNat : Int) := by
  have h := b.toNat_lt
  have e : ((b.toNat : Int) % 4294967296) = ((BitVec.ofNat 32 b.toNat).toNat : Int) := by
    rw [BitVec.toNat_ofNat]; omega
  rw [e, xor32]
theorem low_bit (x : BitVec 32) : x.getLsbD 0 = decide (x.toNat % 2 = 1) := by
  show x.toNat.testBit 0 = _
  rw [Nat.testBit_zero]
theorem step_odd (x : BitVec 32) (h : ((x.toNat : Int) % 2 == 1) = true) : bits .xor .u32 ((x.toNat : Int) / 2) 2197175160 = ((crc.step x).toNat : Int) := by
  have h1 : x.getLsbD 0 = true := by rw [low_bit, decide_eq_true_eq]; simp at h; omega
  have e : ((x.toNat : Int) / (2 : Int)) = ((x >>> 1).toNat : Int) := (shr32 x 1).symm
  have e2 : (2197175160 : Int) = (crc.poly.toNat : Int) := rfl
  rw [e, e2, xor32]
  unfold crc.step
  rw [if_pos h1]
theorem step_even (x : BitVec 32) (h : ((x.toNat : Int) % 2 == 1) = false) : ((x.toNat : Int) / 2) = ((crc.step x).toNat : Int) := by
  have h1 : ¬ x.getLsbD 0 = true := by rw [low_bit, decide_eq_true_eq]; simp at h; omega
  unfold crc.step
  rw [if_neg h1, shr32]; rfl
theorem ones_xor (x : BitVec 32) : bits .xor .u32 (x.toNat : Int) 4294967295 = ((x ^^^ crc.ones).toNat : Int) := by
  have e2 : (4294967295 : Int) = (crc.ones.toNat : Int) := rfl
  rw [e2, xor32]
theorem int32_eq {a b : Int} (h : a = b) : Value.int .u32 a = Value.int .u32 b := by rw [h]
theorem ret_int {k : IntKind} {a b : Int} (h : a = b) : Ending.returned (.int k a) = .returned (.int k b) := by rw [h]
theorem take_snoc (s : ByteArray) (k : Nat) (h : k < s.size) : s.data.toList.take (k + 1) = s.data.toList.take k ++ [s[k]] := by
  rw [List.take_succ_eq_append_getElem (by simpa using h)]; rfl

set_option maxHeartbeats 400000 in
theorem refsum_any (s : ByteArray) (hs : s.size ≤ maxLen) (w : World) :
    Calls Try.prog 13 #[.string s] w fun e w' => e = .returned (.int .u32 ((crc.sum s.data.toList).toNat : Int)) ∧ w = w' := by
  unfold maxLen at hs
  go_enter Try.func13, Try.ntmps13
  go_wp2
  go_loop [3, 4] (fun c i => ∃ k : Nat, k ≤ s.size ∧ i = .int .i64 k ∧ c = .int .u32 ((crc.run crc.ones (s.data.toList.take k)).toNat : Int)) (fun _ i => s.size - (intOf i).toNat)
  case atStart => exact ⟨0, Nat.zero_le _, rfl, rfl⟩
  case round =>
    obtain ⟨k, hk, rfl, rfl⟩ := hrel
    obtain ⟨x, hx⟩ : ∃ x, x = crc.run crc.ones (s.data.toList.take k) := ⟨_, rfl⟩
    have HX := hide hx
    rw [← hx]
    clear hx
    by_cases hlt : k < s.size
    · go_wp2
      obtain ⟨b, hb⟩ : ∃ b, b = s[k] := ⟨_, rfl⟩
      have HB := hide hb
      rw [← hb]
      clear hb
      go_loop [3, 5] (fun c i => ∃ j : Nat, j ≤ 8 ∧ i = .int .i64 j ∧ c = .int .u32 ((crc.stepN j (x ^^^ BitVec.ofNat 32 b.toNat)).toNat : Int)) (fun _ i => 8 - (intOf i).toNat)
      case atStart => exact ⟨0, by omega, rfl, int32_eq (xor_byte _ _)⟩
      case round =>
        obtain ⟨j, hj, rfl, rfl⟩ := hrel
        obtain ⟨y, hy⟩ : ∃ y, y = crc.stepN j (x ^^^ BitVec.ofNat 32 b.toNat) := ⟨_, rfl⟩
        have HY := hide hy
        rw [← hy]
        clear hy
        by_cases hjl : j < 8
        · go_wp2
          all_goals go_round
          case rel => exact ⟨j + 1, by omega, by go_num, int32_eq (by rw [step_odd y (by assumption)]; rw [HY.out]; rfl)⟩
          case measure => simp [intOf]; omega
          case rel => exact ⟨j + 1, by omega, by go_num, int32_eq (by rw [step_even y (by assumption)]; rw [HY.out]; rfl)⟩
          case measure => simp [intOf]; omega
        · go_wp2
          go_round
          case rel => exact ⟨k + 1, by omega, by go_num, int32_eq (by
            have e8 : j = 8 := by omega
            subst e8
            rw [take_snoc s k hlt, crc.run_snoc, ← HX.out, ← HB.out, HY.out]; rfl)⟩
          case measure => simp [intOf]; omega
    · go_wp2
      go_ret
      exact ⟨ret_int (by
        rw [ones_xor, HX.out, List.take_of_length_le (by simp; omega)]
        rfl), rfl⟩

/-- Four bytes of a number, the lowest first. -/
def four (x : BitVec 32) : List UInt8 := [UInt8.ofNat (x.toNat % 256), UInt8.ofNat (x.toNat / 256 % 256), UInt8.ofNat (x.toNat / 65536 % 256), UInt8.ofNat (x.toNat / 16777216)]
theorem four_length (x : BitVec 32) : (four x).length = 4 := rfl
theorem four_cells (x : BitVec 32) : u8s (four x) = [.int .u8 ((x.toNat : Int) % 256), .int .u8 ((x.toNat : Int) / 256 % 256), .int .u8 ((x.toNat : Int) / 65536 % 256), .int .u8 ((x.toNat : Int) / 16777216)] := by
  have h := x.isLt
  simp only [u8s, four, List.map_cons, List.map_nil, UInt8.toNat_ofNat']
  congr 1
  · congr 1; omega
  · congr 1
    · congr 1; omega
    · congr 1
      · congr 1; omega
      · congr 1; congr 1; omega
set_option maxHeartbeats 400000 in
theorem four_any (x : BitVec 32) (w : World) :
    Calls Try.prog 22 #[.int .u32 (x.toNat : Int)] w fun e w' => e = .returned (.slice (some ⟨w.heap.size, 0, none⟩) 4 4) ∧ w.alloc (.cells (u8s (four x)).toArray 5) = w' := by
  have h0 : (0 : Int) ≤ (x.toNat : Int) := by omega
  have h1 : (x.toNat : Int) < 4294967296 := by have := x.isLt; omega
  go_enter Try.func22, Try.ntmps22
  go_wp2
  go_ret
  exact ⟨rfl, by rw [four_cells]⟩
set_option maxHeartbeats 400000 in
theorem reffour_any (x : BitVec 32) (w : World) :
    Calls Try.prog 23 #[.int .u32 (x.toNat : Int)] w fun e w' => e = .returned (.string ⟨(four x).toArray⟩) ∧ w.alloc (.cells (u8s (four x)).toArray 5) = w' := by
  have h0 : (0 : Int) ≤ (x.toNat : Int) := by omega
  have h1 : (x.toNat : Int) < 4294967296 := by have := x.isLt; omega
  go_enter Try.func23, Try.ntmps23
  have hr : Rb (w.alloc (.cells #[.int .u8 ((x.toNat : Int) % 256), .int .u8 ((x.toNat : Int) / 256 % 256), .int .u8 ((x.toNat : Int) / 65536 % 256), .int .u8 ((x.toNat : Int) / 16777216)] 5)) (w.heap.size + 1) (some ⟨w.heap.size, 0, none⟩) 4 (four x) := by
    have h := World.ownsRow_lit (e := 5) (size := 1) (base := w.heap.size) w (u8s (four x)).toArray 4 (Nat.le_refl _) (by simp [maxLen]) (by simp [u8s_length, four_length])
    rw [four_cells] at h
    have h2 := Rd.of_own h
    rw [World.size_alloc] at h2
    unfold Rb
    rw [four_cells]
    exact h2
  go_wp2_with ((with_reducible show wpList _ _ _ ({ dst := _, op := .convert 30 9 _, type := _, pos := _, after := _, guard := _ } :: _) _ _); refine wpList_bytes_string Try.underlying30 Try.underlying5 Try.underlying9 rfl (by assumption) ?_)
  go_ret
  exact ⟨rfl, by rw [four_cells]⟩

/-- The number of four bytes. -/
def num (l : List UInt8) : Nat := (l[0]?.getD 0).toNat + 256 * (l[1]?.getD 0).toNat + 65536 * (l[2]?.getD 0).toNat + 16777216 * (l[3]?.getD 0).toNat
theorem num_lt (l : List UInt8) : num l < 4294967296 := by
  have h0 := (l[0]?.getD 0).toNat_lt
  have h1 := (l[1]?.getD 0).toNat_lt
  have h2 := (l[2]?.getD 0).toNat_lt
  have h3 := (l[3]?.getD 0).toNat_lt
  unfold num; omega
theorem or_high (i a b : Nat) (ha : a < 2 ^ i) (hi : 2 ^ i * b < 4294967296) (h : a < 4294967296) : bits .or .u32 (a : Int) ((2 ^ i * b : Nat) : Int) = ((a + 2 ^ i * b : Nat) : Int) := by
  rw [(bits_nat .u32 32 (by decide) (fun n h0 h1 => by rw [IntKind.wrap_u32]; omega) a (2 ^ i * b) (by omega) (by omega)).2]
  rw [Nat.or_comm, ← Nat.two_pow_add_eq_or_of_lt ha, Nat.add_comm]
theorem num_or (x0 x1 x2 x3 : UInt8) : bits BinOp.or IntKind.u32 (bits BinOp.or IntKind.u32 (bits BinOp.or IntKind.u32 (x0.toNat : Int) ((x1.toNat : Int) * 256)) ((x2.toNat : Int) * 65536)) ((x3.toNat : Int) * 16777216)
    = ((x0.toNat + 256 * x1.toNat + 65536 * x2.toNat + 16777216 * x3.toNat : Nat) : Int) := by
  have l0 := x0.toNat_lt
  have l1 := x1.toNat_lt
  have l2 := x2.toNat_lt
  have l3 := x3.toNat_lt
  have h1 := or_high 8 x0.toNat x1.toNat (by omega) (by omega) (by omega)
  have h2 := or_high 16 (x0.toNat + 2 ^ 8 * x1.toNat) x2.toNat (by omega) (by omega) (by omega)
  have h3 := or_high 24 (x0.toNat + 2 ^ 8 * x1.toNat + 2 ^ 16 * x2.toNat) x3.toNat (by omega) (by omega) (by omega)
  have e1 : ((x1.toNat : Int) * 256) = ((2 ^ 8 * x1.toNat : Nat) : Int) := by omega
  have e2 : ((x2.toNat : Int) * 65536) = ((2 ^ 16 * x2.toNat : Nat) : Int) := by omega
  have e3 : ((x3.toNat : Int) * 16777216) = ((2 ^ 24 * x3.toNat : Nat) : Int) := by omega
  rw [e1, e2, e3, h1, h2, h3]
set_option maxHeartbeats 400000 in
theorem number_any {w : World} {B n : Nat} {A : Option Addr} {l : List UInt8} (c : Nat) (hr : Rb w B A n l) (h4 : 4 ≤ n) :
    Calls Try.prog 24 #[.slice A n c] w fun e w' => e = .returned (.int .u32 (num l : Int)) ∧ ∃ m, w.drewN m = w' := by
  obtain ⟨b, o, x0, rfl, hb, g0, c0⟩ := hr.at_ (j := 0) (by omega)
  obtain ⟨b', o', x1, e1, _, g1, c1⟩ := hr.at_ (j := 1) (by omega)
  cases e1
  obtain ⟨b', o', x2, e1, _, g2, c2⟩ := hr.at_ (j := 2) (by omega)
  cases e1
  obtain ⟨b', o', x3, e1, _, g3, c3⟩ := hr.at_ (j := 3) (by omega)
  cases e1
  rw [Nat.add_zero] at c0
  have l0 := x0.toNat_lt
  have l1 := x1.toNat_lt
  have l2 := x2.toNat_lt
  have l3 := x3.toNat_lt
  have i0 : (0 : Int) < (n : Int) := by omega
  have j0 : 0 < n := by omega
  have i1 : (1 : Int) < (n : Int) := by omega
  have i2 : (2 : Int) < (n : Int) := by omega
  have i3 : (3 : Int) < (n : Int) := by omega
  have H : Hid (num l = x0.toNat + 256 * x1.toNat + 65536 * x2.toNat + 16777216 * x3.toNat) := hide (by unfold num; rw [g0, g1, g2, g3]; rfl)
  clear g0 g1 g2 g3 hr
  go_enter Try.func24, Try.ntmps24
  go_wp2
  go_quiet (fail)
  go_wp2
  go_ret
  exact ⟨ret_int (by rw [H.out]; exact num_or _ _ _ _), _, rfl⟩
set_option maxHeartbeats 400000 in
theorem refnumber_any (s : ByteArray) (w : World) (h4 : 4 ≤ s.size) (hs : s.size ≤ maxLen) :
    Calls Try.prog 26 #[.string s] w fun e w' => e = .returned (.int .i64 (num s.data.toList : Int)) ∧ ∃ m, w.drewN m = w' := by
  unfold maxLen at hs
  have i0 : (0 : Int) < (s.size : Int) := by omega
  have j0 : 0 < s.size := by omega
  have i1 : (1 : Int) < (s.size : Int) := by omega
  have i2 : (2 : Int) < (s.size : Int) := by omega
  have i3 : (3 : Int) < (s.size : Int) := by omega
  have l0 := (s[0]'(by omega)).toNat_lt
  have l1 := (s[1]'(by omega)).toNat_lt
  have l2 := (s[2]'(by omega)).toNat_lt
  have l3 := (s[3]'(by omega)).toNat_lt
  have g (i : Nat) (h : i < s.size) : s.data.toList[i]?.getD 0 = s[i] := by
    rw [List.getElem?_eq_getElem (by simpa using h)]; rfl
  have H : Hid (num s.data.toList = s[0].toNat + 256 * s[1].toNat + 65536 * s[2].toNat + 16777216 * s[3].toNat) := hide (by
    unfold num; rw [g 0 (by omega), g 1 (by omega), g 2 (by omega), g 3 (by omega)])
  clear g
  go_enter Try.func26, Try.ntmps26
  go_wp2
  go_quiet (fail)
  go_wp2
  go_ret
  exact ⟨ret_int (by rw [H.out]; omega), _, rfl⟩
end Go.Proofs.Ytpglncaigmnjcaa
