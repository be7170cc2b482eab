/-
  The laws' own fixed fact: awake.
-/
import Derived.Test.YtpglncaigmnjcaaEnc
import Derived.Lib.SlBytesConst
namespace Go.Proofs.Ytpglncaigmnjcaa
open Go.RowKit

def nine : List UInt8 := [49, 50, 51, 52, 53, 54, 55, 56, 57]
theorem nine_sum : (crc.sum nine).toNat = 3808858755 := by kernel_rfl
theorem nine_flat : ([nine] : List (List UInt8)).flatten = nine := rfl

theorem Rb.lit (w : World) (l : List UInt8) (e : TypeId) (fr : Nat × Nat) : Rb (w.alloc (.cells (u8s l).toArray e fr)) (w.heap.size + 1) (some ⟨w.heap.size, 0, none⟩) l.length l := by
  refine ⟨by rw [u8s_length, Nat.mul_one], fun j u hu => ⟨w.heap.size, 0, rfl, by omega, ?_⟩⟩
  rw [cell_of_row _ _ _ _ e fr (heap_alloc_new w _), Nat.zero_add]
  simpa using hu

set_option maxRecDepth 100000 in
set_option maxHeartbeats 800000 in
theorem awake_any (w : World) :
    Calls Try.prog 11 #[] w fun e w' => e = .returned (.bool true) ∧ Below w.heap.size w w' := by
  have kc := fun (w : World) (C : Array Value) (n c : Nat) => Lib.run_convert_bytes_const (P := Try.prog) w 30 5 C n c Try.underlying30 Try.underlying5
  go_enter Try.func11, Try.ntmps11
  go_wp2_with fail
  refine (encode_ok (ps := []) 0 1 (by omega) (by omega) (Rp.nil' w 0 none) (Nat.zero_le _) (by unfold maxLen; omega) (by simp [tot])).mono ?_
  rintro e w1 ⟨A1, c1, rfl, hown1, hb1⟩
  rw [show tot [] + 9 = 9 from rfl]
  clear hown1
  go_wp2_with fail
  have hb2 : Below w.heap.size w (w1.alloc (.cells (u8s nine).toArray 5 (9, 10))) := hb1.alloc hb1.size _
  have hs2 := hb1.size
  have hrp : Rp ((w1.alloc (.cells (u8s nine).toArray 5 (9, 10))).alloc (.cells #[.slice (some ⟨w1.heap.size, 0, none⟩) 9 9] 30)) (w1.heap.size + 1 + 1) (some ⟨w1.heap.size + 1, 0, none⟩) 1 [nine] := by
    have h := Rp.one (w := w1.alloc (.cells (u8s nine).toArray 5 (9, 10))) (c := 9) 30 (Rb.lit w1 nine 5 (9, 10)) (by simp) (by unfold maxLen nine; simp)
    rw [World.size_alloc] at h
    exact h
  refine (sum_any 1 hrp (by simp) (by unfold maxLen; omega)).mono ?_
  rintro e w2 ⟨rfl, hb3⟩
  have hb4 : Below w.heap.size w w2 := (hb2.alloc (by simp; omega) _).trans (hb3.mono (by simp; omega))
  rw [nine_flat, nine_sum]
  clear hb1 hb2 hb3 kc
  go_wp2
  go_ret
  exact ⟨rfl, hb4⟩
end Go.Proofs.Ytpglncaigmnjcaa
