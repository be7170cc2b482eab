/-
  The walk of the reference's Encode.
-/
import Derived.Test.YtpglncaigmnjcaaPartsWalk
namespace Go.Proofs.Ytpglncaigmnjcaa
open Go.RowKit

theorem ba_app (a b : List UInt8) : ((⟨a.toArray⟩ : ByteArray) ++ (⟨b.toArray⟩ : ByteArray)) = ⟨(a ++ b).toArray⟩ := by
  apply ba_eq
  simp
theorem ba_len (a : List UInt8) : (⟨a.toArray⟩ : ByteArray).size = a.length := by simp [ByteArray.size]

theorem reffour_nat (m : Nat) (hm : m < 4294967296) (w : World) :
    Calls Try.prog 23 #[.int .u32 (m : Int)] w fun e w' => e = .returned (.string ⟨(four (BitVec.ofNat 32 m)).toArray⟩) ∧ Below w.heap.size w w' := by
  have e : (m : Int) = ((BitVec.ofNat 32 m).toNat : Int) := by rw [BitVec.toNat_ofNat]; omega
  rw [e]
  refine (reffour_any _ w).mono ?_
  rintro e w' ⟨rfl, rfl⟩
  exact ⟨rfl, (Below.refl _ _).alloc (Nat.le_refl _) _⟩
theorem reffour_x (x : BitVec 32) (w : World) :
    Calls Try.prog 23 #[.int .u32 (x.toNat : Int)] w fun e w' => e = .returned (.string ⟨(four x).toArray⟩) ∧ Below w.heap.size w w' := by
  refine (reffour_any _ w).mono ?_
  rintro e w' ⟨rfl, rfl⟩
  exact ⟨rfl, (Below.refl _ _).alloc (Nat.le_refl _) _⟩
theorem refsum_list (l : List UInt8) (hl : l.length ≤ 1000000) (w : World) :
    Calls Try.prog 13 #[.string ⟨l.toArray⟩] w fun e w' => e = .returned (.int .u32 ((crc.sum l).toNat : Int)) ∧ w = w' := by
  have h := refsum_any ⟨l.toArray⟩ (by rw [ba_len]; unfold maxLen; omega) w
  simpa using h

set_option maxHeartbeats 400000 in
theorem refencode_range {w : World} (s : ByteArray) (kind : Int) (hk : kind < 1 ∨ 9 < kind) :
    Calls Try.prog 15 #[.int .i64 kind, .string s] w fun e w' => e = .returned (.tuple #[.string ⟨#[]⟩, .int .i64 1]) ∧ w = w' := by
  rcases hk with hk | hk
  · go_enter Try.func15, Try.ntmps15
    go_wp2
    go_ret2
    exact ⟨rfl, rfl⟩
  · have h2 : ¬ kind < 1 := by omega
    go_enter Try.func15, Try.ntmps15
    go_wp2
    go_ret2
    exact ⟨rfl, rfl⟩

set_option maxHeartbeats 400000 in
theorem refencode_long {w : World} (l : List UInt8) (kind : Int) (hk1 : ¬ kind < 1) (hk9 : ¬ 9 < kind) (hl : 8192 < l.length) (hm : l.length ≤ 1000000) :
    Calls Try.prog 15 #[.int .i64 kind, .string ⟨l.toArray⟩] w fun e w' => e = .returned (.tuple #[.string ⟨#[]⟩, .int .i64 5]) ∧ w = w' := by
  have i1 : (8192 : Int) < (l.length : Int) := by omega
  clear hl hm
  go_enter Try.func15, Try.ntmps15
  go_wp2
  go_ret2
  exact ⟨rfl, rfl⟩

set_option maxRecDepth 100000 in
set_option maxHeartbeats 800000 in
theorem refencode_ok {w : World} (l : List UInt8) (kind : Nat) (hk1 : 1 ≤ kind) (hk9 : kind ≤ 9) (hl : l.length ≤ 8192) :
    Calls Try.prog 15 #[.int .i64 (kind : Int), .string ⟨l.toArray⟩] w fun e w' => e = .returned (.tuple #[.string ⟨(enc kind l).toArray⟩, .int .i64 0]) ∧ Below w.heap.size w w' := by
  have k1 : ¬ (kind : Int) < 1 := by omega
  have k9 : ¬ 9 < (kind : Int) := by omega
  have k10 : (kind : Int) ≤ 9 := by omega
  have i1 : (l.length : Int) ≤ 8192 := by omega
  have hap := ba_app
  have hr : Rb (w.alloc (.cells #[.int .u8 (kind : Int)] 5)) (w.heap.size + 1) (some ⟨w.heap.size, 0, none⟩) 1 [UInt8.ofNat kind] := by
    have h := Rb.lit w [UInt8.ofNat kind] 5 (0, 0)
    have e1 : u8s [UInt8.ofNat kind] = [.int .u8 (kind : Int)] := by simp [u8s]; omega
    rw [e1] at h
    exact h
  have HL := hide hl
  clear hk1 hk9 hl
  go_enter Try.func15, Try.ntmps15
  go_wp2_with ((with_reducible show wpList _ _ _ ({ dst := _, op := .convert 30 9 _, type := _, pos := _, after := _, guard := _ } :: _) _ _); refine wpList_bytes_string_g Try.underlying30 Try.underlying5 Try.underlying9 rfl rfl (by assumption) ?_)
  have hb0 : Below w.heap.size w (w.alloc (.cells #[.int .u8 (kind : Int)] 5)) := (Below.refl _ _).alloc (Nat.le_refl _) _
  have HB0 := hide hb0
  clear hb0 hr
  refine (reffour_nat l.length (by have := HL.out; omega) _).mono ?_
  rintro e w1 ⟨rfl, hb1⟩
  have HB1 := hide (HB0.out.trans (hb1.mono HB0.out.size))
  clear hb1 HB0
  have e1 : l.length + 1 ≤ 8193 := by have := HL.out; omega
  obtain ⟨F1, hF1⟩ : ∃ F, F = four (BitVec.ofNat 32 l.length) := ⟨_, rfl⟩
  have hl1 : F1.length = 4 := by rw [hF1]; rfl
  rw [← hF1]
  have HF1 := hide hF1
  have HL1 := hide hl1
  have j1 : (F1.length : Int) ≤ 4 := by omega
  clear hF1 hl1
  go_wp2_with fail
  refine (refsum_list _ (by simp; have := HL.out; omega) _).mono ?_
  rintro e w2 ⟨rfl, rfl⟩
  go_wp2_with fail
  refine (reffour_x _ _).mono ?_
  rintro e w2 ⟨rfl, hb2⟩
  have HB2 := hide (HB1.out.trans (hb2.mono HB1.out.size))
  clear hb2 HB1
  obtain ⟨F2, hF2⟩ : ∃ F, F = four (crc.sum (UInt8.ofNat kind :: l)) := ⟨_, rfl⟩
  have hl2 : F2.length = 4 := by rw [hF2]; rfl
  rw [← hF2]
  have HF2 := hide hF2
  have j2 : (F2.length : Int) ≤ 4 := by omega
  clear hF2 hl2
  go_wp2_with fail
  have ee : F1 ++ UInt8.ofNat kind :: (l ++ F2) = enc kind l := by rw [HF1.out, HF2.out]; simp [enc, inner]
  rw [ee]
  go_ret2
  exact ⟨rfl, HB2.out⟩
end Go.Proofs.Ytpglncaigmnjcaa
