/-
  The walk of the law FrameSums.
-/
import Derived.Test.YtpglncaigmnjcaaAwake
namespace Go.Proofs.Ytpglncaigmnjcaa
open Go.RowKit

theorem flat_data (ps : List (List UInt8)) : (⟨ps.flatten.toArray⟩ : ByteArray).data.toList = ps.flatten := by simp

set_option maxRecDepth 100000 in
set_option maxHeartbeats 800000 in
theorem framesums_any {w : World} {B n : Nat} {A : Option Addr} {ps : List (List UInt8)} (c : Nat) (hr : Rp w B A n ps) (hB : B ≤ w.heap.size) (hn : n ≤ maxLen) :
    Calls Try.prog 3 #[.slice A n c] w fun e w' => e = .returned (.bool true) ∧ Below w.heap.size w w' := by
  by_cases hc : n ≤ 50 ∧ (tot ps : Int) ≤ 3000
  · have H := hide (And.intro hr (And.intro hB hc))
    clear hr hB hc hn
    go_enter Try.func3, Try.ntmps3
    go_wp2_with fail
    refine (joined_yes _ _ H.out.1 H.out.2.2.1 (by omega) H.out.2.2.2).mono ?_
    rintro e w1 ⟨rfl, rfl⟩
    go_wp2_with fail
    refine (awake_any _).mono ?_
    rintro e w1 ⟨rfl, hb1⟩
    go_wp2_with fail
    refine (sum_any _ ((H.out.1.more H.out.2.1).below hb1) hb1.size (by have := H.out.2.2.1; unfold maxLen; omega)).mono ?_
    rintro e w2 ⟨rfl, hb2⟩
    go_wp2_with fail
    refine (refsum_any _ (by have := H.out.2.2.2; unfold tot at this; unfold maxLen; simp [ByteArray.size] at this ⊢; omega) _).mono ?_
    rintro e w3 ⟨rfl, rfl⟩
    rw [flat_data]
    have hb3 := hb1.trans (hb2.mono hb1.size)
    have H3 := hide hb3
    clear hb1 hb2 hb3
    go_wp2_with fail
    go_ret
    exact ⟨rfl, H3.out⟩
  · have H := hide (And.intro hr (And.intro hB (And.intro hn hc)))
    clear hr hB hn hc
    go_enter Try.func3, Try.ntmps3
    go_wp2_with fail
    refine (joined_no _ _ H.out.1 H.out.2.2.1 (by omega) (by omega) H.out.2.2.2).mono ?_
    rintro e w1 ⟨rfl, rfl⟩
    go_wp2_with fail
    refine (awake_any _).mono ?_
    rintro e w1 ⟨rfl, hb1⟩
    go_wp2_with fail
    refine (awake_any _).mono ?_
    rintro e w2 ⟨rfl, hb2⟩
    have hb3 := hb1.trans (hb2.mono hb1.size)
    have H3 := hide hb3
    clear hb1 hb2 hb3
    go_wp2_with fail
    go_ret
    exact ⟨rfl, H3.out⟩
end Go.Proofs.Ytpglncaigmnjcaa
