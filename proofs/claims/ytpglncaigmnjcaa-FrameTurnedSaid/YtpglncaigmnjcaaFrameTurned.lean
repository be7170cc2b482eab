/-
  FrameTurned: for every kind, payload and pair of numbers: a frame of whose kind and payload one byte is another one isn't decoded; nor is one of whose sum a bit is turned; the arguments read as they did.
  Conditions: none beside the row's own.
-/
import Derived.Test.YtpglncaigmnjcaaTurnWalk2
import Derived.Test.YtpglncaigmnjcaaLaw
namespace Go.Proofs.Ytpglncaigmnjcaa
open Go.ChangeShapes Go.WideShapes Go.ChangeAt Go.RowKit Go.Deep

set_option maxRecDepth 100000 in
set_option maxHeartbeats 800000 in
theorem frameturned_long {w : World} {m : Nat} {A : Option Addr} (c : Nat) (kind a0 a1 : Int) (hn : 3000 < m) :
    Calls Try.prog 7 #[.int .i64 kind, .slice A m c, .agg #[.int .i64 a0, .int .i64 a1]] w fun e w' => e = .returned (.bool true) ∧ Below w.heap.size w w' := by
  have i1 : (3000 : Int) < (m : Int) := by omega
  clear hn
  go_enter Try.func7, Try.ntmps7
  go_wp2_with fail
  refine (awake_any _).mono ?_
  rintro e w1 ⟨rfl, hb1⟩
  have H := hide (((Below.refl w.heap.size w).alloc (Nat.le_refl _) _).trans (hb1.mono (by simp)))
  clear hb1
  go_wp2_with fail
  refine (awake_any _).mono ?_
  rintro e w2 ⟨rfl, hb2⟩
  have H2 := hide (H.out.trans (hb2.mono H.out.size))
  clear hb2 H
  go_wp2_with fail
  go_ret
  exact ⟨rfl, H2.out⟩

set_option maxRecDepth 100000 in
theorem frameTurned_lifted (os : Os) (started : os.Started) (H : Type) (enc : TypeId × Value → H) :
    ReturnsInHanded {} Try.checked os 7 .any (Rows.frameTurnedSpec.pre6 enc Try.prog Try.f7 Rows.frameTurnedRow.domain false) (Rows.frameTurnedSpec.post enc Try.prog Try.f7 false true false false) := by
  refine returnsInHanded_of_change (C := Try.checked) Try.own started (by kernel_rfl) Try.func7
    (ChangeSpec.witness6 (enc := enc) (C := Try.checked) false ⟨#[], #[.int .i64 0, .slice none 0 0, .agg #[.int .i64 0, .int .i64 0]], []⟩ 8 (by kernel_rfl) (by kernel_rfl) (by kernel_rfl) (by kernel_rfl)) ?_
  intro W base args ds gs before hval0 hW hcnd _
  have hval : ∀ (j : Nat) t v, Try.f7.params[j]? = some t → args[j]? = some v → Value.okWide Try.prog W .any base t v := hval0
  have hW' := hW
  obtain ⟨p, q, hA0, hV, rfl, hfz, hnd⟩ := hW
  have hA : DataW.TrodAll enc Try.prog W 0 (fun _ => true) true Try.f7.params.toList args.toList ds p := hA0
  rw [Try.params7] at hA hval
  obtain ⟨v0, v1, v2, d0, d1, d2, p0, p1, p2, rfl, rfl, rfl, h0, h1, h2⟩ := trodAll_three hA
  obtain ⟨rfl, rfl⟩ := trodVars_none hV
  obtain ⟨kk, rfl, rfl, rfl, wkk⟩ := open_int Try.underlying3 (hval 0 3 v0 rfl rfl) h0
  obtain ⟨k0, k1, rfl⟩ := open_two (hval 2 31 v2 rfl rfl) h2
  obtain ⟨fuel1, hf1⟩ := h1
  obtain ⟨a1, len1, cap1, rfl⟩ := okWide_slice Try.underlying30 (hval 1 30 v1 rfl rfl)
  obtain ⟨A1, n1, c1, l1, hv1, hr1, hn1, hm1⟩ := open_bytes hf1
  cases hv1
  have hcall : Calls Try.prog 7 #[.int .i64 kk, .slice a1 len1 cap1, .agg #[.int .i64 k0, .int .i64 k1]] W fun e W' => e = .returned (.bool true) ∧ Below W.heap.size W W' := by
    by_cases h : 3000 < len1
    · exact frameturned_long cap1 kk k0 k1 h
    · obtain ⟨u0, hu⟩ := wrap_nat k0
      by_cases hk : u0 % (len1 + 5) < len1 + 1
      · exact frameturned_low cap1 kk k0 k1 hr1 (Nat.le_refl _) (by omega) hu hk
      · exact frameturned_high cap1 kk k0 k1 hr1 (Nat.le_refl _) (by omega) hu (by omega)
  refine hcall.mono fun e W' ⟨he, hb⟩ => ?_
  subst he
  exact ⟨_, rfl, law_post (tb := 4) Try.laidOut (by kernel_rfl) rfl Try.underlying4 rfl hW' rfl hb⟩

theorem frameTurned_holds : Rows.FrameTurnedSaid :=
  OpenClaim.holds_of_wide 7 Try.f7 rfl rfl rfl rfl rfl rfl rfl ⟨rfl, rfl, rfl, rfl, rfl⟩ rfl rfl rfl rfl rfl (by kernel_rfl) Try.func7 (by kernel_rfl)
    (of_decide_eq_true (by kernel_rfl)) (by unfold Func.isWrapper; first | (rw [if_pos (by decide +kernel)]; kernel_rfl) | (rw [if_neg (by decide +kernel)]; exact ⟨rfl, rfl⟩))
    (fun os started H enc _ => frameTurned_lifted os started H enc)
end Go.Proofs.Ytpglncaigmnjcaa
