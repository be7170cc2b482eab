/-
  FrameWrites: for every kind and list of parts: any frame is written as the reference's bytes and read back, or it is told what is wrong as the reference tells it; writing into what is read back does not touch the frame; the arguments read as they did.
  Conditions: none beside the row's own.
-/
import Derived.Test.YtpglncaigmnjcaaWriteWalk
import Derived.Test.YtpglncaigmnjcaaLaw
namespace Go.Proofs.Ytpglncaigmnjcaa
open Go.ChangeShapes Go.WideShapes Go.ChangeAt Go.RowKit Go.Deep

set_option maxRecDepth 100000 in
theorem frameWrites_lifted (os : Os) (started : os.Started) (H : Type) (enc : TypeId × Value → H) :
    ReturnsInHanded {} Try.checked os 5 .any (Rows.frameWritesSpec.pre6 enc Try.prog Try.f5 Rows.frameWritesRow.domain false) (Rows.frameWritesSpec.post enc Try.prog Try.f5 false true false false) := by
  refine returnsInHanded_of_change (C := Try.checked) Try.own started (by kernel_rfl) Try.func5
    (ChangeSpec.witness6 (enc := enc) (C := Try.checked) false ⟨#[], #[.int .i64 0, .slice none 0 0], []⟩ 8 (by kernel_rfl) (by kernel_rfl) (by kernel_rfl) (by kernel_rfl)) ?_
  intro W base args ds gs before hval0 hW hcnd _
  have hval : ∀ (j : Nat) t v, Try.f5.params[j]? = some t → args[j]? = some v → Value.okWide Try.prog W .any base t v := hval0
  have hW' := hW
  obtain ⟨p, q, hA0, hV, rfl, hfz, hnd⟩ := hW
  have hA : DataW.TrodAll enc Try.prog W 0 (fun _ => true) true Try.f5.params.toList args.toList ds p := hA0
  rw [Try.params5] at hA hval
  obtain ⟨v0, v1, d0, d1, p0, p1, rfl, rfl, rfl, h0, h1⟩ := trodAll_two hA
  obtain ⟨rfl, rfl⟩ := trodVars_none hV
  obtain ⟨kk, rfl, rfl, rfl, wkk⟩ := open_int Try.underlying3 (hval 0 3 v0 rfl rfl) h0
  obtain ⟨fuel1, hf1⟩ := h1
  obtain ⟨a1, len1, cap1, rfl⟩ := okWide_slice Try.underlying22 (hval 1 22 v1 rfl rfl)
  obtain ⟨A1, n1, c1, ps, hv1, hr, hn⟩ := open_parts hf1
  cases hv1
  have hcall : Calls Try.prog 5 #[.int .i64 kk, .slice a1 len1 cap1] W fun e W' => e = .returned (.bool true) ∧ Below W.heap.size W W' := by
    by_cases hc : len1 ≤ 50 ∧ (tot ps : Int) ≤ 9000
    · by_cases hbad : kk < 1 ∨ 9 < kk ∨ 8192 < tot ps
      · exact framewrites_bad cap1 kk hr (Nat.le_refl _) hc hbad
      · obtain ⟨k, rfl⟩ : ∃ k : Nat, kk = (k : Int) := ⟨kk.toNat, by omega⟩
        exact framewrites_ok cap1 k hr (Nat.le_refl _) hc (by omega) (by omega) (by omega)
    · exact framewrites_no cap1 kk hr hn hc
  refine hcall.mono fun e W' ⟨he, hb⟩ => ?_
  subst he
  exact ⟨_, rfl, law_post (tb := 4) Try.laidOut (by kernel_rfl) rfl Try.underlying4 rfl hW' rfl hb⟩

theorem frameWrites_holds : Rows.FrameWritesSaid :=
  OpenClaim.holds_of_wide 5 Try.f5 rfl rfl rfl rfl rfl rfl rfl ⟨rfl, rfl, rfl, rfl, rfl⟩ rfl rfl rfl rfl rfl (by kernel_rfl) Try.func5 (by kernel_rfl)
    (of_decide_eq_true (by kernel_rfl)) (by unfold Func.isWrapper; first | (rw [if_pos (by decide +kernel)]; kernel_rfl) | (rw [if_neg (by decide +kernel)]; exact ⟨rfl, rfl⟩))
    (fun os started H enc _ => frameWrites_lifted os started H enc)
end Go.Proofs.Ytpglncaigmnjcaa
