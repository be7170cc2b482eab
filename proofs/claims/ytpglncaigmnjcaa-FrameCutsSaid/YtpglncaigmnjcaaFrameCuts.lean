/-
  FrameCuts: of frames' bytes, one behind the other, cut off anywhere, the front is those frames that stand whole ahead of the cut; the arguments read as they did.
  Conditions: none beside the row's own.
-/
import Derived.Test.YtpglncaigmnjcaaCutWalk
import Derived.Test.YtpglncaigmnjcaaLaw
namespace Go.Proofs.Ytpglncaigmnjcaa
open Go.ChangeShapes Go.WideShapes Go.ChangeAt Go.RowKit Go.Deep

set_option maxRecDepth 100000 in
theorem frameCuts_lifted (os : Os) (started : os.Started) (H : Type) (enc : TypeId × Value → H) :
    ReturnsInHanded {} Try.checked os 9 .any (Rows.frameCutsSpec.pre6 enc Try.prog Try.f9 Rows.frameCutsRow.domain false) (Rows.frameCutsSpec.post enc Try.prog Try.f9 false true false false) := by
  refine returnsInHanded_of_change (C := Try.checked) Try.own started (by kernel_rfl) Try.func9
    (ChangeSpec.witness6 (enc := enc) (C := Try.checked) false ⟨#[], #[.slice none 0 0, .int .i64 0], []⟩ 8 (by kernel_rfl) (by kernel_rfl) (by kernel_rfl) (by kernel_rfl)) ?_
  intro W base args ds gs before hval0 hW hcnd _
  have hval : ∀ (j : Nat) t v, Try.f9.params[j]? = some t → args[j]? = some v → Value.okWide Try.prog W .any base t v := hval0
  have hW' := hW
  obtain ⟨p, q, hA0, hV, rfl, hfz, hnd⟩ := hW
  have hA : DataW.TrodAll enc Try.prog W 0 (fun _ => true) true Try.f9.params.toList args.toList ds p := hA0
  rw [Try.params9] at hA hval
  obtain ⟨v0, v1, d0, d1, p0, p1, rfl, rfl, rfl, h0, h1⟩ := trodAll_two hA
  obtain ⟨rfl, rfl⟩ := trodVars_none hV
  obtain ⟨kk, rfl, rfl, rfl, wkk⟩ := open_int Try.underlying3 (hval 1 3 v1 rfl rfl) h1
  obtain ⟨fuel0, hf0⟩ := h0
  obtain ⟨a1, len1, cap1, rfl⟩ := okWide_slice Try.underlying22 (hval 0 22 v0 rfl rfl)
  obtain ⟨A1, n1, c1, ps, hv1, hr, hn⟩ := open_parts hf0
  cases hv1
  have hcall : Calls Try.prog 9 #[.slice a1 len1 cap1, .int .i64 kk] W fun e W' => e = .returned (.bool true) ∧ Below W.heap.size W W' := by
    by_cases hc : len1 ≤ 50 ∧ (tot ps : Int) ≤ 3000
    · exact framecuts_any cap1 kk hr (Nat.le_refl _) hc
    · exact framecuts_no cap1 kk hr hn hc
  refine hcall.mono fun e W' ⟨he, hb⟩ => ?_
  subst he
  exact ⟨_, rfl, law_post (tb := 4) Try.laidOut (by kernel_rfl) rfl Try.underlying4 rfl hW' rfl hb⟩

theorem frameCuts_holds : Rows.FrameCutsSaid :=
  OpenClaim.holds_of_wide 9 Try.f9 rfl rfl rfl rfl rfl rfl rfl ⟨rfl, rfl, rfl, rfl, rfl⟩ rfl rfl rfl rfl rfl (by kernel_rfl) Try.func9 (by kernel_rfl)
    (of_decide_eq_true (by kernel_rfl)) (by unfold Func.isWrapper; first | (rw [if_pos (by decide +kernel)]; kernel_rfl) | (rw [if_neg (by decide +kernel)]; exact ⟨rfl, rfl⟩))
    (fun os started H enc _ => frameCuts_lifted os started H enc)
end Go.Proofs.Ytpglncaigmnjcaa
