/-
  FrameScans: the front of any bytes, as frame.Scan gathers it, is the reference's; the bytes stay.
  Conditions: none beside the row's own.
-/
import Derived.Test.YtpglncaigmnjcaaScansWalk
import Derived.Test.YtpglncaigmnjcaaLaw
namespace Go.Proofs.Ytpglncaigmnjcaa
open Go.ChangeShapes Go.WideShapes Go.ChangeAt Go.RowKit Go.Deep

set_option maxRecDepth 100000 in
theorem frameScans_lifted (os : Os) (started : os.Started) (H : Type) (enc : TypeId × Value → H) :
    ReturnsInHanded {} Try.checked os 8 .any (Rows.frameScansSpec.pre6 enc Try.prog Try.f8 Rows.frameScansRow.domain false) (Rows.frameScansSpec.post enc Try.prog Try.f8 false true false false) := by
  refine returnsInHanded_of_change (C := Try.checked) Try.own started (by kernel_rfl) Try.func8
    (ChangeSpec.witness6 (enc := enc) (C := Try.checked) false ⟨#[], #[.slice none 0 0], []⟩ 8 (by kernel_rfl) (by kernel_rfl) (by kernel_rfl) (by kernel_rfl)) ?_
  intro W base args ds gs before hval0 hW hcnd _
  have hval : ∀ (j : Nat) t v, Try.f8.params[j]? = some t → args[j]? = some v → Value.okWide Try.prog W .any base t v := hval0
  have hW' := hW
  obtain ⟨p, q, hA0, hV, rfl, hfz, hnd⟩ := hW
  have hA : DataW.TrodAll enc Try.prog W 0 (fun _ => true) true Try.f8.params.toList args.toList ds p := hA0
  rw [Try.params8] at hA hval
  obtain ⟨v0, d0, rfl, rfl, h0⟩ := trodAll_one hA
  obtain ⟨rfl, rfl⟩ := trodVars_none hV
  obtain ⟨fuel, hf⟩ := h0
  obtain ⟨a0, len0, cap0, rfl⟩ := okWide_slice Try.underlying30 (hval 0 30 v0 rfl rfl)
  obtain ⟨A0, n0, c0, l0, hv0, hr0, hn0, hm0⟩ := open_bytes hf
  cases hv0
  have hcall : Calls Try.prog 8 #[.slice a0 len0 cap0] W fun e W' => e = .returned (.bool true) ∧ Below W.heap.size W W' := by
    by_cases h : 9000 < len0
    · exact framescans_long cap0 h
    · exact framescans_any cap0 hr0 (Nat.le_refl _) hn0 (by omega)
  refine hcall.mono fun e W' ⟨he, hb⟩ => ?_
  subst he
  exact ⟨_, rfl, law_post (tb := 4) Try.laidOut (by kernel_rfl) rfl Try.underlying4 rfl hW' rfl hb⟩

theorem frameScans_holds : Rows.FrameScansSaid :=
  OpenClaim.holds_of_wide 8 Try.f8 rfl rfl rfl rfl rfl rfl rfl ⟨rfl, rfl, rfl, rfl, rfl⟩ rfl rfl rfl rfl rfl (by kernel_rfl) Try.func8 (by kernel_rfl)
    (of_decide_eq_true (by kernel_rfl)) (by unfold Func.isWrapper; first | (rw [if_pos (by decide +kernel)]; kernel_rfl) | (rw [if_neg (by decide +kernel)]; exact ⟨rfl, rfl⟩))
    (fun os started H enc _ => frameScans_lifted os started H enc)
end Go.Proofs.Ytpglncaigmnjcaa
