/-
  SimfsSure: what was synced, and whose name was sure, outlives a crash, and is there as it was, perhaps with more bytes behind that were appended; the arguments read as they did.
  Conditions: none beside the row's own.
-/
import Derived.Test.YtlnmjkilefnjpaaSureAll
import Derived.Test.YtlnmjkilefnjpaaLaw
import Derived.ChangeMaps5
namespace Go.Proofs.Ytlnmjkilefnjpaa
open Go.ChangeShapes Go.WideShapes Go.ChangeAt Go.RowKit Go.Deep

set_option maxRecDepth 100000 in
theorem simfsSure_lifted (os : Os) (started : os.Started) (H : Type) (enc : TypeId × Value → H) :
    ReturnsInHanded {} Try.checked os 4 .any (Rows.simfsSureSpec.pre6 enc Try.prog Try.f4 Rows.simfsSureRow.domain false) (Rows.simfsSureSpec.post enc Try.prog Try.f4 false true false false) := by
  refine returnsInHanded_of_change (C := Try.checked) Try.own started (by kernel_rfl) Try.func4
    (ChangeSpec.witness6 (enc := enc) (C := Try.checked) false ⟨#[], #[.slice none 0 0, .slice none 0 0, .agg #[.int .i64 0, .int .i64 0]], []⟩ 8 (by kernel_rfl) (by kernel_rfl) (by kernel_rfl) (by kernel_rfl)) ?_
  intro W base args ds gs before hval0 hW hcnd _
  have hval : ∀ (j : Nat) t v, Try.f4.params[j]? = some t → args[j]? = some v → Value.okWide Try.prog W .any base t v := hval0
  have hW' := hW
  obtain ⟨p, q, hA0, hV, rfl, hfz, hnd⟩ := hW
  have hA : DataW.TrodAll enc Try.prog W 0 (fun _ => true) true Try.f4.params.toList args.toList ds p := hA0
  rw [Try.params4] at hA hval
  obtain ⟨v0, v1, v2, d0, d1, d2, p0, p1, p2, rfl, rfl, rfl, h0, h1, h2⟩ := trodAll_three hA
  obtain ⟨rfl, rfl⟩ := trodVars_none hV
  obtain ⟨fuel0, hf0⟩ := h0
  obtain ⟨a0, len0, cap0, rfl⟩ := okWide_slice Try.underlying29 (hval 0 29 v0 rfl rfl)
  obtain ⟨A0, n0, c0, l0, hv0, hr0, hn0, hc0⟩ := open_bytes hf0
  cases hv0
  obtain ⟨fuel1, hf1⟩ := h1
  obtain ⟨a1, len1, cap1, rfl⟩ := okWide_slice Try.underlying29 (hval 1 29 v1 rfl rfl)
  obtain ⟨A1, n1, c1, l1, hv1, hr1, hn1, hc1⟩ := open_bytes hf1
  cases hv1
  obtain ⟨x, y, rfl, ⟨hx0, hx1⟩, hy0, hy1⟩ := open_pair (hval 2 36 v2 rfl rfl) h2
  have hcall := sure_any (w := W) cap0 cap1 hr0 hr1 (Nat.le_refl _) hx0 hx1 hy0 hy1
  refine hcall.mono fun e W' ⟨he, hb⟩ => ?_
  subst he
  exact ⟨_, rfl, law_post (tb := 4) Try.laidOut (by kernel_rfl) rfl Try.underlying4 rfl hW' rfl hb⟩

theorem simfsSure_holds : Rows.SimfsSureSaid :=
  OpenClaim.holds_of_wide 4 Try.f4 rfl rfl rfl rfl rfl rfl rfl ⟨rfl, rfl, rfl, rfl, rfl⟩ rfl rfl rfl rfl rfl (by kernel_rfl) Try.func4 (by kernel_rfl)
    (of_decide_eq_true (by kernel_rfl)) (by unfold Func.isWrapper; first | (rw [if_pos (by decide +kernel)]; kernel_rfl) | (rw [if_neg (by decide +kernel)]; exact ⟨rfl, rfl⟩))
    (fun os started H enc _ => simfsSure_lifted os started H enc)
end Go.Proofs.Ytlnmjkilefnjpaa
