/-
  The walks of slices.Clone at the element types of this seat (printed by genclone.py).
-/
import Derived.Test.YtlpmnnkijdbopaaArms
import Derived.Lib.SliceRun
namespace Go.Proofs.Ytlpmnnkijdbopaa
open Go.RowKit
set_option maxHeartbeats 800000 in
theorem cloneS_any {w : World} {B n : Nat} {A : Option Addr} {l : List Value} (c : Nat) (hr : Rd w B 1 A n l) (hB : B ≤ w.heap.size) (hn : n ≤ 1000) (h1 : ∀ u ∈ l, u.oneCell' = true) :
    Calls Try.prog 44 #[.slice A n c] w fun e w' => ∃ A' c', e = .returned (.slice A' n c') ∧ w'.ownsRow w.heap.size 9 1 (.slice A' n c') n l ∧ Below w.heap.size w w' := by
  have hq := fun w n c => Lib.run_eql_slice_nil (P := Try.prog) w 31 9 A n c 0 0 Try.underlying31
  have hown := World.ownsRow_made (e := 9) (size := 1) (base := w.heap.size) w #[] 0 (Nat.le_refl _) (by unfold maxLen; omega) rfl
  have hb : Below w.heap.size w (w.alloc (.cells #[] 9)) := (Below.refl _ _).alloc (Nat.le_refl _) _
  obtain ⟨i0, hi0, hz0, hz1, hz2⟩ := info_parts Try.infoS
  have HI := hide (And.intro hi0 (And.intro hz0 (And.intro hz1 (And.intro hz2 h1))))
  have H := hide (And.intro (hr.alloc hB (.cells #[] 9)) (And.intro hown (And.intro hb hn)))
  rcases A with _ | ad
  · have hl : l = [] := Rd.none_len hr
    subst hl
    have hn0 : n = 0 := by have := hr.len; simp at this; omega
    subst hn0
    clear hr hown hb hn hi0 hz0 hz1 hz2 h1
    go_enter Try.func44, Try.ntmps44
    go_wp2
    go_ret
    exact ⟨none, 0, rfl, World.ownsRow_nil _ _ _ _, Below.refl _ _⟩
  · clear hr hown hb hn hi0 hz0 hz1 hz2 h1
    go_enter Try.func44, Try.ntmps44
    go_wp2_with ((with_reducible show wpList _ _ _ ({ dst := _, op := .call { callee := .builtin .append, args := #[_, _], argTypes := #[31, 31] }, type := _, pos := _, after := _, guard := _ } :: _) _ _); refine wpList_append_g Try.underlying31 HI.out.1 HI.out.2.1 HI.out.2.2.1 HI.out.2.2.2.1 rfl (by decide) rfl rfl H.out.2.1 H.out.1 HI.out.2.2.2.2 (by have := H.out.2.2.2; unfold maxLen; omega) (by have := H.out.2.2.2; omega) (by simp) ?_; intro A2 c2 w2 hown2 hg2; have H2 := hide (And.intro hown2 hg2); clear hown2 hg2)
    go_ret
    refine ⟨A2, c2, ?_, ?_, ?_⟩
    · simp
    · have := H2.out.1
      simp only [Nat.zero_add, List.nil_append] at this
      exact this
    · exact H.out.2.2.1.grown H2.out.2 (by simp) (fun q hq => by simp [Value.ownBlock] at hq; omega)
theorem Try.infoI : (Try.prog.info? 69).map (fun i => (i.zero, i.size, i.bytes)) = some (some (.agg #[.string ⟨#[]⟩, .string ⟨#[]⟩, .bool false, .int .i64 0, .string ⟨#[]⟩, .slice none 0 0, .slice none 0 0, .int .i64 0, .int .i64 0]), 9, 128) := by kernel_rfl
set_option maxHeartbeats 800000 in
theorem cloneI_any {w : World} {B n : Nat} {A : Option Addr} {l : List Value} (c : Nat) (hr : Rd w B 9 A n l) (hB : B ≤ w.heap.size) (hn : n ≤ 1000) (h1 : ∀ u ∈ l, u.oneCell' = true) :
    Calls Try.prog 65 #[.slice A n c] w fun e w' => ∃ A' c', e = .returned (.slice A' n c') ∧ w'.ownsRow w.heap.size 69 9 (.slice A' n c') n l ∧ Below w.heap.size w w' := by
  have hq := fun w n c => Lib.run_eql_slice_nil (P := Try.prog) w 33 69 A n c 0 0 Try.underlying33
  have hown := World.ownsRow_made (e := 69) (size := 9) (base := w.heap.size) w #[] 0 (Nat.le_refl _) (by unfold maxLen; omega) rfl
  have hb : Below w.heap.size w (w.alloc (.cells #[] 69)) := (Below.refl _ _).alloc (Nat.le_refl _) _
  obtain ⟨i0, hi0, hz0, hz1, hz2⟩ := info_parts Try.infoI
  have HI := hide (And.intro hi0 (And.intro hz0 (And.intro hz1 (And.intro hz2 h1))))
  have H := hide (And.intro (hr.alloc hB (.cells #[] 69)) (And.intro hown (And.intro hb hn)))
  rcases A with _ | ad
  · have hl : l = [] := Rd.none_len hr
    subst hl
    have hn0 : n = 0 := by have := hr.len; simp at this; omega
    subst hn0
    clear hr hown hb hn hi0 hz0 hz1 hz2 h1
    go_enter Try.func65, Try.ntmps65
    go_wp2
    go_ret
    exact ⟨none, 0, rfl, World.ownsRow_nil _ _ _ _, Below.refl _ _⟩
  · clear hr hown hb hn hi0 hz0 hz1 hz2 h1
    go_enter Try.func65, Try.ntmps65
    go_wp2_with ((with_reducible show wpList _ _ _ ({ dst := _, op := .call { callee := .builtin .append, args := #[_, _], argTypes := #[33, 33] }, type := _, pos := _, after := _, guard := _ } :: _) _ _); refine wpList_append_g Try.underlying33 HI.out.1 HI.out.2.1 HI.out.2.2.1 HI.out.2.2.2.1 rfl (by decide) rfl rfl H.out.2.1 H.out.1 HI.out.2.2.2.2 (by have := H.out.2.2.2; unfold maxLen; omega) (by have := H.out.2.2.2; omega) (by simp) ?_; intro A2 c2 w2 hown2 hg2; have H2 := hide (And.intro hown2 hg2); clear hown2 hg2)
    go_ret
    refine ⟨A2, c2, ?_, ?_, ?_⟩
    · simp
    · have := H2.out.1
      simp only [Nat.zero_add, List.nil_append] at this
      exact this
    · exact H.out.2.2.1.grown H2.out.2 (by simp) (fun q hq => by simp [Value.ownBlock] at hq; omega)
theorem Try.infoF : (Try.prog.info? 42).map (fun i => (i.zero, i.size, i.bytes)) = some (some (.agg #[.string ⟨#[]⟩, .slice none 0 0, .string ⟨#[]⟩, .int .i64 0]), 4, 64) := by kernel_rfl
set_option maxHeartbeats 800000 in
theorem cloneF_any {w : World} {B n : Nat} {A : Option Addr} {l : List Value} (c : Nat) (hr : Rd w B 4 A n l) (hB : B ≤ w.heap.size) (hn : n ≤ 1000) (h1 : ∀ u ∈ l, u.oneCell' = true) :
    Calls Try.prog 46 #[.slice A n c] w fun e w' => ∃ A' c', e = .returned (.slice A' n c') ∧ w'.ownsRow w.heap.size 42 4 (.slice A' n c') n l ∧ Below w.heap.size w w' := by
  have hq := fun w n c => Lib.run_eql_slice_nil (P := Try.prog) w 32 42 A n c 0 0 Try.underlying32
  have hown := World.ownsRow_made (e := 42) (size := 4) (base := w.heap.size) w #[] 0 (Nat.le_refl _) (by unfold maxLen; omega) rfl
  have hb : Below w.heap.size w (w.alloc (.cells #[] 42)) := (Below.refl _ _).alloc (Nat.le_refl _) _
  obtain ⟨i0, hi0, hz0, hz1, hz2⟩ := info_parts Try.infoF
  have HI := hide (And.intro hi0 (And.intro hz0 (And.intro hz1 (And.intro hz2 h1))))
  have H := hide (And.intro (hr.alloc hB (.cells #[] 42)) (And.intro hown (And.intro hb hn)))
  rcases A with _ | ad
  · have hl : l = [] := Rd.none_len hr
    subst hl
    have hn0 : n = 0 := by have := hr.len; simp at this; omega
    subst hn0
    clear hr hown hb hn hi0 hz0 hz1 hz2 h1
    go_enter Try.func46, Try.ntmps46
    go_wp2
    go_ret
    exact ⟨none, 0, rfl, World.ownsRow_nil _ _ _ _, Below.refl _ _⟩
  · clear hr hown hb hn hi0 hz0 hz1 hz2 h1
    go_enter Try.func46, Try.ntmps46
    go_wp2_with ((with_reducible show wpList _ _ _ ({ dst := _, op := .call { callee := .builtin .append, args := #[_, _], argTypes := #[32, 32] }, type := _, pos := _, after := _, guard := _ } :: _) _ _); refine wpList_append_g Try.underlying32 HI.out.1 HI.out.2.1 HI.out.2.2.1 HI.out.2.2.2.1 rfl (by decide) rfl rfl H.out.2.1 H.out.1 HI.out.2.2.2.2 (by have := H.out.2.2.2; unfold maxLen; omega) (by have := H.out.2.2.2; omega) (by simp) ?_; intro A2 c2 w2 hown2 hg2; have H2 := hide (And.intro hown2 hg2); clear hown2 hg2)
    go_ret
    refine ⟨A2, c2, ?_, ?_, ?_⟩
    · simp
    · have := H2.out.1
      simp only [Nat.zero_add, List.nil_append] at this
      exact this
    · exact H.out.2.2.1.grown H2.out.2 (by simp) (fun q hq => by simp [Value.ownBlock] at hq; omega)
theorem Try.infoV : (Try.prog.info? 67).map (fun i => (i.zero, i.size, i.bytes)) = some (some (.agg #[.int .i64 0, .string ⟨#[]⟩, .slice none 0 0, .slice none 0 0, .int .i64 0]), 5, 80) := by kernel_rfl
set_option maxHeartbeats 800000 in
theorem cloneV_any {w : World} {B n : Nat} {A : Option Addr} {l : List Value} (c : Nat) (hr : Rd w B 5 A n l) (hB : B ≤ w.heap.size) (hn : n ≤ 1000) (h1 : ∀ u ∈ l, u.oneCell' = true) :
    Calls Try.prog 87 #[.slice A n c] w fun e w' => ∃ A' c', e = .returned (.slice A' n c') ∧ w'.ownsRow w.heap.size 67 5 (.slice A' n c') n l ∧ Below w.heap.size w w' := by
  have hq := fun w n c => Lib.run_eql_slice_nil (P := Try.prog) w 64 67 A n c 0 0 Try.underlying64
  have hown := World.ownsRow_made (e := 67) (size := 5) (base := w.heap.size) w #[] 0 (Nat.le_refl _) (by unfold maxLen; omega) rfl
  have hb : Below w.heap.size w (w.alloc (.cells #[] 67)) := (Below.refl _ _).alloc (Nat.le_refl _) _
  obtain ⟨i0, hi0, hz0, hz1, hz2⟩ := info_parts Try.infoV
  have HI := hide (And.intro hi0 (And.intro hz0 (And.intro hz1 (And.intro hz2 h1))))
  have H := hide (And.intro (hr.alloc hB (.cells #[] 67)) (And.intro hown (And.intro hb hn)))
  rcases A with _ | ad
  · have hl : l = [] := Rd.none_len hr
    subst hl
    have hn0 : n = 0 := by have := hr.len; simp at this; omega
    subst hn0
    clear hr hown hb hn hi0 hz0 hz1 hz2 h1
    go_enter Try.func87, Try.ntmps87
    go_wp2
    go_ret
    exact ⟨none, 0, rfl, World.ownsRow_nil _ _ _ _, Below.refl _ _⟩
  · clear hr hown hb hn hi0 hz0 hz1 hz2 h1
    go_enter Try.func87, Try.ntmps87
    go_wp2_with ((with_reducible show wpList _ _ _ ({ dst := _, op := .call { callee := .builtin .append, args := #[_, _], argTypes := #[64, 64] }, type := _, pos := _, after := _, guard := _ } :: _) _ _); refine wpList_append_g Try.underlying64 HI.out.1 HI.out.2.1 HI.out.2.2.1 HI.out.2.2.2.1 rfl (by decide) rfl rfl H.out.2.1 H.out.1 HI.out.2.2.2.2 (by have := H.out.2.2.2; unfold maxLen; omega) (by have := H.out.2.2.2; omega) (by simp) ?_; intro A2 c2 w2 hown2 hg2; have H2 := hide (And.intro hown2 hg2); clear hown2 hg2)
    go_ret
    refine ⟨A2, c2, ?_, ?_, ?_⟩
    · simp
    · have := H2.out.1
      simp only [Nat.zero_add, List.nil_append] at this
      exact this
    · exact H.out.2.2.1.grown H2.out.2 (by simp) (fun q hq => by simp [Value.ownBlock] at hq; omega)
theorem Try.infoA : (Try.prog.info? 116).map (fun i => (i.zero, i.size, i.bytes)) = some (some (.agg #[.string ⟨#[]⟩, .int .i64 0, .string ⟨#[]⟩, .slice none 0 0, .slice none 0 0, .int .i64 0, .int .i64 0]), 7, 104) := by kernel_rfl
set_option maxHeartbeats 800000 in
theorem cloneA_any {w : World} {B n : Nat} {A : Option Addr} {l : List Value} (c : Nat) (hr : Rd w B 7 A n l) (hB : B ≤ w.heap.size) (hn : n ≤ 1000) (h1 : ∀ u ∈ l, u.oneCell' = true) :
    Calls Try.prog 88 #[.slice A n c] w fun e w' => ∃ A' c', e = .returned (.slice A' n c') ∧ w'.ownsRow w.heap.size 116 7 (.slice A' n c') n l ∧ Below w.heap.size w w' := by
  have hq := fun w n c => Lib.run_eql_slice_nil (P := Try.prog) w 65 116 A n c 0 0 Try.underlying65
  have hown := World.ownsRow_made (e := 116) (size := 7) (base := w.heap.size) w #[] 0 (Nat.le_refl _) (by unfold maxLen; omega) rfl
  have hb : Below w.heap.size w (w.alloc (.cells #[] 116)) := (Below.refl _ _).alloc (Nat.le_refl _) _
  obtain ⟨i0, hi0, hz0, hz1, hz2⟩ := info_parts Try.infoA
  have HI := hide (And.intro hi0 (And.intro hz0 (And.intro hz1 (And.intro hz2 h1))))
  have H := hide (And.intro (hr.alloc hB (.cells #[] 116)) (And.intro hown (And.intro hb hn)))
  rcases A with _ | ad
  · have hl : l = [] := Rd.none_len hr
    subst hl
    have hn0 : n = 0 := by have := hr.len; simp at this; omega
    subst hn0
    clear hr hown hb hn hi0 hz0 hz1 hz2 h1
    go_enter Try.func88, Try.ntmps88
    go_wp2
    go_ret
    exact ⟨none, 0, rfl, World.ownsRow_nil _ _ _ _, Below.refl _ _⟩
  · clear hr hown hb hn hi0 hz0 hz1 hz2 h1
    go_enter Try.func88, Try.ntmps88
    go_wp2_with ((with_reducible show wpList _ _ _ ({ dst := _, op := .call { callee := .builtin .append, args := #[_, _], argTypes := #[65, 65] }, type := _, pos := _, after := _, guard := _ } :: _) _ _); refine wpList_append_g Try.underlying65 HI.out.1 HI.out.2.1 HI.out.2.2.1 HI.out.2.2.2.1 rfl (by decide) rfl rfl H.out.2.1 H.out.1 HI.out.2.2.2.2 (by have := H.out.2.2.2; unfold maxLen; omega) (by have := H.out.2.2.2; omega) (by simp) ?_; intro A2 c2 w2 hown2 hg2; have H2 := hide (And.intro hown2 hg2); clear hown2 hg2)
    go_ret
    refine ⟨A2, c2, ?_, ?_, ?_⟩
    · simp
    · have := H2.out.1
      simp only [Nat.zero_add, List.nil_append] at this
      exact this
    · exact H.out.2.2.1.grown H2.out.2 (by simp) (fun q hq => by simp [Value.ownBlock] at hq; omega)
end Go.Proofs.Ytlpmnnkijdbopaa
