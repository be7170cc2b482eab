/-
  The walks of slices.Clone at the element types of this seat (printed by genclone.py).
-/
import Derived.Test.YtlpmnnkijdbopaaGreatDoorArms
import Derived.Lib.SliceRun
namespace Go.Proofs.YtlpmnnkijdbopaaGreatDoor
open Go.RowKit
set_option maxHeartbeats 800000 in
theorem cloneS_any {w : World} {B n : Nat} {A : Option Addr} {l : List Value} (c : Nat) (hr : Rd w B 1 A n l) (hB : B ≤ w.heap.size) (hn : n ≤ 1000) (h1 : ∀ u ∈ l, u.oneCell' = true) :
    Calls Tryz.prog 46 #[.slice A n c] w fun e w' => ∃ A' c', e = .returned (.slice A' n c') ∧ w'.ownsRow w.heap.size 9 1 (.slice A' n c') n l ∧ Below w.heap.size w w' := by
  have hq := fun w n c => Lib.run_eql_slice_nil (P := Tryz.prog) w 31 9 A n c 0 0 Tryz.underlying31
  have hown := World.ownsRow_made (e := 9) (size := 1) (base := w.heap.size) w #[] 0 (Nat.le_refl _) (by unfold maxLen; omega) rfl
  have hb : Below w.heap.size w (w.alloc (.cells #[] 9)) := (Below.refl _ _).alloc (Nat.le_refl _) _
  obtain ⟨i0, hi0, hz0, hz1, hz2⟩ := info_parts Tryz.infoS
  have HI := hide (And.intro hi0 (And.intro hz0 (And.intro hz1 (And.intro hz2 h1))))
  have H := hide (And.intro (hr.alloc hB (.cells #[] 9)) (And.intro hown (And.intro hb hn)))
  rcases A with _ | ad
  · have hl : l = [] := Rd.none_len hr
    subst hl
    have hn0 : n = 0 := by have := hr.len; simp at this; omega
    subst hn0
    clear hr hown hb hn hi0 hz0 hz1 hz2 h1
    go_enter Tryz.func46, Tryz.ntmps46
    go_wp2
    go_ret
    exact ⟨none, 0, rfl, World.ownsRow_nil _ _ _ _, Below.refl _ _⟩
  · clear hr hown hb hn hi0 hz0 hz1 hz2 h1
    go_enter Tryz.func46, Tryz.ntmps46
    go_wp2_with ((with_reducible show wpList _ _ _ ({ dst := _, op := .call { callee := .builtin .append, args := #[_, _], argTypes := #[31, 31] }, type := _, pos := _, after := _, guard := _ } :: _) _ _); refine wpList_append_g Tryz.underlying31 HI.out.1 HI.out.2.1 HI.out.2.2.1 HI.out.2.2.2.1 rfl (by decide) rfl rfl H.out.2.1 H.out.1 HI.out.2.2.2.2 (by have := H.out.2.2.2; unfold maxLen; omega) (by have := H.out.2.2.2; omega) (by simp) ?_; intro A2 c2 w2 hown2 hg2; have H2 := hide (And.intro hown2 hg2); clear hown2 hg2)
    go_ret
    refine ⟨A2, c2, ?_, ?_, ?_⟩
    · simp
    · have := H2.out.1
      simp only [Nat.zero_add, List.nil_append] at this
      exact this
    · exact H.out.2.2.1.grown H2.out.2 (by simp) (fun q hq => by simp [Value.ownBlock] at hq; omega)
theorem Tryz.infoI : (Tryz.prog.info? 65).map (fun i => (i.zero, i.size, i.bytes)) = some (some (.agg #[.string ⟨#[]⟩, .string ⟨#[]⟩, .bool false, .int .i64 0, .string ⟨#[]⟩, .slice none 0 0, .slice none 0 0, .int .i64 0, .int .i64 0]), 9, 128) := by kernel_rfl
set_option maxHeartbeats 800000 in
theorem cloneI_any {w : World} {B n : Nat} {A : Option Addr} {l : List Value} (c : Nat) (hr : Rd w B 9 A n l) (hB : B ≤ w.heap.size) (hn : n ≤ 1000) (h1 : ∀ u ∈ l, u.oneCell' = true) :
    Calls Tryz.prog 67 #[.slice A n c] w fun e w' => ∃ A' c', e = .returned (.slice A' n c') ∧ w'.ownsRow w.heap.size 65 9 (.slice A' n c') n l ∧ Below w.heap.size w w' := by
  have hq := fun w n c => Lib.run_eql_slice_nil (P := Tryz.prog) w 33 65 A n c 0 0 Tryz.underlying33
  have hown := World.ownsRow_made (e := 65) (size := 9) (base := w.heap.size) w #[] 0 (Nat.le_refl _) (by unfold maxLen; omega) rfl
  have hb : Below w.heap.size w (w.alloc (.cells #[] 65)) := (Below.refl _ _).alloc (Nat.le_refl _) _
  obtain ⟨i0, hi0, hz0, hz1, hz2⟩ := info_parts Tryz.infoI
  have HI := hide (And.intro hi0 (And.intro hz0 (And.intro hz1 (And.intro hz2 h1))))
  have H := hide (And.intro (hr.alloc hB (.cells #[] 65)) (And.intro hown (And.intro hb hn)))
  rcases A with _ | ad
  · have hl : l = [] := Rd.none_len hr
    subst hl
    have hn0 : n = 0 := by have := hr.len; simp at this; omega
    subst hn0
    clear hr hown hb hn hi0 hz0 hz1 hz2 h1
    go_enter Tryz.func67, Tryz.ntmps67
    go_wp2
    go_ret
    exact ⟨none, 0, rfl, World.ownsRow_nil _ _ _ _, Below.refl _ _⟩
  · clear hr hown hb hn hi0 hz0 hz1 hz2 h1
    go_enter Tryz.func67, Tryz.ntmps67
    go_wp2_with ((with_reducible show wpList _ _ _ ({ dst := _, op := .call { callee := .builtin .append, args := #[_, _], argTypes := #[33, 33] }, type := _, pos := _, after := _, guard := _ } :: _) _ _); refine wpList_append_g Tryz.underlying33 HI.out.1 HI.out.2.1 HI.out.2.2.1 HI.out.2.2.2.1 rfl (by decide) rfl rfl H.out.2.1 H.out.1 HI.out.2.2.2.2 (by have := H.out.2.2.2; unfold maxLen; omega) (by have := H.out.2.2.2; omega) (by simp) ?_; intro A2 c2 w2 hown2 hg2; have H2 := hide (And.intro hown2 hg2); clear hown2 hg2)
    go_ret
    refine ⟨A2, c2, ?_, ?_, ?_⟩
    · simp
    · have := H2.out.1
      simp only [Nat.zero_add, List.nil_append] at this
      exact this
    · exact H.out.2.2.1.grown H2.out.2 (by simp) (fun q hq => by simp [Value.ownBlock] at hq; omega)
theorem Tryz.infoF : (Tryz.prog.info? 40).map (fun i => (i.zero, i.size, i.bytes)) = some (some (.agg #[.string ⟨#[]⟩, .slice none 0 0, .string ⟨#[]⟩, .int .i64 0]), 4, 64) := by kernel_rfl
set_option maxHeartbeats 800000 in
theorem cloneF_any {w : World} {B n : Nat} {A : Option Addr} {l : List Value} (c : Nat) (hr : Rd w B 4 A n l) (hB : B ≤ w.heap.size) (hn : n ≤ 1000) (h1 : ∀ u ∈ l, u.oneCell' = true) :
    Calls Tryz.prog 48 #[.slice A n c] w fun e w' => ∃ A' c', e = .returned (.slice A' n c') ∧ w'.ownsRow w.heap.size 40 4 (.slice A' n c') n l ∧ Below w.heap.size w w' := by
  have hq := fun w n c => Lib.run_eql_slice_nil (P := Tryz.prog) w 32 40 A n c 0 0 Tryz.underlying32
  have hown := World.ownsRow_made (e := 40) (size := 4) (base := w.heap.size) w #[] 0 (Nat.le_refl _) (by unfold maxLen; omega) rfl
  have hb : Below w.heap.size w (w.alloc (.cells #[] 40)) := (Below.refl _ _).alloc (Nat.le_refl _) _
  obtain ⟨i0, hi0, hz0, hz1, hz2⟩ := info_parts Tryz.infoF
  have HI := hide (And.intro hi0 (And.intro hz0 (And.intro hz1 (And.intro hz2 h1))))
  have H := hide (And.intro (hr.alloc hB (.cells #[] 40)) (And.intro hown (And.intro hb hn)))
  rcases A with _ | ad
  · have hl : l = [] := Rd.none_len hr
    subst hl
    have hn0 : n = 0 := by have := hr.len; simp at this; omega
    subst hn0
    clear hr hown hb hn hi0 hz0 hz1 hz2 h1
    go_enter Tryz.func48, Tryz.ntmps48
    go_wp2
    go_ret
    exact ⟨none, 0, rfl, World.ownsRow_nil _ _ _ _, Below.refl _ _⟩
  · clear hr hown hb hn hi0 hz0 hz1 hz2 h1
    go_enter Tryz.func48, Tryz.ntmps48
    go_wp2_with ((with_reducible show wpList _ _ _ ({ dst := _, op := .call { callee := .builtin .append, args := #[_, _], argTypes := #[32, 32] }, type := _, pos := _, after := _, guard := _ } :: _) _ _); refine wpList_append_g Tryz.underlying32 HI.out.1 HI.out.2.1 HI.out.2.2.1 HI.out.2.2.2.1 rfl (by decide) rfl rfl H.out.2.1 H.out.1 HI.out.2.2.2.2 (by have := H.out.2.2.2; unfold maxLen; omega) (by have := H.out.2.2.2; omega) (by simp) ?_; intro A2 c2 w2 hown2 hg2; have H2 := hide (And.intro hown2 hg2); clear hown2 hg2)
    go_ret
    refine ⟨A2, c2, ?_, ?_, ?_⟩
    · simp
    · have := H2.out.1
      simp only [Nat.zero_add, List.nil_append] at this
      exact this
    · exact H.out.2.2.1.grown H2.out.2 (by simp) (fun q hq => by simp [Value.ownBlock] at hq; omega)
theorem Tryz.infoV : (Tryz.prog.info? 63).map (fun i => (i.zero, i.size, i.bytes)) = some (some (.agg #[.int .i64 0, .string ⟨#[]⟩, .slice none 0 0, .slice none 0 0, .int .i64 0]), 5, 80) := by kernel_rfl
set_option maxHeartbeats 800000 in
theorem cloneV_any {w : World} {B n : Nat} {A : Option Addr} {l : List Value} (c : Nat) (hr : Rd w B 5 A n l) (hB : B ≤ w.heap.size) (hn : n ≤ 1000) (h1 : ∀ u ∈ l, u.oneCell' = true) :
    Calls Tryz.prog 95 #[.slice A n c] w fun e w' => ∃ A' c', e = .returned (.slice A' n c') ∧ w'.ownsRow w.heap.size 63 5 (.slice A' n c') n l ∧ Below w.heap.size w w' := by
  have hq := fun w n c => Lib.run_eql_slice_nil (P := Tryz.prog) w 60 63 A n c 0 0 Tryz.underlying60
  have hown := World.ownsRow_made (e := 63) (size := 5) (base := w.heap.size) w #[] 0 (Nat.le_refl _) (by unfold maxLen; omega) rfl
  have hb : Below w.heap.size w (w.alloc (.cells #[] 63)) := (Below.refl _ _).alloc (Nat.le_refl _) _
  obtain ⟨i0, hi0, hz0, hz1, hz2⟩ := info_parts Tryz.infoV
  have HI := hide (And.intro hi0 (And.intro hz0 (And.intro hz1 (And.intro hz2 h1))))
  have H := hide (And.intro (hr.alloc hB (.cells #[] 63)) (And.intro hown (And.intro hb hn)))
  rcases A with _ | ad
  · have hl : l = [] := Rd.none_len hr
    subst hl
    have hn0 : n = 0 := by have := hr.len; simp at this; omega
    subst hn0
    clear hr hown hb hn hi0 hz0 hz1 hz2 h1
    go_enter Tryz.func95, Tryz.ntmps95
    go_wp2
    go_ret
    exact ⟨none, 0, rfl, World.ownsRow_nil _ _ _ _, Below.refl _ _⟩
  · clear hr hown hb hn hi0 hz0 hz1 hz2 h1
    go_enter Tryz.func95, Tryz.ntmps95
    go_wp2_with ((with_reducible show wpList _ _ _ ({ dst := _, op := .call { callee := .builtin .append, args := #[_, _], argTypes := #[60, 60] }, type := _, pos := _, after := _, guard := _ } :: _) _ _); refine wpList_append_g Tryz.underlying60 HI.out.1 HI.out.2.1 HI.out.2.2.1 HI.out.2.2.2.1 rfl (by decide) rfl rfl H.out.2.1 H.out.1 HI.out.2.2.2.2 (by have := H.out.2.2.2; unfold maxLen; omega) (by have := H.out.2.2.2; omega) (by simp) ?_; intro A2 c2 w2 hown2 hg2; have H2 := hide (And.intro hown2 hg2); clear hown2 hg2)
    go_ret
    refine ⟨A2, c2, ?_, ?_, ?_⟩
    · simp
    · have := H2.out.1
      simp only [Nat.zero_add, List.nil_append] at this
      exact this
    · exact H.out.2.2.1.grown H2.out.2 (by simp) (fun q hq => by simp [Value.ownBlock] at hq; omega)
theorem Tryz.infoA : (Tryz.prog.info? 118).map (fun i => (i.zero, i.size, i.bytes)) = some (some (.agg #[.string ⟨#[]⟩, .int .i64 0, .string ⟨#[]⟩, .slice none 0 0, .slice none 0 0, .int .i64 0, .int .i64 0]), 7, 104) := by kernel_rfl
set_option maxHeartbeats 800000 in
theorem cloneA_any {w : World} {B n : Nat} {A : Option Addr} {l : List Value} (c : Nat) (hr : Rd w B 7 A n l) (hB : B ≤ w.heap.size) (hn : n ≤ 1000) (h1 : ∀ u ∈ l, u.oneCell' = true) :
    Calls Tryz.prog 96 #[.slice A n c] w fun e w' => ∃ A' c', e = .returned (.slice A' n c') ∧ w'.ownsRow w.heap.size 118 7 (.slice A' n c') n l ∧ Below w.heap.size w w' := by
  have hq := fun w n c => Lib.run_eql_slice_nil (P := Tryz.prog) w 61 118 A n c 0 0 Tryz.underlying61
  have hown := World.ownsRow_made (e := 118) (size := 7) (base := w.heap.size) w #[] 0 (Nat.le_refl _) (by unfold maxLen; omega) rfl
  have hb : Below w.heap.size w (w.alloc (.cells #[] 118)) := (Below.refl _ _).alloc (Nat.le_refl _) _
  obtain ⟨i0, hi0, hz0, hz1, hz2⟩ := info_parts Tryz.infoA
  have HI := hide (And.intro hi0 (And.intro hz0 (And.intro hz1 (And.intro hz2 h1))))
  have H := hide (And.intro (hr.alloc hB (.cells #[] 118)) (And.intro hown (And.intro hb hn)))
  rcases A with _ | ad
  · have hl : l = [] := Rd.none_len hr
    subst hl
    have hn0 : n = 0 := by have := hr.len; simp at this; omega
    subst hn0
    clear hr hown hb hn hi0 hz0 hz1 hz2 h1
    go_enter Tryz.func96, Tryz.ntmps96
    go_wp2
    go_ret
    exact ⟨none, 0, rfl, World.ownsRow_nil _ _ _ _, Below.refl _ _⟩
  · clear hr hown hb hn hi0 hz0 hz1 hz2 h1
    go_enter Tryz.func96, Tryz.ntmps96
    go_wp2_with ((with_reducible show wpList _ _ _ ({ dst := _, op := .call { callee := .builtin .append, args := #[_, _], argTypes := #[61, 61] }, type := _, pos := _, after := _, guard := _ } :: _) _ _); refine wpList_append_g Tryz.underlying61 HI.out.1 HI.out.2.1 HI.out.2.2.1 HI.out.2.2.2.1 rfl (by decide) rfl rfl H.out.2.1 H.out.1 HI.out.2.2.2.2 (by have := H.out.2.2.2; unfold maxLen; omega) (by have := H.out.2.2.2; omega) (by simp) ?_; intro A2 c2 w2 hown2 hg2; have H2 := hide (And.intro hown2 hg2); clear hown2 hg2)
    go_ret
    refine ⟨A2, c2, ?_, ?_, ?_⟩
    · simp
    · have := H2.out.1
      simp only [Nat.zero_add, List.nil_append] at this
      exact this
    · exact H.out.2.2.1.grown H2.out.2 (by simp) (fun q hq => by simp [Value.ownBlock] at hq; omega)
end Go.Proofs.YtlpmnnkijdbopaaGreatDoor
