/-
  The walks of slices.Clone at the element types of this seat (printed by genclone.py).
-/
import Derived.Test.YtlpmnnkijdbopaaDoorArms
import Derived.Lib.SliceRun
namespace Go.Proofs.YtlpmnnkijdbopaaDoor
open Go.RowKit
set_option maxHeartbeats 800000 in
theorem cloneS_any {w : World} {B n : Nat} {A : Option Addr} {l : List Value} (c : Nat) (hr : Rd w B 1 A n l) (hB : B ≤ w.heap.size) (hn : n ≤ 1000) (h1 : ∀ u ∈ l, u.oneCell' = true) :
    Calls Tryd.prog 36 #[.slice A n c] w fun e w' => ∃ A' c', e = .returned (.slice A' n c') ∧ w'.ownsRow w.heap.size 9 1 (.slice A' n c') n l ∧ Below w.heap.size w w' := by
  have hq := fun w n c => Lib.run_eql_slice_nil (P := Tryd.prog) w 32 9 A n c 0 0 Tryd.underlying32
  have hown := World.ownsRow_made (e := 9) (size := 1) (base := w.heap.size) w #[] 0 (Nat.le_refl _) (by unfold maxLen; omega) rfl
  have hb : Below w.heap.size w (w.alloc (.cells #[] 9)) := (Below.refl _ _).alloc (Nat.le_refl _) _
  obtain ⟨i0, hi0, hz0, hz1, hz2⟩ := info_parts Tryd.infoS
  have HI := hide (And.intro hi0 (And.intro hz0 (And.intro hz1 (And.intro hz2 h1))))
  have H := hide (And.intro (hr.alloc hB (.cells #[] 9)) (And.intro hown (And.intro hb hn)))
  rcases A with _ | ad
  · have hl : l = [] := Rd.none_len hr
    subst hl
    have hn0 : n = 0 := by have := hr.len; simp at this; omega
    subst hn0
    clear hr hown hb hn hi0 hz0 hz1 hz2 h1
    go_enter Tryd.func36, Tryd.ntmps36
    go_wp2
    go_ret
    exact ⟨none, 0, rfl, World.ownsRow_nil _ _ _ _, Below.refl _ _⟩
  · clear hr hown hb hn hi0 hz0 hz1 hz2 h1
    go_enter Tryd.func36, Tryd.ntmps36
    go_wp2_with ((with_reducible show wpList _ _ _ ({ dst := _, op := .call { callee := .builtin .append, args := #[_, _], argTypes := #[32, 32] }, type := _, pos := _, after := _, guard := _ } :: _) _ _); refine wpList_append_g Tryd.underlying32 HI.out.1 HI.out.2.1 HI.out.2.2.1 HI.out.2.2.2.1 rfl (by decide) rfl rfl H.out.2.1 H.out.1 HI.out.2.2.2.2 (by have := H.out.2.2.2; unfold maxLen; omega) (by have := H.out.2.2.2; omega) (by simp) ?_; intro A2 c2 w2 hown2 hg2; have H2 := hide (And.intro hown2 hg2); clear hown2 hg2)
    go_ret
    refine ⟨A2, c2, ?_, ?_, ?_⟩
    · simp
    · have := H2.out.1
      simp only [Nat.zero_add, List.nil_append] at this
      exact this
    · exact H.out.2.2.1.grown H2.out.2 (by simp) (fun q hq => by simp [Value.ownBlock] at hq; omega)
theorem Tryd.infoI : (Tryd.prog.info? 67).map (fun i => (i.zero, i.size, i.bytes)) = some (some (.agg #[.string ⟨#[]⟩, .string ⟨#[]⟩, .bool false, .int .i64 0, .string ⟨#[]⟩, .slice none 0 0, .slice none 0 0, .int .i64 0, .int .i64 0]), 9, 128) := by kernel_rfl
set_option maxHeartbeats 800000 in
theorem cloneI_any {w : World} {B n : Nat} {A : Option Addr} {l : List Value} (c : Nat) (hr : Rd w B 9 A n l) (hB : B ≤ w.heap.size) (hn : n ≤ 1000) (h1 : ∀ u ∈ l, u.oneCell' = true) :
    Calls Tryd.prog 40 #[.slice A n c] w fun e w' => ∃ A' c', e = .returned (.slice A' n c') ∧ w'.ownsRow w.heap.size 67 9 (.slice A' n c') n l ∧ Below w.heap.size w w' := by
  have hq := fun w n c => Lib.run_eql_slice_nil (P := Tryd.prog) w 28 67 A n c 0 0 Tryd.underlying28
  have hown := World.ownsRow_made (e := 67) (size := 9) (base := w.heap.size) w #[] 0 (Nat.le_refl _) (by unfold maxLen; omega) rfl
  have hb : Below w.heap.size w (w.alloc (.cells #[] 67)) := (Below.refl _ _).alloc (Nat.le_refl _) _
  obtain ⟨i0, hi0, hz0, hz1, hz2⟩ := info_parts Tryd.infoI
  have HI := hide (And.intro hi0 (And.intro hz0 (And.intro hz1 (And.intro hz2 h1))))
  have H := hide (And.intro (hr.alloc hB (.cells #[] 67)) (And.intro hown (And.intro hb hn)))
  rcases A with _ | ad
  · have hl : l = [] := Rd.none_len hr
    subst hl
    have hn0 : n = 0 := by have := hr.len; simp at this; omega
    subst hn0
    clear hr hown hb hn hi0 hz0 hz1 hz2 h1
    go_enter Tryd.func40, Tryd.ntmps40
    go_wp2
    go_ret
    exact ⟨none, 0, rfl, World.ownsRow_nil _ _ _ _, Below.refl _ _⟩
  · clear hr hown hb hn hi0 hz0 hz1 hz2 h1
    go_enter Tryd.func40, Tryd.ntmps40
    go_wp2_with ((with_reducible show wpList _ _ _ ({ dst := _, op := .call { callee := .builtin .append, args := #[_, _], argTypes := #[28, 28] }, type := _, pos := _, after := _, guard := _ } :: _) _ _); refine wpList_append_g Tryd.underlying28 HI.out.1 HI.out.2.1 HI.out.2.2.1 HI.out.2.2.2.1 rfl (by decide) rfl rfl H.out.2.1 H.out.1 HI.out.2.2.2.2 (by have := H.out.2.2.2; unfold maxLen; omega) (by have := H.out.2.2.2; omega) (by simp) ?_; intro A2 c2 w2 hown2 hg2; have H2 := hide (And.intro hown2 hg2); clear hown2 hg2)
    go_ret
    refine ⟨A2, c2, ?_, ?_, ?_⟩
    · simp
    · have := H2.out.1
      simp only [Nat.zero_add, List.nil_append] at this
      exact this
    · exact H.out.2.2.1.grown H2.out.2 (by simp) (fun q hq => by simp [Value.ownBlock] at hq; omega)
theorem Tryd.infoF : (Tryd.prog.info? 30).map (fun i => (i.zero, i.size, i.bytes)) = some (some (.agg #[.string ⟨#[]⟩, .slice none 0 0, .string ⟨#[]⟩, .int .i64 0]), 4, 64) := by kernel_rfl
set_option maxHeartbeats 800000 in
theorem cloneF_any {w : World} {B n : Nat} {A : Option Addr} {l : List Value} (c : Nat) (hr : Rd w B 4 A n l) (hB : B ≤ w.heap.size) (hn : n ≤ 1000) (h1 : ∀ u ∈ l, u.oneCell' = true) :
    Calls Tryd.prog 37 #[.slice A n c] w fun e w' => ∃ A' c', e = .returned (.slice A' n c') ∧ w'.ownsRow w.heap.size 30 4 (.slice A' n c') n l ∧ Below w.heap.size w w' := by
  have hq := fun w n c => Lib.run_eql_slice_nil (P := Tryd.prog) w 31 30 A n c 0 0 Tryd.underlying31
  have hown := World.ownsRow_made (e := 30) (size := 4) (base := w.heap.size) w #[] 0 (Nat.le_refl _) (by unfold maxLen; omega) rfl
  have hb : Below w.heap.size w (w.alloc (.cells #[] 30)) := (Below.refl _ _).alloc (Nat.le_refl _) _
  obtain ⟨i0, hi0, hz0, hz1, hz2⟩ := info_parts Tryd.infoF
  have HI := hide (And.intro hi0 (And.intro hz0 (And.intro hz1 (And.intro hz2 h1))))
  have H := hide (And.intro (hr.alloc hB (.cells #[] 30)) (And.intro hown (And.intro hb hn)))
  rcases A with _ | ad
  · have hl : l = [] := Rd.none_len hr
    subst hl
    have hn0 : n = 0 := by have := hr.len; simp at this; omega
    subst hn0
    clear hr hown hb hn hi0 hz0 hz1 hz2 h1
    go_enter Tryd.func37, Tryd.ntmps37
    go_wp2
    go_ret
    exact ⟨none, 0, rfl, World.ownsRow_nil _ _ _ _, Below.refl _ _⟩
  · clear hr hown hb hn hi0 hz0 hz1 hz2 h1
    go_enter Tryd.func37, Tryd.ntmps37
    go_wp2_with ((with_reducible show wpList _ _ _ ({ dst := _, op := .call { callee := .builtin .append, args := #[_, _], argTypes := #[31, 31] }, type := _, pos := _, after := _, guard := _ } :: _) _ _); refine wpList_append_g Tryd.underlying31 HI.out.1 HI.out.2.1 HI.out.2.2.1 HI.out.2.2.2.1 rfl (by decide) rfl rfl H.out.2.1 H.out.1 HI.out.2.2.2.2 (by have := H.out.2.2.2; unfold maxLen; omega) (by have := H.out.2.2.2; omega) (by simp) ?_; intro A2 c2 w2 hown2 hg2; have H2 := hide (And.intro hown2 hg2); clear hown2 hg2)
    go_ret
    refine ⟨A2, c2, ?_, ?_, ?_⟩
    · simp
    · have := H2.out.1
      simp only [Nat.zero_add, List.nil_append] at this
      exact this
    · exact H.out.2.2.1.grown H2.out.2 (by simp) (fun q hq => by simp [Value.ownBlock] at hq; omega)
theorem Tryd.infoV : (Tryd.prog.info? 65).map (fun i => (i.zero, i.size, i.bytes)) = some (some (.agg #[.int .i64 0, .string ⟨#[]⟩, .slice none 0 0, .slice none 0 0, .int .i64 0]), 5, 80) := by kernel_rfl
set_option maxHeartbeats 800000 in
theorem cloneV_any {w : World} {B n : Nat} {A : Option Addr} {l : List Value} (c : Nat) (hr : Rd w B 5 A n l) (hB : B ≤ w.heap.size) (hn : n ≤ 1000) (h1 : ∀ u ∈ l, u.oneCell' = true) :
    Calls Tryd.prog 51 #[.slice A n c] w fun e w' => ∃ A' c', e = .returned (.slice A' n c') ∧ w'.ownsRow w.heap.size 65 5 (.slice A' n c') n l ∧ Below w.heap.size w w' := by
  have hq := fun w n c => Lib.run_eql_slice_nil (P := Tryd.prog) w 62 65 A n c 0 0 Tryd.underlying62
  have hown := World.ownsRow_made (e := 65) (size := 5) (base := w.heap.size) w #[] 0 (Nat.le_refl _) (by unfold maxLen; omega) rfl
  have hb : Below w.heap.size w (w.alloc (.cells #[] 65)) := (Below.refl _ _).alloc (Nat.le_refl _) _
  obtain ⟨i0, hi0, hz0, hz1, hz2⟩ := info_parts Tryd.infoV
  have HI := hide (And.intro hi0 (And.intro hz0 (And.intro hz1 (And.intro hz2 h1))))
  have H := hide (And.intro (hr.alloc hB (.cells #[] 65)) (And.intro hown (And.intro hb hn)))
  rcases A with _ | ad
  · have hl : l = [] := Rd.none_len hr
    subst hl
    have hn0 : n = 0 := by have := hr.len; simp at this; omega
    subst hn0
    clear hr hown hb hn hi0 hz0 hz1 hz2 h1
    go_enter Tryd.func51, Tryd.ntmps51
    go_wp2
    go_ret
    exact ⟨none, 0, rfl, World.ownsRow_nil _ _ _ _, Below.refl _ _⟩
  · clear hr hown hb hn hi0 hz0 hz1 hz2 h1
    go_enter Tryd.func51, Tryd.ntmps51
    go_wp2_with ((with_reducible show wpList _ _ _ ({ dst := _, op := .call { callee := .builtin .append, args := #[_, _], argTypes := #[62, 62] }, type := _, pos := _, after := _, guard := _ } :: _) _ _); refine wpList_append_g Tryd.underlying62 HI.out.1 HI.out.2.1 HI.out.2.2.1 HI.out.2.2.2.1 rfl (by decide) rfl rfl H.out.2.1 H.out.1 HI.out.2.2.2.2 (by have := H.out.2.2.2; unfold maxLen; omega) (by have := H.out.2.2.2; omega) (by simp) ?_; intro A2 c2 w2 hown2 hg2; have H2 := hide (And.intro hown2 hg2); clear hown2 hg2)
    go_ret
    refine ⟨A2, c2, ?_, ?_, ?_⟩
    · simp
    · have := H2.out.1
      simp only [Nat.zero_add, List.nil_append] at this
      exact this
    · exact H.out.2.2.1.grown H2.out.2 (by simp) (fun q hq => by simp [Value.ownBlock] at hq; omega)
theorem Tryd.infoA : (Tryd.prog.info? 86).map (fun i => (i.zero, i.size, i.bytes)) = some (some (.agg #[.string ⟨#[]⟩, .int .i64 0, .string ⟨#[]⟩, .slice none 0 0, .slice none 0 0, .int .i64 0, .int .i64 0]), 7, 104) := by kernel_rfl
set_option maxHeartbeats 800000 in
theorem cloneA_any {w : World} {B n : Nat} {A : Option Addr} {l : List Value} (c : Nat) (hr : Rd w B 7 A n l) (hB : B ≤ w.heap.size) (hn : n ≤ 1000) (h1 : ∀ u ∈ l, u.oneCell' = true) :
    Calls Tryd.prog 52 #[.slice A n c] w fun e w' => ∃ A' c', e = .returned (.slice A' n c') ∧ w'.ownsRow w.heap.size 86 7 (.slice A' n c') n l ∧ Below w.heap.size w w' := by
  have hq := fun w n c => Lib.run_eql_slice_nil (P := Tryd.prog) w 63 86 A n c 0 0 Tryd.underlying63
  have hown := World.ownsRow_made (e := 86) (size := 7) (base := w.heap.size) w #[] 0 (Nat.le_refl _) (by unfold maxLen; omega) rfl
  have hb : Below w.heap.size w (w.alloc (.cells #[] 86)) := (Below.refl _ _).alloc (Nat.le_refl _) _
  obtain ⟨i0, hi0, hz0, hz1, hz2⟩ := info_parts Tryd.infoA
  have HI := hide (And.intro hi0 (And.intro hz0 (And.intro hz1 (And.intro hz2 h1))))
  have H := hide (And.intro (hr.alloc hB (.cells #[] 86)) (And.intro hown (And.intro hb hn)))
  rcases A with _ | ad
  · have hl : l = [] := Rd.none_len hr
    subst hl
    have hn0 : n = 0 := by have := hr.len; simp at this; omega
    subst hn0
    clear hr hown hb hn hi0 hz0 hz1 hz2 h1
    go_enter Tryd.func52, Tryd.ntmps52
    go_wp2
    go_ret
    exact ⟨none, 0, rfl, World.ownsRow_nil _ _ _ _, Below.refl _ _⟩
  · clear hr hown hb hn hi0 hz0 hz1 hz2 h1
    go_enter Tryd.func52, Tryd.ntmps52
    go_wp2_with ((with_reducible show wpList _ _ _ ({ dst := _, op := .call { callee := .builtin .append, args := #[_, _], argTypes := #[63, 63] }, type := _, pos := _, after := _, guard := _ } :: _) _ _); refine wpList_append_g Tryd.underlying63 HI.out.1 HI.out.2.1 HI.out.2.2.1 HI.out.2.2.2.1 rfl (by decide) rfl rfl H.out.2.1 H.out.1 HI.out.2.2.2.2 (by have := H.out.2.2.2; unfold maxLen; omega) (by have := H.out.2.2.2; omega) (by simp) ?_; intro A2 c2 w2 hown2 hg2; have H2 := hide (And.intro hown2 hg2); clear hown2 hg2)
    go_ret
    refine ⟨A2, c2, ?_, ?_, ?_⟩
    · simp
    · have := H2.out.1
      simp only [Nat.zero_add, List.nil_append] at this
      exact this
    · exact H.out.2.2.1.grown H2.out.2 (by simp) (fun q hq => by simp [Value.ownBlock] at hq; omega)
end Go.Proofs.YtlpmnnkijdbopaaDoor
