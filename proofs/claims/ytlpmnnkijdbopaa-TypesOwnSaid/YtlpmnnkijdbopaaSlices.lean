/-
  The walks of slices.Index, Contains at texts and ints; of NonNull, Nullable, Item (program and document).
-/
import Derived.Test.YtlpmnnkijdbopaaNew
namespace Go.Proofs.Ytlpmnnkijdbopaa
open Go.RowKit Go.Maps

theorem Try.sizeInt : (Try.prog.info? 3).map (·.size) = some 1 := by kernel_rfl
theorem rs_at {w : World} {S : Nat → Prop} {A : Option Addr} {l : List Bs} (h : Sl w S 1 A RS l) {j : Nat} (hj : j < l.length) : ∃ b o, A = some ⟨b, o, none⟩ ∧ S b ∧ w.cell? ⟨b, o + j, none⟩ = some (tx l[j]) := rs_cell h (List.getElem?_eq_getElem hj)
def IxPost {α : Type} [DecidableEq α] (l : List α) (s : α) (w : World) (e : Ending) (w' : World) : Prop := ∃ i : Int, e = .returned (.int .i64 i) ∧ (0 ≤ i ↔ s ∈ l) ∧ -1 ≤ i ∧ i ≤ 1000000 ∧ w = w'
theorem not_mem_take {α : Type} [DecidableEq α] {l : List α} {s : α} {k : Nat} (h : ∀ x ∈ l.take k, x ≠ s) (hk : k = l.length) : s ∉ l := fun hm => by
  rw [hk, List.take_length] at h
  exact h s hm rfl
theorem ne_take {α : Type} {l : List α} {s : α} {k : Nat} (hlt : k < l.length) (h : ∀ x ∈ l.take k, x ≠ s) (hn : l[k] ≠ s) : ∀ x ∈ l.take (k + 1), x ≠ s := fun x hx => by
  rw [List.take_succ_eq_append_getElem hlt] at hx
  rcases List.mem_append.1 hx with hx | hx
  · exact h x hx
  · rw [List.mem_singleton.1 hx]; exact hn
set_option maxHeartbeats 800000 in
theorem indexS_any {w : World} {S : Nat → Prop} {A : Option Addr} {l : List Bs} {s : Bs} (c : Nat) (h : Sl w S 1 A RS l) (hl : l.length ≤ 1000000) : Calls Try.prog 51 #[.slice A l.length c, tx s] w (IxPost l s w) := by
  have i1 : (l.length : Int) ≤ 1000000 := by omega
  have H := hide h
  clear h hl
  go_enter Try.func51, Try.ntmps51
  go_wp2
  go_loop [8] (fun i => ∃ k : Nat, k ≤ l.length ∧ i = .int .i64 k ∧ Hid (∀ x ∈ l.take k, x ≠ s)) (fun i => l.length - (intOf i).toNat)
  case atStart => exact ⟨0, Nat.zero_le _, rfl, hide (by simp)⟩
  case round =>
    obtain ⟨k, hk, rfl, HR⟩ := hrel
    by_cases hlt : k < l.length
    · obtain ⟨b, o, hA, _, hc⟩ := rs_at H.out hlt
      obtain ⟨x, hx⟩ : ∃ x, x = l[k] := ⟨_, rfl⟩
      rw [← hx] at hc
      have HA := hide (And.intro hA hx)
      clear hA hx
      by_cases hq : s = x
      · subst hq
        go_wp2_with ((with_reducible show wpList _ _ _ ({ dst := _, op := .indexAddr 31 _ _, type := _, pos := _, after := _, guard := _ } :: _) _ _); refine wpList_index Try.underlying31 Try.sizeS rfl rfl HA.out.1 hlt rfl ?_)
        go_ret
        exact ⟨k, rfl, ⟨fun _ => by rw [HA.out.2]; exact List.getElem_mem _, fun _ => by omega⟩, by omega, by omega, rfl⟩
      · have hb : (s == x) = false := by simpa using hq
        clear hq
        go_wp2_with ((with_reducible show wpList _ _ _ ({ dst := _, op := .indexAddr 31 _ _, type := _, pos := _, after := _, guard := _ } :: _) _ _); refine wpList_index Try.underlying31 Try.sizeS rfl rfl HA.out.1 hlt rfl ?_)
        go_round
        case rel => exact ⟨k + 1, by omega, by go_num, hide (ne_take hlt HR.out (by rw [← HA.out.2]; exact fun e => by subst e; simp at hb))⟩
        case measure => simp [intOf]; omega
    · go_wp2
      go_ret
      exact ⟨-1, rfl, ⟨fun h => by omega, fun h => absurd h (not_mem_take HR.out (by omega))⟩, by omega, by omega, rfl⟩
theorem containsS_any {w : World} {S : Nat → Prop} {A : Option Addr} {l : List Bs} {s : Bs} (c : Nat) (h : Sl w S 1 A RS l) (hl : l.length ≤ 1000000) : Calls Try.prog 30 #[.slice A l.length c, tx s] w fun e w' => e = .returned (.bool (decide (s ∈ l))) ∧ w = w' := by
  have H := hide (And.intro h hl)
  clear h hl
  go_enter Try.func30, Try.ntmps30
  go_wp2_with fail
  refine (indexS_any c H.out.1 H.out.2).mono ?_
  rintro e w1 ⟨i, rfl, hi, i1, i2, rfl⟩
  by_cases hm : s ∈ l
  · have h0 := hi.2 hm
    have HM := hide hm
    clear hi hm
    go_wp2
    go_ret
    exact ⟨by simp [HM.out], rfl⟩
  · have h0 : i < 0 := by have : ¬ 0 ≤ i := fun h => hm (hi.1 h); omega
    have HM := hide hm
    clear hi hm
    go_wp2
    go_ret
    exact ⟨by simp [HM.out]; omega, rfl⟩
def RN (s : Int) (cs : List Value) : Prop := cs = [.int .i64 s]
theorem rn_at {w : World} {S : Nat → Prop} {A : Option Addr} {l : List Int} (h : Sl w S 1 A RN l) {j : Nat} (hj : j < l.length) : ∃ b o, A = some ⟨b, o, none⟩ ∧ S b ∧ w.cell? ⟨b, o + j, none⟩ = some (.int .i64 l[j]) := by
  obtain ⟨b, o, cs, e, hb, _, hr, hR⟩ := h j _ (List.getElem?_eq_getElem hj)
  unfold RN at hR
  subst hR
  refine ⟨b, o, e, hb, ?_⟩
  have := hr 0 _ rfl
  simpa using this
set_option maxHeartbeats 800000 in
theorem indexI_any {w : World} {S : Nat → Prop} {A : Option Addr} {l : List Int} {s : Int} (c : Nat) (h : Sl w S 1 A RN l) (hl : l.length ≤ 1000000) : Calls Try.prog 70 #[.slice A l.length c, .int .i64 s] w (IxPost l s w) := by
  have i1 : (l.length : Int) ≤ 1000000 := by omega
  have H := hide h
  clear h hl
  go_enter Try.func70, Try.ntmps70
  go_wp2
  go_loop [8] (fun i => ∃ k : Nat, k ≤ l.length ∧ i = .int .i64 k ∧ Hid (∀ x ∈ l.take k, x ≠ s)) (fun i => l.length - (intOf i).toNat)
  case atStart => exact ⟨0, Nat.zero_le _, rfl, hide (by simp)⟩
  case round =>
    obtain ⟨k, hk, rfl, HR⟩ := hrel
    by_cases hlt : k < l.length
    · obtain ⟨b, o, hA, _, hc⟩ := rn_at H.out hlt
      obtain ⟨x, hx⟩ : ∃ x, x = l[k] := ⟨_, rfl⟩
      rw [← hx] at hc
      have HA := hide (And.intro hA hx)
      clear hA hx
      by_cases hq : s = x
      · subst hq
        go_wp2_with ((with_reducible show wpList _ _ _ ({ dst := _, op := .indexAddr 82 _ _, type := _, pos := _, after := _, guard := _ } :: _) _ _); refine wpList_index Try.underlying82 Try.sizeInt rfl rfl HA.out.1 hlt rfl ?_)
        go_ret
        exact ⟨k, rfl, ⟨fun _ => by rw [HA.out.2]; exact List.getElem_mem _, fun _ => by omega⟩, by omega, by omega, rfl⟩
      · have hb : (s == x) = false := by simpa using hq
        go_wp2_with ((with_reducible show wpList _ _ _ ({ dst := _, op := .indexAddr 82 _ _, type := _, pos := _, after := _, guard := _ } :: _) _ _); refine wpList_index Try.underlying82 Try.sizeInt rfl rfl HA.out.1 hlt rfl ?_)
        go_round
        case rel => exact ⟨k + 1, by omega, by go_num, hide (ne_take hlt HR.out (by rw [← HA.out.2]; exact fun e => by subst e; simp at hb))⟩
        case measure => simp [intOf]; omega
    · go_wp2
      go_ret
      exact ⟨-1, rfl, ⟨fun h => by omega, fun h => absurd h (not_mem_take HR.out (by omega))⟩, by omega, by omega, rfl⟩
theorem containsI_any {w : World} {S : Nat → Prop} {A : Option Addr} {l : List Int} {s : Int} (c : Nat) (h : Sl w S 1 A RN l) (hl : l.length ≤ 1000000) : Calls Try.prog 50 #[.slice A l.length c, .int .i64 s] w fun e w' => e = .returned (.bool (decide (s ∈ l))) ∧ w = w' := by
  have H := hide (And.intro h hl)
  clear h hl
  go_enter Try.func50, Try.ntmps50
  go_wp2_with fail
  refine (indexI_any c H.out.1 H.out.2).mono ?_
  rintro e w1 ⟨i, rfl, hi, i1, i2, rfl⟩
  by_cases hm : s ∈ l
  · have h0 := hi.2 hm
    have HM := hide hm
    clear hi hm
    go_wp2
    go_ret
    exact ⟨by simp [HM.out], rfl⟩
  · have h0 : i < 0 := by have : ¬ 0 ≤ i := fun h => hm (hi.1 h); omega
    have HM := hide hm
    clear hi hm
    go_wp2
    go_ret
    exact ⟨by simp [HM.out]; omega, rfl⟩
end Go.Proofs.Ytlpmnnkijdbopaa
