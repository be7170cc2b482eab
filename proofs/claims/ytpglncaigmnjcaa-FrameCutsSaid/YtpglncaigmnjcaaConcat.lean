/-
  The walks of the library's Grow (at nil), Clone and Concat at byte slices.
-/
import Derived.Test.YtpglncaigmnjcaaSum
import Derived.Lib.AppendZerosOnto
import Derived.Lib.SliceRun
namespace Go.Proofs.Ytpglncaigmnjcaa
open Go.RowKit

set_option maxHeartbeats 400000 in
theorem grow_nil (n : Nat) (hn : n ≤ 1000000000) (w : World) :
    Calls Try.prog 27 #[.slice none 0 0, .int .i64 n] w fun e w' => ∃ A c, e = .returned (.slice A 0 c) ∧ w'.ownsRow w.heap.size 5 1 (.slice A 0 c) 0 [] ∧ Below w.heap.size w w' := by
  rcases Nat.eq_zero_or_pos n with h0 | h0
  · subst h0
    go_enter Try.func27, Try.ntmps27
    go_wp2
    go_ret
    exact ⟨none, 0, rfl, World.ownsRow_nil _ _ _ _, Below.refl _ _⟩
  · obtain ⟨i0, hi, hz0, hz1, hz2⟩ := info_parts Try.infoU8
    have hrz : ∀ rt, (Builtin.append_ #[30, 3] rt #[.slice none 0 0, .int .i64 n]).run Try.prog w =
        .ok (.slice (some ⟨w.heap.size, 0, none⟩) n (grownCap w n 0 5))
        (w.drew.alloc (.cells (#[] ++ Builtin.zeroCells #[.int .u8 0] n ++ Builtin.zeroCells #[.int .u8 0] (grownCap w n 0 5 - n)) 5)) := fun rt => by
      have h := Lib.run_append_grow_zeros (P := Try.prog) w 30 3 rt 5 i0 (.int .u8 0) .i64 .i64 Try.underlying30 Try.underlying3 hi hz0 none 0 0 [] (run_firstCells_none w.drew i0.size 0 0 0) n h0 (by rw [hz1]; decide) (by omega) (by omega) (by rw [hz2]; omega) (by
        exact growslice_fits (by omega) (by rw [hz2]; omega))
      simp only [Nat.zero_add] at h
      exact h
    have hi0 : (0 : Int) < n := by omega
    have hGn := grownCap_ge w n 0 5
    have hG63 := grownCap_le_maxLen w n 0 5 (by unfold maxLen; omega)
    obtain ⟨G, hG⟩ : ∃ G, G = grownCap w n 0 5 := ⟨_, rfl⟩
    rw [← hG] at hrz hGn hG63
    unfold maxLen at hG63
    clear hG
    obtain ⟨cs, hcs⟩ : ∃ cs, cs = #[] ++ Builtin.zeroCells #[.int .u8 0] n ++ Builtin.zeroCells #[.int .u8 0] (G - n) := ⟨_, rfl⟩
    rw [← hcs] at hrz
    have hsz : cs.size = G * 1 := by rw [hcs]; simp [size_zeroCells]; omega
    have H := hide (And.intro hrz hsz)
    clear hrz hsz hcs
    go_enter Try.func27, Try.ntmps27
    go_wp2_with (at_builtin; refine Lib.wpList_append_run _ rfl _ _ _ _ rfl _ _ rfl rfl _ _ (H.out.1 _) ?_)
    go_ret
    exact ⟨_, _, rfl, World.ownsRow_made w.drew cs G (Nat.le_refl _) (by unfold maxLen; omega) H.out.2, ((Below.refl _ _).drew).alloc (Nat.le_refl _) _⟩

set_option maxHeartbeats 400000 in
theorem clone_any {w : World} {B n : Nat} {ad : Addr} {l : List UInt8} (c : Nat) (hr : Rb w B (some ad) n l) (hB : B ≤ w.heap.size) (hn : n ≤ 1000000) :
    Calls Try.prog 25 #[.slice (some ad) n c] w fun e w' => ∃ A' c', e = .returned (.slice A' n c') ∧ w'.ownsRow w.heap.size 5 1 (.slice A' n c') n (u8s l) ∧ Below w.heap.size w w' := by
  have hnil := fun wx => Lib.run_eql_slice_nil (P := Try.prog) wx 30 5 (some ad) n c 0 0 Try.underlying30
  go_enter Try.func25, Try.ntmps25
  have hown : (w.alloc (.cells #[] 5)).ownsRow w.heap.size 5 1 (.slice (some ⟨w.heap.size, 0, none⟩) 0 0) 0 [] := World.ownsRow_made w #[] 0 (Nat.le_refl _) (by unfold maxLen; omega) rfl
  have hrd := hr.alloc hB (.cells #[] 5)
  have H := hide (And.intro hown hrd)
  clear hown hrd hr
  go_wp2_with ((with_reducible show wpList _ _ _ ({ dst := _, op := .call { callee := .builtin .append, args := #[_, _], argTypes := #[30, 30] }, type := _, pos := _, after := _, guard := _ } :: _) _ _); refine wpList_append_u8 rfl rfl H.out.1 H.out.2 (by omega) (by simp) ?_; intro A' c' w1 hown1 hb1)
  simp only [Nat.zero_add, List.nil_append] at *
  go_ret
  exact ⟨_, _, rfl, by assumption, ((Below.refl _ _).alloc (Nat.le_refl _) _).trans (by assumption)⟩

/-- the bytes of parts, all together -/
def tot (ps : List (List UInt8)) : Nat := ps.flatten.length
theorem tot_snoc {ps : List (List UInt8)} {k : Nat} {l : List UInt8} (h : ps[k]? = some l) : tot (ps.take (k + 1)) = tot (ps.take k) + l.length := by
  unfold tot; rw [flat_snoc h, List.length_append]
theorem tot_le (ps : List (List UInt8)) (k : Nat) : tot (ps.take k) ≤ tot ps := by
  unfold tot
  conv => rhs; rw [← List.take_append_drop k ps, List.flatten_append, List.length_append]
  omega

set_option maxHeartbeats 800000 in
theorem concat_any {w : World} {B n : Nat} {A : Option Addr} {ps : List (List UInt8)} (c : Nat) (hr : Rp w B A n ps) (hB : B ≤ w.heap.size) (hn : n ≤ maxLen) (ht : tot ps ≤ 1000000) :
    Calls Try.prog 21 #[.slice A n c] w fun e w' => ∃ A' c', e = .returned (.slice A' (tot ps) c') ∧ w'.ownsRow w.heap.size 5 1 (.slice A' (tot ps) c') (tot ps) (u8s ps.flatten) ∧ Below w.heap.size w w' := by
  unfold maxLen at hn
  have HT := hide ht
  clear ht
  go_enter Try.func21, Try.ntmps21
  go_wp2
  go_loop [3, 11] (fun s i => ∃ k : Nat, k ≤ n ∧ i = .int .i64 k ∧ s = .int .i64 (tot (ps.take k) : Int)) (fun _ i => n - (intOf i).toNat)
  case atStart => exact ⟨0, Nat.zero_le _, rfl, rfl⟩
  case round =>
    obtain ⟨k, hk, rfl, rfl⟩ := hrel
    have ht0 : tot (ps.take k) ≤ 1000000 := Nat.le_trans (tot_le ps k) HT.out
    by_cases hlt : k < n
    · obtain ⟨l, hl⟩ : ∃ l, ps[k]? = some l := ⟨_, List.getElem?_eq_getElem (by rw [hr.len]; exact hlt)⟩
      obtain ⟨b, o, A', n', c', rfl, hbB, hcell, hrb, hn'⟩ := hr.at_ k l hl
      have hs1 := tot_snoc hl
      have hs2 : tot (ps.take (k + 1)) ≤ 1000000 := Nat.le_trans (tot_le ps _) HT.out
      rw [hrb.len] at hs1
      have hs3 : tot (ps.take k) + n' ≤ 1000000 := by omega
      have HL := hide (And.intro hl (And.intro hrb hs1))
      obtain ⟨t, ht⟩ : ∃ t, t = tot (ps.take k) := ⟨_, rfl⟩
      rw [← ht] at hs3 ht0 ⊢
      have HH := hide ht
      have hneg : ¬ ((t : Int) + n' < 0) := by omega
      clear hs1 hs2 hl hrb ht
      go_wp2
      all_goals go_round
      case rel => exact ⟨k + 1, by omega, by go_num, by rw [HL.out.2.2, ← HH.out]; go_num⟩
      case measure => simp [intOf]; omega
    · have ek : k = n := by omega
      subst ek
      have hrl : tot (ps.take k) = tot ps := by rw [List.take_of_length_le (by rw [hr.len]; omega)]
      rw [hrl]
      have HR := hide hr
      clear hrl ht0 hr
      have HB := hide hB
      clear hB
      have ht2 := HT.out
      go_wp2_with (go_at_call 27; refine (grow_nil _ (by omega) _).mono ?_; rintro e w1 ⟨A1, c1, rfl, hown1, hb1⟩)
      obtain ⟨n, en⟩ : ∃ n, n = k := ⟨_, rfl⟩
      rw [← en] at HR hn hk ⊢
      clear en hlt
      have HO := hide (And.intro hown1 hb1)
      clear hown1 hb1 ht2
      go_loopw [6, 27] (fun v i wr => ∃ (k : Nat) (A' : Option Addr) (c' : Nat), k ≤ n ∧ i = .int .i64 k ∧ v = .slice A' (tot (ps.take k)) c' ∧ wr.ownsRow w.heap.size 5 1 (.slice A' (tot (ps.take k)) c') (tot (ps.take k)) (u8s (ps.take k).flatten) ∧ Below w.heap.size w wr) (fun _ i _ => n - (intOf i).toNat)
      case atStart => exact ⟨0, A1, c1, Nat.zero_le _, rfl, rfl, HO.out.1, HO.out.2⟩
      case round =>
        obtain ⟨k, A2, c2, hk2, rfl, rfl, hown, hbel⟩ := hrel
        have ht0 : tot (ps.take k) ≤ 1000000 := Nat.le_trans (tot_le ps k) HT.out
        by_cases hlt : k < n
        · have hr := HR.out.below ((hbel.mono HB.out))
          obtain ⟨l, hl⟩ : ∃ l, ps[k]? = some l := ⟨_, List.getElem?_eq_getElem (by rw [hr.len]; exact hlt)⟩
          obtain ⟨b, o, A', n', c', rfl, hbB, hcell, hrb, hn'⟩ := hr.at_ k l hl
          have hs1 := tot_snoc hl
          have hs2 : tot (ps.take (k + 1)) ≤ 1000000 := Nat.le_trans (tot_le ps _) HT.out
          rw [hrb.len] at hs1
          have hs3 : tot (ps.take k) + n' ≤ 1000000 := by omega
          have hfl := flat_snoc hl
          have HL := hide (And.intro hs1 hfl)
          obtain ⟨t, ht⟩ : ∃ t, t = tot (ps.take k) := ⟨_, rfl⟩
          rw [← ht] at hown hs3 ht0 ⊢
          have HH := hide ht
          have HW := hide (And.intro hown (And.intro hrb hbel))
          clear hs1 hs2 hl hrb ht hown hbel hfl hr
          go_wp2_with ((with_reducible show wpList _ _ _ ({ dst := _, op := .call { callee := .builtin .append, args := #[_, _], argTypes := #[30, 30] }, type := _, pos := _, after := _, guard := _ } :: _) _ _); refine wpList_append_u8 rfl rfl HW.out.1 HW.out.2.1 (by omega) HW.out.2.2.size ?_; intro A3 c3 w3 hown3 hb3)
          go_roundw
          case rel => exact ⟨k + 1, A3, c3, by omega, by go_num, by rw [HL.out.1, ← HH.out], by rw [HL.out.1, HL.out.2, u8s_append, ← HH.out]; exact hown3, HW.out.2.2.trans hb3⟩
          case measure => simp [intOf]; omega
        · have ek : k = n := by omega
          have hall : ps.take k = ps := List.take_of_length_le (by rw [HR.out.len]; omega)
          rw [hall] at hown ⊢
          have HW := hide (And.intro hown hbel)
          clear hall ek hown hbel ht0
          go_wp2
          go_ret
          exact ⟨_, _, rfl, HW.out.1, HW.out.2⟩
end Go.Proofs.Ytpglncaigmnjcaa
