/-
  The walk of the law FrameScans.
-/
import Derived.Test.YtpglncaigmnjcaaRefScan
namespace Go.Proofs.Ytpglncaigmnjcaa
open Go.RowKit

theorem refscan_list {w : World} (l : List UInt8) (hn : l.length ≤ 1000000) {fs : List (Nat × List UInt8)} {a : Nat} (hs : scan l 0 = (fs, a)) :
    Calls Try.prog 19 #[.string ⟨l.toArray⟩] w fun e w' => ∃ A' c', e = .returned (.tuple #[.slice A' fs.length c', .int .i64 (a : Int)]) ∧
      w'.ownsRow w.heap.size 45 2 (.slice A' fs.length c') fs.length (rcells fs) ∧ Below w.heap.size w w' := by
  have h := refscan_any (w := w) ⟨l.toArray⟩ (by rw [ba_len]; exact hn)
  rw [show (⟨l.toArray⟩ : ByteArray).data.toList = l from by simp, hs] at h
  exact h
theorem scan_list {w : World} {B n : Nat} {A : Option Addr} {l : List UInt8} (c : Nat) (hr : Rb w B A n l) (hB : B ≤ w.heap.size) (hnc : n ≤ c) (hn : n ≤ 1000000) {fs : List (Nat × List UInt8)} {a : Nat} (hs : scan l 0 = (fs, a)) :
    Calls Try.prog 18 #[.slice A n c] w fun e w' => ∃ A' c' us, e = .returned (.tuple #[.slice A' fs.length c', .int .i64 (a : Int)]) ∧
      w'.ownsRow w.heap.size 40 2 (.slice A' fs.length c') fs.length us ∧ FrCells w' w.heap.size us fs ∧ Below w.heap.size w w' := by
  have h := scan_any c hr hB hnc hn
  rw [hs] at h
  exact h
theorem scan_len {l : List UInt8} {fs : List (Nat × List UInt8)} {a : Nat} (hs : scan l 0 = (fs, a)) : fs.length ≤ l.length := by
  have key : ∀ m b, l.length + 1 - b ≤ m → b ≤ l.length → (scan l b).1.length ≤ l.length - b := by
    intro m
    induction m with
    | zero => intro b hb hbl; omega
    | succ m ih =>
      intro b hb hbl
      cases hst : step l b with
      | none => rw [scan_none hst]; simp
      | some x =>
        obtain ⟨n, k, p⟩ := x
        have h2 := step_some hst
        rw [scan_some hst]
        have := ih (b + 9 + n) (by omega) (by omega)
        simp only [List.length_cons]
        omega
  have := key (l.length + 1) 0 (by omega) (by omega)
  rw [hs] at this
  simpa using this

set_option maxRecDepth 100000 in
set_option maxHeartbeats 3200000 in
theorem framescans_any {w : World} {B n : Nat} {A : Option Addr} {l : List UInt8} (c : Nat) (hr : Rb w B A n l) (hB : B ≤ w.heap.size) (hnc : n ≤ c) (hn : n ≤ 9000) :
    Calls Try.prog 8 #[.slice A n c] w fun e w' => e = .returned (.bool true) ∧ Below w.heap.size w w' := by
  have i1 : (n : Int) ≤ 9000 := by omega
  obtain ⟨fs, a, hs⟩ : ∃ fs a, scan l 0 = (fs, a) := ⟨_, _, rfl⟩
  have hfl := scan_len hs
  have H := hide (And.intro (hr.more hB) (And.intro hnc (And.intro hn (And.intro hs hr.len))))
  have i2 : (fs.length : Int) ≤ 9000 := by rw [hr.len] at hfl; omega
  clear hr hB hnc hn hs hfl
  go_enter Try.func8, Try.ntmps8
  go_wp2_with fail
  refine (awake_any _).mono ?_
  rintro e w1 ⟨rfl, hb1⟩
  have H1 := hide (And.intro (H.out.1.below hb1) hb1)
  clear hb1
  go_wp2_with fail
  refine (scan_list c H1.out.1 H1.out.2.size H.out.2.1 (by have := H.out.2.2.1; omega) H.out.2.2.2.1).mono ?_
  rintro e w2 ⟨A1, c1, us, rfl, hown2, hf2, hb2⟩
  have hs1 := H1.out.2.size
  have hrb2 := H1.out.1.below (hb2.mono hs1)
  have H2 := hide (And.intro hrb2 (And.intro hown2 (And.intro hf2 (And.intro (H1.out.2.trans (hb2.mono hs1)) hb2.size))))
  clear hrb2 hown2 hf2 hb2
  go_wp2_with ((with_reducible show wpList _ _ _ ({ dst := _, op := .convert 30 9 _, type := _, pos := _, after := _, guard := _ } :: _) _ _); refine wpList_bytes_string_g Try.underlying30 Try.underlying5 Try.underlying9 rfl rfl H2.out.1 ?_)
  refine (refscan_list l (by have := H.out; omega) H.out.2.2.2.1).mono ?_
  rintro e w3 ⟨A2, c2, rfl, hown3, hb3⟩
  have hk : ∀ {e : TypeId} {k n : Nat} {v : Value} {xs : List Value}, w2.ownsRow w1.heap.size e k v n xs → w3.ownsRow w1.heap.size e k v n xs := fun h => owns_below h hb3 (fun g hg => (h.lt g hg).2)
  have H3 := hide (And.intro (hk H2.out.2.1) (And.intro (FrCells.imp (fun v n xs h => hk h) H2.out.2.2.1) (And.intro hown3 (H2.out.2.2.2.1.trans (hb3.mono (Nat.le_trans hs1 H2.out.2.2.2.2))))))
  clear hown3 hb3 hk
  go_wp2_with fail
  go_loopw [7, 39] (fun _ i wr => ∃ k q : Nat, k ≤ fs.length ∧ i = .int .i64 k ∧ wr = w3.drewN q) (fun _ i _ => fs.length - (intOf i).toNat)
  case atStart => exact ⟨0, 0, Nat.zero_le _, rfl, rfl⟩
  case round =>
    obtain ⟨k, q, hkl, rfl, rfl⟩ := hrel
    by_cases hlt : k < fs.length
    · obtain ⟨f, hf⟩ : ∃ f, fs[k]? = some f := ⟨_, List.getElem?_eq_getElem hlt⟩
      obtain ⟨u0, u1, hu0, hu1, rfl, P, cP, rfl, hop⟩ := H3.out.2.1.get hf
      obtain ⟨hv0, hv1⟩ := rcells_get hf
      rw [Nat.mul_comm] at hu0 hu1 hv0 hv1
      obtain ⟨g1, cap1, hg1, _, _⟩ := H3.out.1.form (by omega)
      cases hg1
      obtain ⟨g2, cap2, hg2, _, _⟩ := H3.out.2.2.1.form (by omega)
      cases hg2
      have hc0 : w3.cell? ⟨g1, k * 2, none⟩ = some (.int .i64 (f.1 : Int)) := by rw [H3.out.1.cellAt _ (by omega)]; exact hu0
      have hc1 : w3.cell? ⟨g1, k * 2 + 1, none⟩ = some (.slice P f.2.length cP) := by rw [H3.out.1.cellAt _ (by omega)]; exact hu1
      have hd0 : w3.cell? ⟨g2, k * 2, none⟩ = some (.int .i64 (f.1 : Int)) := by rw [H3.out.2.2.1.cellAt _ (by omega)]; exact hv0
      have hd1 : w3.cell? ⟨g2, k * 2 + 1, none⟩ = some (.string ⟨f.2.toArray⟩) := by rw [H3.out.2.2.1.cellAt _ (by omega)]; exact hv1
      have hki : (k : Int) < (fs.length : Int) := by omega
      have hcv : ∀ q', (convert 30 9 (.slice P f.2.length cP)).run Try.prog (w3.drewN q') = .ok (.string ⟨f.2.toArray⟩) (w3.drewN q') := fun q' =>
        run_bytes_string Try.underlying30 Try.underlying5 Try.underlying9 cP ((Rb.of_own hop).drewN q')
      have HF := hide hf
      clear hu0 hu1 hv0 hv1 hop hf
      go_wp2_with fail
      go_quiet (fail)
      go_wp2_with fail
      go_roundw
      case rel => exact ⟨k + 1, _, by omega, by go_num, rfl⟩
      case measure => simp [intOf]; omega
    · go_wp2_with fail
      go_ret
      exact ⟨rfl, bl_drewN H3.out.2.2.2 q⟩

set_option maxRecDepth 100000 in
set_option maxHeartbeats 800000 in
theorem framescans_long {w : World} {n : Nat} {A : Option Addr} (c : Nat) (hn : 9000 < n) :
    Calls Try.prog 8 #[.slice A n c] w fun e w' => e = .returned (.bool true) ∧ Below w.heap.size w w' := by
  have i1 : (9000 : Int) < (n : Int) := by omega
  clear hn
  go_enter Try.func8, Try.ntmps8
  go_wp2_with fail
  refine (awake_any _).mono ?_
  rintro e w1 ⟨rfl, hb1⟩
  have H := hide hb1
  clear hb1
  go_wp2_with fail
  refine (awake_any _).mono ?_
  rintro e w2 ⟨rfl, hb2⟩
  have H2 := hide (H.out.trans (hb2.mono H.out.size))
  clear hb2 H
  go_wp2_with fail
  go_ret
  exact ⟨rfl, H2.out⟩
end Go.Proofs.Ytpglncaigmnjcaa
