/-
  The walk of the law of the names.
-/
import Derived.Test.YtlnmjkilefnjpaaGood
namespace Go.Proofs.Ytlnmjkilefnjpaa
open Go.RowKit Go.Maps

theorem dget_one (k : Bs) (i : Nat) : dget [(k, i)] k = some i := by simp [dget]
theorem dput_one (k : Bs) (i : Nat) : dput [] k i = [(k, i)] := rfl
theorem ddel_one (k : Bs) (i : Nat) : ddel [(k, i)] k = [] := by simp [ddel]
def nm1 (k : Bs) : St := { steps := 1, left := -1, room := 10, files := [([], 0)], dir := [(k, 0)], sure := [], chg := [[(k, 0)]] }
def nm2 (k : Bs) : St := { steps := 2, left := -1, room := 10, files := [([1], 0)], dir := [(k, 0)], sure := [], chg := [[(k, 0)]] }
def nm3 (k : Bs) : St := { steps := 3, left := -1, room := 10, files := [([1], 0)], dir := [(k, 0)], sure := [], chg := [[(k, 0)], [(k, -1), (k, 0)]] }
theorem nm1_eq (k : Bs) : (newS 10).create k = nm1 k := rfl
theorem nm2_eq (k : Bs) : (nm1 k).append 0 [1] = nm2 k := rfl
theorem nm3_eq (k : Bs) : (nm2 k).rename k k 0 = nm3 k := by
  have e : doL [(k, 0)] [(k, -1), (k, 0)] = [(k, 0)] := by
    have e1 : do1 [(k, 0)] (k, -1) = [] := by rw [do1_neg (show (k, (-1 : Int)).2 < 0 by show (-1 : Int) < 0; decide)]; exact ddel_one k 0
    show do1 (do1 [(k, 0)] (k, -1)) (k, 0) = _
    rw [e1]
    rfl
  unfold St.rename St.turn nm3
  simp only [St.mk.injEq]
  refine ⟨rfl, rfl, rfl, rfl, e, rfl, rfl⟩
theorem nm4_dir (k : Bs) : ((nm3 k).remove k).dir = [] := by
  show do1 [(k, 0)] (k, -1) = _
  rw [do1_neg (show (-1 : Int) < 0 by decide)]
  exact ddel_one k 0
set_option maxRecDepth 100000 in
set_option maxHeartbeats 3200000 in
theorem names_good (w : World) (k : Bs) (hg : good k = true) :
    Calls Try.prog 6 #[tx k] w fun e w' => e = .returned (.bool true) ∧ Below w.heap.size w w' := by
  have hl := goodS_len (s := ⟨k.toArray⟩) (by rw [goodS_mk]; exact hg)
  have hz : (⟨k.toArray⟩ : ByteArray).size = k.length := by show k.toArray.size = _; simp
  rw [hz] at hl
  have l1 : (k.length : Int) ≤ 20 := by omega
  have hk : k.length ≤ 1000000 := by omega
  have H := hide (And.intro hg hk)
  clear hl hz hk hg
  go_enter Try.func6, Try.ntmps6
  go_wp2_with fail
  refine (new_any 10 _ (by omega) (by omega)).mono ?_
  rintro e w1 ⟨rfl, h1, hb1⟩
  have H1 := hide (And.intro h1 hb1)
  clear h1 hb1
  unfold ptr
  go_wp2_with fail
  refine (awake_any _).mono ?_
  rintro e w2 ⟨rfl, hb2⟩
  have H2 := hide (And.intro (H1.out.1.below hb2) (H1.out.2.trans (hb2.mono H1.out.2.size)))
  clear hb2
  go_wp2_with fail
  refine (create_ok (k := k) H2.out.1 H.out.2 H.out.1 rfl (of_decide_eq_true rfl) (of_decide_eq_true rfl) (of_decide_eq_true rfl) (of_decide_eq_true rfl) (of_decide_eq_true rfl)).mono ?_
  rintro e w3 ⟨rfl, h3, hb3⟩
  rw [nm1_eq] at h3
  have hx3 : Below w3.heap.size w3 (w3.alloc (.cells (u8s [1]).toArray 5)) := (Below.refl _ _).alloc (Nat.le_refl _) _
  have H3 := hide (And.intro (h3.below hx3) ((H2.out.2.trans hb3).trans (hx3.mono h3.lo)))
  clear h3 hb3 hx3
  go_wp2_with fail
  refine (append_ok (d := 1) (k := k) (i := 0) (f := ([], 0)) H3.out.1 H.out.2 H.out.1 (dget_one k 0) rfl (of_decide_eq_true rfl) (of_decide_eq_true rfl) (of_decide_eq_true rfl) (of_decide_eq_true rfl) (of_decide_eq_true rfl) (of_decide_eq_true rfl) (of_decide_eq_true rfl) (Rb.lit w3 [1] 5 (0, 0)) (by simp)).mono ?_
  rintro e w4 ⟨rfl, h4, hb4⟩
  rw [nm2_eq] at h4
  have H4 := hide (And.intro h4 (H3.out.2.trans hb4))
  clear h4 hb4
  go_wp2_with fail
  refine (read_ok (k := k) (i := 0) (f := ([1], 0)) H4.out.1 H.out.2 H.out.1 (dget_one k 0) rfl (of_decide_eq_true rfl)).mono ?_
  rintro e w5 ⟨A5, c5, rfl, _, h5, hb5⟩
  have H5 := hide (And.intro h5 (H4.out.2.trans (hb5.mono H4.out.2.size)))
  clear h5 hb5
  go_wp2_with fail
  refine (rename_ok (k := k) (to := k) (i := 0) H5.out.1 H.out.2 H.out.2 H.out.1 H.out.1 (dget_one k 0) (of_decide_eq_true rfl) (of_decide_eq_true rfl) (of_decide_eq_true rfl) (of_decide_eq_true rfl) (of_decide_eq_true rfl)).mono ?_
  rintro e w6 ⟨rfl, h6, hb6⟩
  rw [nm3_eq] at h6
  have H6 := hide (And.intro h6 (H5.out.2.trans hb6))
  clear h6 hb6
  go_wp2_with fail
  refine (remove_ok (k := k) (i := 0) H6.out.1 H.out.2 H.out.1 (dget_one k 0) (of_decide_eq_true rfl) (of_decide_eq_true rfl) (of_decide_eq_true rfl) (of_decide_eq_true rfl)).mono ?_
  rintro e w7 ⟨rfl, h7, hb7⟩
  have H7 := hide (And.intro h7 (H6.out.2.trans hb7))
  clear h7 hb7
  go_wp2_with fail
  refine (good_yes (s := ⟨k.toArray⟩) (by rw [goodS_mk]; exact H.out.1)).mono ?_
  rintro e w8 ⟨rfl, rfl⟩
  go_wp2_with fail
  have hl := list_fs H7.out.1 (by rw [nm4_dir]; decide)
  rw [nm4_dir] at hl
  refine hl.mono ?_
  rintro e w9 ⟨A9, c9, rfl, h9, hb9⟩
  have H9 := hide (H7.out.2.trans (hb9.mono H7.out.2.size))
  clear h9 hb9 hl
  go_wp2_with fail
  go_ret
  exact ⟨rfl, H9.out⟩
set_option maxRecDepth 100000 in
set_option maxHeartbeats 3200000 in
theorem names_bad (w : World) (k : Bs) (hg : good k = false) (hk : k.length ≤ 500) :
    Calls Try.prog 6 #[tx k] w fun e w' => e = .returned (.bool true) ∧ Below w.heap.size w w' := by
  have l1 : (k.length : Int) ≤ 500 := by omega
  have hk : k.length ≤ 1000000 := by omega
  have H := hide (And.intro hg hk)
  clear hk hg
  go_enter Try.func6, Try.ntmps6
  go_wp2_with fail
  refine (new_any 10 _ (by omega) (by omega)).mono ?_
  rintro e w1 ⟨rfl, h1, hb1⟩
  have H1 := hide (And.intro h1 hb1)
  clear h1 hb1
  unfold ptr
  go_wp2_with fail
  refine (awake_any _).mono ?_
  rintro e w2 ⟨rfl, hb2⟩
  have H2 := hide (And.intro (H1.out.1.below hb2) (H1.out.2.trans (hb2.mono H1.out.2.size)))
  clear hb2
  go_wp2_with fail
  refine (create_bad (k := k) H2.out.1 H.out.2 H.out.1).mono ?_
  rintro e w3 ⟨rfl, h3, hb3⟩
  have hx3 : Below w3.heap.size w3 (w3.alloc (.cells (u8s [1]).toArray 5)) := (Below.refl _ _).alloc (Nat.le_refl _) _
  have H3 := hide (And.intro (h3.below hx3) ((H2.out.2.trans hb3).trans (hx3.mono h3.lo)))
  clear h3 hb3 hx3
  go_wp2_with fail
  refine (append_bad (k := k) H3.out.1 H.out.2 H.out.1).mono ?_
  rintro e w4 ⟨rfl, h4, hb4⟩
  have H4 := hide (And.intro h4 (H3.out.2.trans hb4))
  clear h4 hb4
  go_wp2_with fail
  refine (read_bad (k := k) H4.out.1 H.out.2 H.out.1).mono ?_
  rintro e w5 ⟨rfl, h5, hb5⟩
  have H5 := hide (And.intro h5 (H4.out.2.trans (hb5.mono H4.out.2.size)))
  clear h5 hb5
  go_wp2_with fail
  refine (rename_bad (k := k) (to := k) H5.out.1 H.out.2 H.out.2 (by rw [H.out.1]; decide)).mono ?_
  rintro e w6 ⟨rfl, h6, hb6⟩
  have H6 := hide (And.intro h6 (H5.out.2.trans hb6))
  clear h6 hb6
  go_wp2_with fail
  refine (remove_bad (k := k) H6.out.1 H.out.2 H.out.1).mono ?_
  rintro e w7 ⟨rfl, h7, hb7⟩
  have H7 := hide (And.intro h7 (H6.out.2.trans hb7))
  clear h7 hb7
  go_wp2_with fail
  refine (good_no (s := ⟨k.toArray⟩) (by have := H.out.2; show k.toArray.size ≤ _; simpa using this) (by rw [goodS_mk, H.out.1]; decide)).mono ?_
  rintro e w8 ⟨rfl, rfl⟩
  go_wp2_with fail
  obtain ⟨X8, h8⟩ := H7.out.1
  refine (steps_any h8).mono ?_
  rintro e w9 ⟨rfl, rfl⟩
  have e0 : ((newS 10).steps : Int) = 0 := rfl
  rw [e0]
  clear h8
  go_wp2_with fail
  go_ret
  exact ⟨rfl, H7.out.2⟩
set_option maxRecDepth 100000 in
set_option maxHeartbeats 3200000 in
theorem names_long (w : World) (k : Bs) (hk : 500 < k.length) :
    Calls Try.prog 6 #[tx k] w fun e w' => e = .returned (.bool true) ∧ Below w.heap.size w w' := by
  have l1 : (500 : Int) < (k.length : Int) := by omega
  clear hk
  go_enter Try.func6, Try.ntmps6
  go_wp2_with fail
  refine (new_any 10 _ (by omega) (by omega)).mono ?_
  rintro e w1 ⟨rfl, h1, hb1⟩
  have H1 := hide (And.intro h1 hb1)
  clear h1 hb1
  unfold ptr
  go_wp2_with fail
  refine (awake_any _).mono ?_
  rintro e w2 ⟨rfl, hb2⟩
  have H2 := hide (H1.out.2.trans (hb2.mono H1.out.2.size))
  clear hb2
  go_wp2_with fail
  go_ret
  exact ⟨rfl, H2.out⟩
theorem names_any (w : World) (s : ByteArray) :
    Calls Try.prog 6 #[.string s] w fun e w' => e = .returned (.bool true) ∧ Below w.heap.size w w' := by
  obtain ⟨k, rfl⟩ : ∃ k : Bs, s = ⟨k.toArray⟩ := ⟨s.data.toList, by simp⟩
  cases hg : good k with
  | true => exact names_good w k hg
  | false =>
    rcases Nat.lt_or_ge 500 k.length with h | h
    · exact names_long w k h
    · exact names_bad w k hg h
end Go.Proofs.Ytlnmjkilefnjpaa
