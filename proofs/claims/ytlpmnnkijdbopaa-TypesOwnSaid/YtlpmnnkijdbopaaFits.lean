/-
  The walk of Fits.
-/
import Derived.Test.YtlpmnnkijdbopaaText
namespace Go.Proofs.Ytlpmnnkijdbopaa
open Go.RowKit Go.Maps

def FitPost (r : Bool) (w : World) (e : Ending) (w' : World) : Prop := e = .returned (.bool r) ∧ Below w.heap.size w w'
set_option maxRecDepth 20000 in
set_option maxHeartbeats 12800000 in
theorem fit_any {n lo hi p : Nat} {T : Ts} {X : TL} (m : Nat) : ∀ (a b : Bs) (w : World), TysX n w lo hi p T X → a.length < m → a.length ≤ 9223372036854775807 → b.length ≤ 9223372036854775807 →
    Calls Try.prog 10 #[.pointer (some ⟨p, 0, none⟩), tx a, tx b] w (FitPost (fit T m a b) w) := by
  induction m with
  | zero => intro a b w _ h; omega
  | succ m ih0 =>
    intro a b w h hm ha hb
    have q2 := run_field2
    have q4 := run_field4
    have n1 := nonNull_any (a := a) w (by omega)
    have n2 := nonNull_any (a := b) w (by omega)
    have n3 := nullable_any (a := a) w (by omega)
    have n4 := nullable_any (a := b) w (by omega)
    have n5 := item_any (a := a) w ha
    have n6 := item_any (a := b) w hb
    have la : a.length ≤ maxLen := by unfold maxLen; omega
    have lb : b.length ≤ maxLen := by unfold maxLen; omega
    have H := hide (And.intro h (And.intro hm (And.intro ha (And.intro hb (And.intro la lb)))))
    have N := hide (And.intro n1 (And.intro n2 (And.intro n3 (And.intro n4 (And.intro n5 n6)))))
    have ih := hide ih0
    clear h hm ha hb la lb n1 n2 n3 n4 n5 n6 ih0
    cases h1 : nn a with
    | true =>
      have Q := hide h1
      have N1 := N.out.1
      rw [h1] at N1
      have M := hide N1
      clear h1 N1
      go_enter Try.func10, Try.ntmps10
      go_wp2_with fail
      refine M.out.mono ?_
      rintro e w' ⟨rfl, rfl⟩
      go_wp2_with fail
      refine N.out.2.2.1.mono ?_
      rintro e w' ⟨rfl, rfl⟩
      go_wp2_with fail
      refine N.out.2.2.2.1.mono ?_
      rintro e w' ⟨rfl, rfl⟩
      go_wp2_with fail
      have hl := nu_lt Q.out
      refine (ih.out (nu a) (nu b) w H.out.1 (by have := H.out.2.1; omega) (by have := H.out.2.2.1; omega) (Nat.le_trans (nu_le b) H.out.2.2.2.1)).mono ?_
      rintro e w2 ⟨rfl, hb2⟩
      have HB := hide hb2
      clear hb2 hl
      go_wp2
      go_ret
      exact ⟨ret_b (by rw [fit_succ, if_pos Q.out]), HB.out⟩
    | false =>
      have Q := hide h1
      have N1 := N.out.1
      rw [h1] at N1
      have M := hide N1
      clear h1 N1
      cases h2 : nn b with
      | true =>
        have Q2 := hide h2
        have N2 := N.out.2.1
        rw [h2] at N2
        have M2 := hide N2
        clear h2 N2
        go_enter Try.func10, Try.ntmps10
        go_wp2_with fail
        refine M.out.mono ?_
        rintro e w' ⟨rfl, rfl⟩
        go_wp2_with fail
        refine M2.out.mono ?_
        rintro e w' ⟨rfl, rfl⟩
        go_wp2
        go_ret
        exact ⟨ret_b (by rw [fit_succ, Q.out, Q2.out]; rfl), Below.refl _ _⟩
      | false =>
        have Q2 := hide h2
        have N2 := N.out.2.1
        rw [h2] at N2
        have M2 := hide N2
        clear h2 N2
        cases h3 : isL a with
        | true =>
          have Q3 := hide h3
          have N5 := N.out.2.2.2.2.1
          rw [h3] at N5
          have M3 := hide N5
          clear h3 N5
          cases h4 : isL b with
          | true =>
            have Q4 := hide h4
            have N6 := N.out.2.2.2.2.2
            rw [h4] at N6
            have M4 := hide N6
            clear h4 N6
            go_enter Try.func10, Try.ntmps10
            go_wp2_with fail
            refine M.out.mono ?_
            rintro e w' ⟨rfl, rfl⟩
            go_wp2_with fail
            refine M2.out.mono ?_
            rintro e w' ⟨rfl, rfl⟩
            go_wp2_with fail
            refine M3.out.mono ?_
            rintro e w' ⟨rfl, rfl⟩
            go_wp2_with fail
            refine M4.out.mono ?_
            rintro e w' ⟨rfl, rfl⟩
            go_wp2_with fail
            have hl := it_lt Q3.out
            have hl2 := it_lt Q4.out
            refine (ih.out (it a) (it b) w H.out.1 (by have := H.out.2.1; omega) (by have := H.out.2.2.1; omega) (by have := H.out.2.2.2.1; omega)).mono ?_
            rintro e w2 ⟨rfl, hb2⟩
            have HB := hide hb2
            clear hb2 hl hl2
            go_wp2
            go_ret
            exact ⟨ret_b (by rw [fit_succ, Q.out, Q2.out, Q3.out, Q4.out]; rfl), HB.out⟩
          | false =>
            have Q4 := hide h4
            have N6 := N.out.2.2.2.2.2
            rw [h4] at N6
            have M4 := hide N6
            clear h4 N6
            go_enter Try.func10, Try.ntmps10
            go_wp2_with fail
            refine M.out.mono ?_
            rintro e w' ⟨rfl, rfl⟩
            go_wp2_with fail
            refine M2.out.mono ?_
            rintro e w' ⟨rfl, rfl⟩
            go_wp2_with fail
            refine M3.out.mono ?_
            rintro e w' ⟨rfl, rfl⟩
            go_wp2_with fail
            refine M4.out.mono ?_
            rintro e w' ⟨rfl, rfl⟩
            go_wp2
            go_ret
            exact ⟨ret_b (by rw [fit_succ, Q.out, Q2.out, Q3.out, Q4.out]; rfl), Below.refl _ _⟩
        | false =>
          have Q3 := hide h3
          have N5 := N.out.2.2.2.2.1
          rw [h3] at N5
          have M3 := hide N5
          clear h3 N5
          cases h4 : isL b with
          | true =>
            have Q4 := hide h4
            have N6 := N.out.2.2.2.2.2
            rw [h4] at N6
            have M4 := hide N6
            clear h4 N6
            go_enter Try.func10, Try.ntmps10
            go_wp2_with fail
            refine M.out.mono ?_
            rintro e w' ⟨rfl, rfl⟩
            go_wp2_with fail
            refine M2.out.mono ?_
            rintro e w' ⟨rfl, rfl⟩
            go_wp2_with fail
            refine M3.out.mono ?_
            rintro e w' ⟨rfl, rfl⟩
            go_wp2_with fail
            refine M4.out.mono ?_
            rintro e w' ⟨rfl, rfl⟩
            go_wp2
            go_ret
            exact ⟨ret_b (by rw [fit_succ, Q.out, Q2.out, Q3.out, Q4.out]; rfl), Below.refl _ _⟩
          | false =>
            have Q4 := hide h4
            have N6 := N.out.2.2.2.2.2
            rw [h4] at N6
            have M4 := hide N6
            clear h4 N6
            have QF := hide (show fit T (m + 1) a b = fitN T a b by rw [fit_succ, Q.out, Q2.out, Q3.out, Q4.out]; rfl)
            by_cases hab : a = b
            · have hab' : (a == b) = true := by simpa using hab
              have QE := hide hab
              clear hab
              go_enter Try.func10, Try.ntmps10
              go_wp2_with fail
              refine M.out.mono ?_
              rintro e w' ⟨rfl, rfl⟩
              go_wp2_with fail
              refine M2.out.mono ?_
              rintro e w' ⟨rfl, rfl⟩
              go_wp2_with fail
              refine M3.out.mono ?_
              rintro e w' ⟨rfl, rfl⟩
              go_wp2_with fail
              refine M4.out.mono ?_
              rintro e w' ⟨rfl, rfl⟩
              go_wp2
              go_ret
              exact ⟨ret_b (by rw [QF.out]; unfold fitN; rw [if_pos QE.out]), Below.refl _ _⟩
            · have hab' : (a == b) = false := by simpa using hab
              have QE := hide hab
              clear hab
              go_enter Try.func10, Try.ntmps10
              go_wp2_with fail
              refine M.out.mono ?_
              rintro e w' ⟨rfl, rfl⟩
              go_wp2_with fail
              refine M2.out.mono ?_
              rintro e w' ⟨rfl, rfl⟩
              go_wp2_with fail
              refine M3.out.mono ?_
              rintro e w' ⟨rfl, rfl⟩
              go_wp2_with fail
              refine M4.out.mono ?_
              rintro e w' ⟨rfl, rfl⟩
              go_wp2_with fail
              have I3 := is_any (ks := [3]) 1 (tys_alloc H.out.1 (.cells #[.int .i64 3] 3)) H.out.2.2.2.2.2 (rn_new w [3] 3) (by decide)
              cases k3 : isK T b [3] with
              | true =>
                have K3 := hide k3
                rw [k3] at I3
                have J3 := hide I3
                clear k3 I3
                refine J3.out.mono ?_
                rintro e w' ⟨rfl, rfl⟩
                go_wp2_with fail
                have I2 := is_any (ks := [2, 3]) 2 (tys_alloc (tys_alloc H.out.1 (.cells #[.int .i64 3] 3)) (.cells #[.int .i64 2, .int .i64 3] 3)) H.out.2.2.2.2.1 (rn_new' (w.alloc (.cells #[.int .i64 3] 3)) [2, 3] 3 (g := w.heap.size + 1) (by simp)) (by decide)
                cases k2 : isK T a [2, 3] with
                | true =>
                  have K2 := hide k2
                  rw [k2] at I2
                  have J2 := hide I2
                  clear k2 I2
                  have h9 := tys_alloc (tys_alloc H.out.1 (.cells #[.int .i64 3] 3)) (.cells #[.int .i64 2, .int .i64 3] 3)
                  have hb9 : Below w.heap.size w ((w.alloc (.cells #[.int .i64 3] 3)).alloc (.cells #[.int .i64 2, .int .i64 3] 3)) := ((Below.refl _ _).alloc (Nat.le_refl _) _).alloc (by simp) _
                  refine J2.out.mono ?_
                  rintro e w' ⟨rfl, rfl⟩
                  obtain ⟨wz, hwz⟩ : ∃ wz, wz = ((w.alloc (.cells #[.int .i64 3] 3)).alloc (.cells #[.int .i64 2, .int .i64 3] 3)) := ⟨_, rfl⟩
                  rw [← hwz] at h9 hb9 ⊢
                  obtain ⟨A1, c1, A2, c2, A3, c3, A4, c4, e1, hrt⟩ := h9.cells a
                  obtain ⟨B1, d1, B2, d2, B3, d3, B4, d4, eq1, s1, hx⟩ := hrt
                  have hA : A1 = B1 := by injection eq1 with _ eq1; injection eq1 with _ eq1; injection eq1 with eq1 _; injection eq1
                  subst hA
                  have C := hide (containsS_any (s := b) c1 s1 (by have := (rs_sub H.out.1 a).1; omega))
                  have p0 := h9.p0
                  have H9 := hide (And.intro h9 (And.intro e1 hb9))
                  clear h9 e1 eq1 s1 hx hb9 hwz
                  go_wp2_with (at_lookup; refine wpList_tget rfl H9.out.1.map rfl H.out.2.2.2.2.1 H9.out.2.1 rfl ?_)
                  refine C.out.mono ?_
                  rintro e w' ⟨rfl, rfl⟩
                  go_wp2
                  go_ret
                  exact ⟨ret_b (by rw [QF.out]; unfold fitN; rw [if_neg QE.out, K3.out, K2.out]; rfl), H9.out.2.2⟩
                | false =>
                  have K2 := hide k2
                  rw [k2] at I2
                  have J2 := hide I2
                  clear k2 I2
                  refine J2.out.mono ?_
                  rintro e w' ⟨rfl, rfl⟩
                  go_wp2
                  go_ret
                  exact ⟨ret_b (by rw [QF.out]; unfold fitN; rw [if_neg QE.out, K3.out, K2.out]; rfl), ((Below.refl _ _).alloc (Nat.le_refl _) _).alloc (by simp) _⟩
              | false =>
                have K3 := hide k3
                rw [k3] at I3
                have J3 := hide I3
                clear k3 I3
                refine J3.out.mono ?_
                rintro e w' ⟨rfl, rfl⟩
                go_wp2_with fail
                have I2 := is_any (ks := [4]) 1 (tys_alloc (tys_alloc H.out.1 (.cells #[.int .i64 3] 3)) (.cells #[.int .i64 4] 3)) H.out.2.2.2.2.2 (rn_new' (w.alloc (.cells #[.int .i64 3] 3)) [4] 3 (g := w.heap.size + 1) (by simp)) (by decide)
                cases k2 : isK T b [4] with
                | true =>
                  have K2 := hide k2
                  rw [k2] at I2
                  have J2 := hide I2
                  clear k2 I2
                  have I1 := is_any (ks := [2]) 1 (tys_alloc (tys_alloc (tys_alloc H.out.1 (.cells #[.int .i64 3] 3)) (.cells #[.int .i64 4] 3)) (.cells #[.int .i64 2] 3)) H.out.2.2.2.2.1 (rn_new' ((w.alloc (.cells #[.int .i64 3] 3)).alloc (.cells #[.int .i64 4] 3)) [2] 3 (g := w.heap.size + 2) (by simp)) (by decide)
                  have hbl : Below w.heap.size w (((w.alloc (.cells #[.int .i64 3] 3)).alloc (.cells #[.int .i64 4] 3)).alloc (.cells #[.int .i64 2] 3)) := (((Below.refl _ _).alloc (Nat.le_refl _) _).alloc (by simp) _).alloc (by simp; omega) _
                  have HBL := hide hbl
                  have J1 := hide I1
                  clear hbl I1
                  refine J2.out.mono ?_
                  rintro e w' ⟨rfl, rfl⟩
                  go_wp2_with fail
                  have I1 := J1.out
                  cases k1 : isK T a [2] with
                  | true =>
                    have K1 := hide k1
                    rw [k1] at I1
                    replace J1 := hide I1
                    clear k1 I1
                    have h9 := tys_alloc (tys_alloc (tys_alloc H.out.1 (.cells #[.int .i64 3] 3)) (.cells #[.int .i64 4] 3)) (.cells #[.int .i64 2] 3)
                    have hb9 := HBL.out
                    refine J1.out.mono ?_
                    rintro e w' ⟨rfl, rfl⟩
                    obtain ⟨wz, hwz⟩ : ∃ wz, wz = (((w.alloc (.cells #[.int .i64 3] 3)).alloc (.cells #[.int .i64 4] 3)).alloc (.cells #[.int .i64 2] 3)) := ⟨_, rfl⟩
                    rw [← hwz] at h9 hb9 ⊢
                    obtain ⟨A1, c1, A2, c2, A3, c3, A4, c4, e1, hrt⟩ := h9.cells b
                    obtain ⟨B1, d1, B2, d2, B3, d3, B4, d4, eq1, hx1, hx2, s3, hx4⟩ := hrt
                    have hA : A3 = B3 := by injection eq1 with _ eq1; injection eq1 with _ eq1; injection eq1 with _ eq1; injection eq1 with _ eq1; injection eq1 with eq1 _; injection eq1
                    subst hA
                    have C := hide (containsS_any (s := a) c3 s3 (by have := (rs_sub H.out.1 b).2; omega))
                    have p0 := h9.p0
                    have H9 := hide (And.intro h9 (And.intro e1 hb9))
                    clear h9 e1 eq1 s3 hx1 hx2 hx4 hb9 hwz
                    go_wp2_with (at_lookup; refine wpList_tget rfl H9.out.1.map rfl H.out.2.2.2.2.2 H9.out.2.1 rfl ?_)
                    refine C.out.mono ?_
                    rintro e w' ⟨rfl, rfl⟩
                    go_wp2
                    go_ret
                    exact ⟨ret_b (by rw [QF.out]; unfold fitN; rw [if_neg QE.out, K3.out, K2.out, K1.out]; rfl), H9.out.2.2⟩
                  | false =>
                    have K1 := hide k1
                    rw [k1] at I1
                    replace J1 := hide I1
                    clear k1 I1
                    refine J1.out.mono ?_
                    rintro e w' ⟨rfl, rfl⟩
                    go_wp2
                    go_ret
                    exact ⟨ret_b (by rw [QF.out]; unfold fitN; rw [if_neg QE.out, K3.out, K2.out, K1.out]; rfl), HBL.out⟩
                | false =>
                  have K2 := hide k2
                  rw [k2] at I2
                  have J2 := hide I2
                  clear k2 I2
                  refine J2.out.mono ?_
                  rintro e w' ⟨rfl, rfl⟩
                  go_wp2
                  go_ret
                  exact ⟨ret_b (by rw [QF.out]; unfold fitN; rw [if_neg QE.out, K3.out, K2.out]; rfl), ((Below.refl _ _).alloc (Nat.le_refl _) _).alloc (by simp) _⟩
end Go.Proofs.Ytlpmnnkijdbopaa
