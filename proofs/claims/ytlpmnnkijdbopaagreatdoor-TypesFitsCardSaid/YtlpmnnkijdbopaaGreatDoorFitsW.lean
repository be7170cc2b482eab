/-
  The walk of the reference's Fits.
-/
import Derived.Test.YtlpmnnkijdbopaaGreatDoorFitsRef
namespace Go.Proofs.YtlpmnnkijdbopaaGreatDoor
open Go.RowKit Go.Maps

theorem wf_nu {a : Bs} (h : WfT a) : WfT (nu a) := by
  obtain ⟨_, h⟩ := h
  exact ⟨_, nu_wf h⟩
theorem wf_it {a : Bs} (h : WfT a) (hn : nn a = false) (hl : isL a = true) : WfT (it a) := by
  obtain ⟨_, h⟩ := h
  cases h with
  | name hg => rw [isL_false hg] at hl; cases hl
  | list h => rw [it_list]; exact ⟨_, h⟩
  | bang h => rw [nn_end] at hn; cases hn
theorem fitN_k (T : Ts) (a b : Bs) (h : a ≠ b) : fitN T a b = if kind T b = 3 then ((decide (kind T a = 2) || decide (kind T a = 3)) && decide (b ∈ (look T a).impls)) else (decide (kind T b = 4) && decide (kind T a = 2) && decide (a ∈ (look T b).members)) := by
  unfold fitN
  rw [if_neg h]
  have e3 : isK T b [3] = decide (kind T b = 3) := by unfold isK; rw [Bool.eq_iff_iff]; simp; omega
  have e4 : isK T b [4] = decide (kind T b = 4) := by unfold isK; rw [Bool.eq_iff_iff]; simp; omega
  have e2 : isK T a [2] = decide (kind T a = 2) := by unfold isK; rw [Bool.eq_iff_iff]; simp; omega
  have e23 : isK T a [2, 3] = (decide (kind T a = 2) || decide (kind T a = 3)) := by unfold isK; rw [Bool.eq_iff_iff]; simp; omega
  rw [e3, e4, e2, e23]
  by_cases hk : kind T b = 3
  · simp [hk]
  · simp [hk]
theorem nb_eq {a b : Bs} (h : a ≠ b) : (a == b) = false := by simpa using h
set_option maxRecDepth 20000 in
set_option maxHeartbeats 6400000 in
theorem rfits_any {n : Nat} {S : Nat → Prop} {A : Option Addr} {l : List Td} (c : Nat) : ∀ (m : Nat) (a b : Bs) (w : World), a.length < m → WfT a → WfT b → a.length ≤ 1000 → b.length ≤ 1000 → Lt n w S A l →
    Calls Tryz.prog 9 #[.slice A l.length c, tx a, tx b] w (FitPost (fits (mkT l) a b) w) := by
  intro m
  induction m with
  | zero => intro a b w h; omega
  | succ m ih0 =>
    intro a b w hm wa wb la lb h
    have n1 := rnn_any a w (by omega)
    have n2 := rnn_any b w (by omega)
    have n3 := rnu_any a w (by omega)
    have n4 := rnu_any b w (by omega)
    have n5 := ritem_any w wa la
    have n6 := ritem_any w wb lb
    have IH := hide ih0
    have H := hide (And.intro h (And.intro wa (And.intro wb (And.intro la (And.intro lb hm)))))
    have hfs := fits_step (mkT l) a b
    clear ih0 h hm wa wb la lb
    cases na : nn a with
    | true =>
      rw [na] at n1 hfs
      rw [if_pos rfl] at hfs
      have N := hide (And.intro n1 (And.intro n3 n4))
      have HS := hide (And.intro na hfs)
      clear n1 n2 n3 n4 n5 n6 na hfs
      go_enter Tryz.func9, Tryz.ntmps9
      go_wp2_with fail
      refine N.out.1.mono ?_
      rintro e w' ⟨rfl, rfl⟩
      go_wp2_with fail
      refine N.out.2.1.mono ?_
      rintro e w' ⟨rfl, rfl⟩
      go_wp2_with fail
      refine N.out.2.2.mono ?_
      rintro e w' ⟨rfl, rfl⟩
      go_wp2_with fail
      refine (IH.out (nu a) (nu b) w (by have := nu_lt HS.out.1; have := H.out.2.2.2.2.2; omega) (wf_nu H.out.2.1) (wf_nu H.out.2.2.1) (by have := nu_le a; have := H.out.2.2.2.1; omega) (by have := nu_le b; have := H.out.2.2.2.2.1; omega) H.out.1).mono ?_
      rintro e w' ⟨rfl, hb⟩
      have HB := hide hb
      clear hb
      go_wp2
      go_ret
      exact ⟨ret_b HS.out.2.symm, HB.out⟩
    | false =>
      rw [na] at n1 hfs
      rw [if_neg (by decide)] at hfs
      cases nbb : nn b with
      | true =>
        rw [nbb] at n2 hfs
        rw [if_pos rfl] at hfs
        have N := hide (And.intro n1 n2)
        have HS := hide hfs
        clear n1 n2 n3 n4 n5 n6 na nbb hfs
        go_enter Tryz.func9, Tryz.ntmps9
        go_wp2_with fail
        refine N.out.1.mono ?_
        rintro e w' ⟨rfl, rfl⟩
        go_wp2_with fail
        refine N.out.2.mono ?_
        rintro e w' ⟨rfl, rfl⟩
        go_wp2
        go_ret
        exact ⟨ret_b HS.out.symm, Below.refl _ _⟩
      | false =>
        rw [nbb] at n2 hfs
        rw [if_neg (by decide)] at hfs
        obtain ⟨x, hx⟩ : ∃ x, x = isL a := ⟨_, rfl⟩
        obtain ⟨y, hy⟩ : ∃ y, y = isL b := ⟨_, rfl⟩
        rw [← hx] at n5 hfs
        rw [← hy] at n6 hfs
        have N := hide (And.intro n1 (And.intro n2 (And.intro n5 n6)))
        have HXY := hide (And.intro hx (And.intro hy (And.intro na nbb)))
        clear n1 n2 n3 n4 n5 n6 na nbb hx hy
        cases x with
        | true =>
          cases y with
          | true =>
            rw [if_pos (show (true && true) = true from rfl)] at hfs
            have HS := hide hfs
            clear hfs
            go_enter Tryz.func9, Tryz.ntmps9
            go_wp2_with fail
            refine N.out.1.mono ?_
            rintro e w' ⟨rfl, rfl⟩
            go_wp2_with fail
            refine N.out.2.1.mono ?_
            rintro e w' ⟨rfl, rfl⟩
            go_wp2_with fail
            refine N.out.2.2.1.mono ?_
            rintro e w' ⟨rfl, rfl⟩
            go_wp2_with fail
            refine N.out.2.2.2.mono ?_
            rintro e w' ⟨rfl, rfl⟩
            go_wp2_with fail
            refine (IH.out (it a) (it b) w (by have := it_lt HXY.out.1.symm; have := H.out.2.2.2.2.2; omega) (wf_it H.out.2.1 HXY.out.2.2.1 HXY.out.1.symm) (wf_it H.out.2.2.1 HXY.out.2.2.2 HXY.out.2.1.symm) (by have := it_lt HXY.out.1.symm; have := H.out.2.2.2.1; omega) (by have := it_lt HXY.out.2.1.symm; have := H.out.2.2.2.2.1; omega) H.out.1).mono ?_
            rintro e w' ⟨rfl, hb⟩
            have HB := hide hb
            clear hb
            go_wp2
            go_ret
            exact ⟨ret_b HS.out.symm, HB.out⟩
          | false =>
            rw [if_neg (by decide), if_pos (show (true || false) = true from rfl)] at hfs
            have HS := hide hfs
            clear hfs
            go_enter Tryz.func9, Tryz.ntmps9
            go_wp2_with fail
            refine N.out.1.mono ?_
            rintro e w' ⟨rfl, rfl⟩
            go_wp2_with fail
            refine N.out.2.1.mono ?_
            rintro e w' ⟨rfl, rfl⟩
            go_wp2_with fail
            refine N.out.2.2.1.mono ?_
            rintro e w' ⟨rfl, rfl⟩
            go_wp2_with fail
            refine N.out.2.2.2.mono ?_
            rintro e w' ⟨rfl, rfl⟩
            go_wp2
            go_ret
            exact ⟨ret_b HS.out.symm, Below.refl _ _⟩
        | false =>
          cases y with
          | true =>
            rw [if_neg (by decide), if_pos (show (false || true) = true from rfl)] at hfs
            have HS := hide hfs
            clear hfs
            go_enter Tryz.func9, Tryz.ntmps9
            go_wp2_with fail
            refine N.out.1.mono ?_
            rintro e w' ⟨rfl, rfl⟩
            go_wp2_with fail
            refine N.out.2.1.mono ?_
            rintro e w' ⟨rfl, rfl⟩
            go_wp2_with fail
            refine N.out.2.2.1.mono ?_
            rintro e w' ⟨rfl, rfl⟩
            go_wp2_with fail
            refine N.out.2.2.2.mono ?_
            rintro e w' ⟨rfl, rfl⟩
            go_wp2
            go_ret
            exact ⟨ret_b HS.out.symm, Below.refl _ _⟩
          | false =>
            rw [if_neg (by decide), if_neg (by decide)] at hfs
            by_cases hab : a = b
            · have hbe : (a == b) = true := by simp [hab]
              have hft : fits (mkT l) a b = true := by rw [hfs]; unfold fitN; rw [if_pos hab]
              have HS := hide hft
              clear hfs hft hab
              go_enter Tryz.func9, Tryz.ntmps9
              go_wp2_with fail
              refine N.out.1.mono ?_
              rintro e w' ⟨rfl, rfl⟩
              go_wp2_with fail
              refine N.out.2.1.mono ?_
              rintro e w' ⟨rfl, rfl⟩
              go_wp2_with fail
              refine N.out.2.2.1.mono ?_
              rintro e w' ⟨rfl, rfl⟩
              go_wp2_with fail
              refine N.out.2.2.2.mono ?_
              rintro e w' ⟨rfl, rfl⟩
              go_wp2
              go_ret
              exact ⟨ret_b HS.out.symm, Below.refl _ _⟩
            · have hbe := nb_eq hab
              rw [fitN_k _ _ _ hab, kind_look, kind_look] at hfs
              have HS := hide hfs
              clear hfs hab
              go_enter Tryz.func9, Tryz.ntmps9
              go_wp2_with fail
              refine N.out.1.mono ?_
              rintro e w' ⟨rfl, rfl⟩
              go_wp2_with fail
              refine N.out.2.1.mono ?_
              rintro e w' ⟨rfl, rfl⟩
              go_wp2_with fail
              refine N.out.2.2.1.mono ?_
              rintro e w' ⟨rfl, rfl⟩
              go_wp2_with fail
              refine N.out.2.2.2.mono ?_
              rintro e w' ⟨rfl, rfl⟩
              go_wp2_with fail
              refine (find_any c H.out.1.sl H.out.1.lt (by have := H.out.1.few.1; omega)).mono ?_
              rintro e w1 ⟨cs, rfl, h1, h2, _, hb1⟩
              obtain ⟨A1, c1, A2, c2, A3, c3, A4, c4, rfl, s1, _⟩ := fnd_look h1 h2
              have H1 := hide (And.intro s1 hb1)
              clear s1 hb1 h1 h2
              go_wp2_with ((with_reducible show wpList _ _ _ ({ dst := _, op := .store 35 _ _, type := _, pos := _, after := _, guard := _ } :: _) _ _); refine wpList_store_new rfl rfl rfl Tryz.sizeT rfl rfl ?_)
              obtain ⟨w2, hw2⟩ : ∃ w2, w2 = w1.alloc (.cells #[.int .i64 (look (mkT l) a).kind, tx (look (mkT l) a).name, .slice A1 (look (mkT l) a).impls.length c1, .slice A2 (look (mkT l) a).fields.length c2, .slice A3 (look (mkT l) a).members.length c3, .slice A4 (look (mkT l) a).inputs.length c4, .int .i64 (look (mkT l) a).pos] 35) := ⟨_, rfl⟩
              rw [← hw2]
              have hy2 : w2.heap[w1.heap.size]? = some (.cells #[.int .i64 (look (mkT l) a).kind, tx (look (mkT l) a).name, .slice A1 (look (mkT l) a).impls.length c1, .slice A2 (look (mkT l) a).fields.length c2, .slice A3 (look (mkT l) a).members.length c3, .slice A4 (look (mkT l) a).inputs.length c4, .int .i64 (look (mkT l) a).pos] 35 (0, 0)) := by rw [hw2]; exact heap_alloc_new w1 _
              have hb2 : Below w.heap.size w w2 := by rw [hw2]; exact H1.out.2.alloc H1.out.2.size _
              have hs2 : Sl w2 S 1 A1 RS (look (mkT l) a).impls := by
                refine H1.out.1.map (fun _ h => h) (fun b hb => ?_) (fun _ _ h => h)
                rw [hw2]
                exact ((Below.refl w1.heap.size w1).alloc (Nat.le_refl _) _).block b (Nat.lt_of_lt_of_le (H.out.1.lt b hb) H1.out.2.size)
              have H2 := hide (And.intro hy2 (And.intro hb2 hs2))
              clear hw2 hy2 hb2 hs2
              refine (find_any c (H.out.1.more H2.out.2.1).sl (H.out.1.more H2.out.2.1).lt (by have := H.out.1.few.1; omega)).mono ?_
              rintro e w3 ⟨cs, rfl, h1, h2, _, hb3⟩
              obtain ⟨B1, d1, B2, d2, B3, d3, B4, d4, rfl, _, s3⟩ := fnd_look h1 h2
              have H3 := hide (And.intro s3 hb3)
              clear s3 hb3 h1 h2
              go_upto_region 15 with ((with_reducible show wpList _ _ _ ({ dst := _, op := .store 35 _ _, type := _, pos := _, after := _, guard := _ } :: _) _ _); refine wpList_store_new rfl rfl rfl Tryz.sizeT rfl rfl ?_)
              obtain ⟨w4, hw4⟩ : ∃ w4, w4 = w3.alloc (.cells #[.int .i64 (look (mkT l) b).kind, tx (look (mkT l) b).name, .slice B1 (look (mkT l) b).impls.length d1, .slice B2 (look (mkT l) b).fields.length d2, .slice B3 (look (mkT l) b).members.length d3, .slice B4 (look (mkT l) b).inputs.length d4, .int .i64 (look (mkT l) b).pos] 35) := ⟨_, rfl⟩
              rw [← hw4]
              have hy4 : w4.heap[w3.heap.size]? = some (.cells #[.int .i64 (look (mkT l) b).kind, tx (look (mkT l) b).name, .slice B1 (look (mkT l) b).impls.length d1, .slice B2 (look (mkT l) b).fields.length d2, .slice B3 (look (mkT l) b).members.length d3, .slice B4 (look (mkT l) b).inputs.length d4, .int .i64 (look (mkT l) b).pos] 35 (0, 0)) := by rw [hw4]; exact heap_alloc_new w3 _
              have hb24 : Below w2.heap.size w2 w4 := by rw [hw4]; exact H3.out.2.alloc H3.out.2.size _
              have hy2 := (hb24.block _ (lt_of_block H2.out.1)).trans H2.out.1
              have hs1 : Sl w4 S 1 A1 RS (look (mkT l) a).impls := H2.out.2.2.map (fun _ h => h) (fun b hb => hb24.block b (Nat.lt_of_lt_of_le (H.out.1.lt b hb) H2.out.2.1.size)) (fun _ _ h => h)
              have hs3 : Sl w4 S 1 B3 RS (look (mkT l) b).members := by
                refine H3.out.1.map (fun _ h => h) (fun b hb => ?_) (fun _ _ h => h)
                rw [hw4]
                exact ((Below.refl w3.heap.size w3).alloc (Nat.le_refl _) _).block b (Nat.lt_of_lt_of_le (Nat.lt_of_lt_of_le (H.out.1.lt b hb) H2.out.2.1.size) H3.out.2.size)
              have x0 : w4.cell? ⟨w1.heap.size, 0, none⟩ = some (.int .i64 (look (mkT l) a).kind) := by rw [cell_of_row _ _ _ _ _ _ hy2]; rfl
              have x2 : w4.cell? ⟨w1.heap.size, 2, none⟩ = some (.slice A1 (look (mkT l) a).impls.length c1) := by rw [cell_of_row _ _ _ _ _ _ hy2]; rfl
              have y0 : w4.cell? ⟨w3.heap.size, 0, none⟩ = some (.int .i64 (look (mkT l) b).kind) := by rw [cell_of_row _ _ _ _ _ _ hy4]; rfl
              have y4 : w4.cell? ⟨w3.heap.size, 4, none⟩ = some (.slice B3 (look (mkT l) b).members.length d3) := by rw [cell_of_row _ _ _ _ _ _ hy4]; rfl
              have HB := hide (And.intro (H2.out.2.1.trans (hb24.mono H2.out.2.1.size)) (And.intro hs1 hs3))
              clear hw4 hy4 hb24 hy2 hs1 hs3
              have C1 := hide (has_any (s := b) c1 HB.out.2.1 (by have := (look_few H.out.1.few a).1; omega))
              have C3 := hide (has_any (s := a) d3 HB.out.2.2 (by have := (look_few H.out.1.few b).2; omega))
              obtain ⟨ka, hka⟩ : ∃ ka, ka = (look (mkT l) a).kind := ⟨_, rfl⟩
              obtain ⟨kb, hkb⟩ : ∃ kb, kb = (look (mkT l) b).kind := ⟨_, rfl⟩
              have hs := HS.out
              rw [← hka, ← hkb] at hs
              rw [← hka] at x0
              rw [← hkb] at y0
              clear hka hkb
              have HS' := hide hs
              clear hs HS
              by_cases k3 : kb = 3
              · subst k3
                by_cases a2 : ka = 2
                · subst a2
                  go_wp2_with (with_reducible refine C1.out.mono ?_; rintro e w' ⟨rfl, rfl⟩)
                  go_ret
                  exact ⟨ret_b (by rw [HS'.out]; simp), HB.out.1⟩
                · have ab : (ka == 2) = false := by simpa using a2
                  by_cases a3 : ka = 3
                  · subst a3
                    clear a2
                    go_wp2_with (with_reducible refine C1.out.mono ?_; rintro e w' ⟨rfl, rfl⟩)
                    go_ret
                    exact ⟨ret_b (by rw [HS'.out]; simp), HB.out.1⟩
                  · have ac : (ka == 3) = false := by simpa using a3
                    have HN := hide (And.intro a2 a3)
                    clear a2 a3
                    go_wp2_with fail
                    go_ret
                    exact ⟨ret_b (by rw [HS'.out]; simp [HN.out.1, HN.out.2]), HB.out.1⟩
              · have kb3 : (kb == 3) = false := by simpa using k3
                by_cases k4 : kb = 4
                · subst k4
                  clear k3
                  by_cases a2 : ka = 2
                  · subst a2
                    go_wp2_with (with_reducible refine C3.out.mono ?_; rintro e w' ⟨rfl, rfl⟩)
                    go_ret
                    exact ⟨ret_b (by rw [HS'.out]; simp), HB.out.1⟩
                  · have ab : (ka == 2) = false := by simpa using a2
                    have HN := hide a2
                    clear a2
                    go_wp2_with fail
                    go_ret
                    exact ⟨ret_b (by rw [HS'.out]; simp [HN.out]), HB.out.1⟩
                · have kb4 : (kb == 4) = false := by simpa using k4
                  have HN := hide (And.intro k3 k4)
                  clear k3 k4
                  go_wp2_with fail
                  go_ret
                  exact ⟨ret_b (by rw [HS'.out]; simp [HN.out.1, HN.out.2]), HB.out.1⟩
end Go.Proofs.YtlpmnnkijdbopaaGreatDoor
