/-
  The walk of TypesSelf.
-/
import Derived.Test.YtlpmnnkijdbopaaLexN
import Derived.Test.YtlpmnnkijdbopaaOverWalk
namespace Go.Proofs.Ytlpmnnkijdbopaa
open Go.RowKit Go.Maps

theorem fits_any {n lo hi p : Nat} {T : Ts} {X : TL} {a b : Bs} {w : World} (h : TysX n w lo hi p T X) (ha : a.length ≤ 9223372036854775807) (hb : b.length ≤ 9223372036854775807) : Calls Try.prog 10 #[.pointer (some ⟨p, 0, none⟩), tx a, tx b] w (FitPost (fits T a b) w) :=
  fit_any (a.length + 1) a b w h (by omega) ha hb
theorem base_le (b : Bs) : (base b).length ≤ b.length := List.length_filter_le _ _
theorem wpList_catT {P : Program} {ops : Array Oper} {rest : List Oper} {a : Act} {Q : Exit → Act → World → Prop} {w : World} {dst : Option Tmp} {ty t t2 : TypeId} {pos : String} {af : Array Edge} {x y : Operand} {g : Option (Nat × Bool)} {a' b' : Bs}
    (hx : a.eval x = tx a') (hy : a.eval y = tx b') (hl : a'.length + b'.length ≤ 1000000)
    (hw : Region.wanted { dst := dst, op := .binOp .add t x y t2, type := ty, pos := pos, after := af, guard := g } (yielded ops a.tmps) = true) (h : wpList P ops Q rest (a.put dst (tx (a' ++ b'))) w) :
    wpList P ops Q ({ dst := dst, op := .binOp .add t x y t2, type := ty, pos := pos, after := af, guard := g } :: rest) a w :=
  wpList_step fun _ hK => by
    rw [if_pos hw]
    have hrun : (binOp .add t (tx a') (tx b')).run P w = .ok (tx (a' ++ b')) w := by
      have := run_string_add_sum (P := P) w ⟨a'.toArray⟩ ⟨b'.toArray⟩ (by rw [sz_tx, sz_tx]; omega)
      rw [tx_app] at this
      exact this
    unfold Oper.wp execOp
    simp only [hx, hy, eqGuard_add, Sem.run_bind, Sem.run_pure, hrun, Result.andThen_ok]
    exact hK _ _ h
set_option maxRecDepth 20000 in
set_option maxHeartbeats 3200000 in
theorem self_any {n : Nat} {l : List Td} {A : Option Addr} {a b : Bs} {w : World} (c : Nat) (h : Sl w (fun b => b < w.heap.size) 7 A (RT w (fun b => b < w.heap.size) n) l) (ha : a.length ≤ maxLen) (hb : b.length ≤ maxLen) :
    Calls Try.prog 3 #[.slice A l.length c, tx a, tx b] w (Yes w) := by
  have H := hide (And.intro h (And.intro ha hb))
  clear h ha hb
  go_enter Try.func3, Try.ntmps3
  go_upto_region 1 with fail
  go_cut [40] (fun s40 wx => ∃ q : Bool, s40 = .bool q ∧ Hid (Below w.heap.size w wx ∧ (q = false → FewL n l ∧ a.length ≤ 300 ∧ b.length ≤ 300 ∧ WfT (91 :: (a ++ [93])) ∧ WfT (91 :: (b ++ [93])))))
  case first =>
    go_wp2_with fail
    refine (awake_any w).mono ?_
    rintro e w1 ⟨rfl, hb1⟩
    have H1 := hide hb1
    clear hb1
    go_wp2_with fail
    have hsl := H.out.1.map (S' := fun b => b < w1.heap.size) (fun b h => Nat.lt_of_lt_of_le h H1.out.size) (fun b h => H1.out.block b h) (fun _ _ h => RT.map (S' := fun b => b < w1.heap.size) (fun b h => Nat.lt_of_lt_of_le h H1.out.size) (fun b h => H1.out.block b h) _ _ h)
    have HL := hide hsl
    clear hsl
    refine (fewtypes_any c HL.out (fun _ h => h)).mono ?_
    rintro e w2 ⟨r, rfl, hr, hb2⟩
    have H2 := hide (And.intro hr (H1.out.trans (hb2.mono H1.out.size)))
    clear hr hb2
    cases r with
    | false =>
      go_wp2
      go_meet
      exact ⟨true, rfl, hide ⟨H2.out.2, fun h => absurd h (by decide)⟩⟩
    | true =>
      by_cases la : (a.length : Int) ≤ 300
      · by_cases lb : (b.length : Int) ≤ 300
        · have LEN := hide (And.intro (show a.length ≤ 300 by omega) (And.intro (show b.length ≤ 300 by omega) (And.intro (nu_le a) (nu_le b))))
          go_wp2_with (first | ((with_reducible show wpList _ _ _ ({ dst := _, op := .binOp .add 9 _ _ 9, type := _, pos := _, after := _, guard := _ } :: _) _ _); refine wpList_catT (a' := [91]) (b' := a) rfl rfl (by have := LEN.out.1; have := LEN.out.2.1; have := LEN.out.2.2.1; have := LEN.out.2.2.2; simp; omega) (rfl) ?_) | ((with_reducible show wpList _ _ _ ({ dst := _, op := .binOp .add 9 _ _ 9, type := _, pos := _, after := _, guard := _ } :: _) _ _); refine wpList_catT (a' := [91] ++ a) (b' := [93]) rfl rfl (by have := LEN.out.1; have := LEN.out.2.1; have := LEN.out.2.2.1; have := LEN.out.2.2.2; simp; omega) (rfl) ?_) | ((with_reducible show wpList _ _ _ ({ dst := _, op := .binOp .add 9 _ _ 9, type := _, pos := _, after := _, guard := _ } :: _) _ _); refine wpList_catT (a' := [91]) (b' := b) rfl rfl (by have := LEN.out.1; have := LEN.out.2.1; have := LEN.out.2.2.1; have := LEN.out.2.2.2; simp; omega) (rfl) ?_) | ((with_reducible show wpList _ _ _ ({ dst := _, op := .binOp .add 9 _ _ 9, type := _, pos := _, after := _, guard := _ } :: _) _ _); refine wpList_catT (a' := [91] ++ b) (b' := [93]) rfl rfl (by have := LEN.out.1; have := LEN.out.2.1; have := LEN.out.2.2.1; have := LEN.out.2.2.2; simp; omega) (rfl) ?_) | ((with_reducible show wpList _ _ _ ({ dst := _, op := .binOp .add 9 _ _ 9, type := _, pos := _, after := _, guard := _ } :: _) _ _); refine wpList_catT (a' := nu a) (b' := [33]) rfl rfl (by have := LEN.out.1; have := LEN.out.2.1; have := LEN.out.2.2.1; have := LEN.out.2.2.2; simp; omega) (rfl) ?_) | ((with_reducible show wpList _ _ _ ({ dst := _, op := .binOp .add 9 _ _ 9, type := _, pos := _, after := _, guard := _ } :: _) _ _); refine wpList_catT (a' := nu b) (b' := [33]) rfl rfl (by have := LEN.out.1; have := LEN.out.2.1; have := LEN.out.2.2.1; have := LEN.out.2.2.2; simp; omega) (rfl) ?_))
          refine (typed_any ([91] ++ a ++ [93]) _ (by have := LEN.out.1; simp; omega)).mono ?_
          rintro e w3 ⟨q1, rfl, hq1, hb3⟩
          have H3 := hide (And.intro hq1 (H2.out.2.trans (hb3.mono H2.out.2.size)))
          clear hq1 hb3
          cases q1 with
          | false =>
            go_wp2
            go_meet
            exact ⟨true, rfl, hide ⟨H3.out.2, fun h => absurd h (by decide)⟩⟩
          | true =>
            go_wp2_with (first | ((with_reducible show wpList _ _ _ ({ dst := _, op := .binOp .add 9 _ _ 9, type := _, pos := _, after := _, guard := _ } :: _) _ _); refine wpList_catT (a' := [91]) (b' := a) rfl rfl (by have := LEN.out.1; have := LEN.out.2.1; have := LEN.out.2.2.1; have := LEN.out.2.2.2; simp; omega) (rfl) ?_) | ((with_reducible show wpList _ _ _ ({ dst := _, op := .binOp .add 9 _ _ 9, type := _, pos := _, after := _, guard := _ } :: _) _ _); refine wpList_catT (a' := [91] ++ a) (b' := [93]) rfl rfl (by have := LEN.out.1; have := LEN.out.2.1; have := LEN.out.2.2.1; have := LEN.out.2.2.2; simp; omega) (rfl) ?_) | ((with_reducible show wpList _ _ _ ({ dst := _, op := .binOp .add 9 _ _ 9, type := _, pos := _, after := _, guard := _ } :: _) _ _); refine wpList_catT (a' := [91]) (b' := b) rfl rfl (by have := LEN.out.1; have := LEN.out.2.1; have := LEN.out.2.2.1; have := LEN.out.2.2.2; simp; omega) (rfl) ?_) | ((with_reducible show wpList _ _ _ ({ dst := _, op := .binOp .add 9 _ _ 9, type := _, pos := _, after := _, guard := _ } :: _) _ _); refine wpList_catT (a' := [91] ++ b) (b' := [93]) rfl rfl (by have := LEN.out.1; have := LEN.out.2.1; have := LEN.out.2.2.1; have := LEN.out.2.2.2; simp; omega) (rfl) ?_) | ((with_reducible show wpList _ _ _ ({ dst := _, op := .binOp .add 9 _ _ 9, type := _, pos := _, after := _, guard := _ } :: _) _ _); refine wpList_catT (a' := nu a) (b' := [33]) rfl rfl (by have := LEN.out.1; have := LEN.out.2.1; have := LEN.out.2.2.1; have := LEN.out.2.2.2; simp; omega) (rfl) ?_) | ((with_reducible show wpList _ _ _ ({ dst := _, op := .binOp .add 9 _ _ 9, type := _, pos := _, after := _, guard := _ } :: _) _ _); refine wpList_catT (a' := nu b) (b' := [33]) rfl rfl (by have := LEN.out.1; have := LEN.out.2.1; have := LEN.out.2.2.1; have := LEN.out.2.2.2; simp; omega) (rfl) ?_))
            refine (typed_any ([91] ++ b ++ [93]) _ (by have := LEN.out.2.1; simp; omega)).mono ?_
            rintro e w4 ⟨q2, rfl, hq2, hb4⟩
            have H4 := hide (And.intro hq2 (H3.out.2.trans (hb4.mono H3.out.2.size)))
            clear hq2 hb4
            cases q2 with
            | false =>
              go_wp2
              go_meet
              exact ⟨true, rfl, hide ⟨H4.out.2, fun h => absurd h (by decide)⟩⟩
            | true =>
              go_wp2
              go_meet
              exact ⟨false, by congr 1; simp; omega, hide ⟨H4.out.2, fun _ => ⟨H2.out.1 (by trivial), LEN.out.1, LEN.out.2.1, H3.out.1 (by trivial), H4.out.1 (by trivial)⟩⟩⟩
        · go_wp2
          go_meet
          exact ⟨true, rfl, hide ⟨H2.out.2, fun h => absurd h (by decide)⟩⟩
      · go_wp2
        go_meet
        exact ⟨true, rfl, hide ⟨H2.out.2, fun h => absurd h (by decide)⟩⟩
  case rest =>
    obtain ⟨q, rfl, HC⟩ := hcut
    cases q with
    | true =>
      go_wp2_with fail
      refine (awake_any _).mono ?_
      rintro e w3 ⟨rfl, hb3⟩
      have H3 := hide (HC.out.1.trans (hb3.mono HC.out.1.size))
      clear hb3
      go_wp2
      go_ret
      exact ⟨rfl, H3.out⟩
    | false =>
      obtain ⟨hfew, hla, hlb, hwa, hwb⟩ := HC.out.2 rfl
      have LEN := hide (And.intro hla (And.intro hlb (And.intro (nu_le a) (nu_le b))))
      have HF := hide (And.intro hfew (self_ok (mkT l) hwa hwb))
      clear hfew hla hlb hwa hwb
      go_wp2_with fail
      have hsl := H.out.1.map (S' := fun b => b < wc.heap.size) (fun b h => Nat.lt_of_lt_of_le h HC.out.1.size) (fun b h => HC.out.1.block b h) (fun _ _ h => RT.map (S' := fun b => b < wc.heap.size) (fun b h => Nat.lt_of_lt_of_le h HC.out.1.size) (fun b h => HC.out.1.block b h) _ _ h)
      have HL := hide hsl
      clear hsl
      refine (new_any c HL.out (fun _ h => h) HF.out.1).mono ?_
      rintro e w3 ⟨X, rfl, hT, hb3⟩
      obtain ⟨T, hTe⟩ : ∃ T, T = mkT l := ⟨_, rfl⟩
      have hok := HF.out.2
      rw [← hTe] at hT hok
      have OK := hide hok
      have HT0 := hide (And.intro hT (HC.out.1.trans (hb3.mono HC.out.1.size)))
      clear hT hb3 hTe hok
      go_wp2_with fail
      have F := fits_any (a := a) (b := a) HT0.out.1 (by have := LEN.out.1; have := LEN.out.2.1; have := LEN.out.2.2.1; have := LEN.out.2.2.2; simp; try omega) (by have := LEN.out.1; have := LEN.out.2.1; have := LEN.out.2.2.1; have := LEN.out.2.2.2; have := base_le b; simp; try omega)
      rw [OK.out.s1] at F
      have FH := hide F
      clear F
      refine FH.out.mono ?_
      rintro e v1 ⟨rfl, hbv⟩
      have HT1 := hide (And.intro (HT0.out.1.below hbv) (HT0.out.2.trans (hbv.mono HT0.out.2.size)))
      clear hbv FH
      go_wp2_with fail
      refine (rnu_any a _ (by have := LEN.out.1; omega)).mono ?_
      rintro e v1b ⟨rfl, rfl⟩
      go_wp2_with fail
      have F := fits_any (a := a) (b := nu a) HT1.out.1 (by have := LEN.out.1; have := LEN.out.2.1; have := LEN.out.2.2.1; have := LEN.out.2.2.2; simp; try omega) (by have := LEN.out.1; have := LEN.out.2.1; have := LEN.out.2.2.1; have := LEN.out.2.2.2; have := base_le b; simp; try omega)
      rw [OK.out.s2] at F
      have FH := hide F
      clear F
      refine FH.out.mono ?_
      rintro e v2 ⟨rfl, hbv⟩
      have HT2 := hide (And.intro (HT1.out.1.below hbv) (HT1.out.2.trans (hbv.mono HT1.out.2.size)))
      clear hbv FH
      go_wp2_with fail
      refine (rnu_any a _ (by have := LEN.out.1; omega)).mono ?_
      rintro e v2b ⟨rfl, rfl⟩
      go_wp2_with fail
      refine (rnu_any b _ (by have := LEN.out.2.1; omega)).mono ?_
      rintro e v2c ⟨rfl, rfl⟩
      go_wp2_with fail
      obtain ⟨f, hf⟩ : ∃ f, fits T (nu a) (nu b) = f := ⟨_, rfl⟩
      obtain ⟨g, hg⟩ : ∃ g, fits T a b = g := ⟨_, rfl⟩
      have HF2 := hide hf
      have HG2 := hide hg
      have HG := hide (OK.out.s4.trans hg)
      clear hf hg
      have F := fits_any (a := nu a) (b := nu b) HT2.out.1 (by have := LEN.out.1; have := LEN.out.2.1; have := LEN.out.2.2.1; have := LEN.out.2.2.2; simp; try omega) (by have := LEN.out.1; have := LEN.out.2.1; have := LEN.out.2.2.1; have := LEN.out.2.2.2; have := base_le b; simp; try omega)
      rw [HF2.out] at F
      have FH := hide F
      clear F
      refine FH.out.mono ?_
      rintro e v3 ⟨rfl, hbv⟩
      have HT3 := hide (And.intro (HT2.out.1.below hbv) (HT2.out.2.trans (hbv.mono HT2.out.2.size)))
      clear hbv FH
      cases f with
      | true =>
        have S3 := hide (OK.out.s3 HF2.out)
        go_wp2_with (first | ((with_reducible show wpList _ _ _ ({ dst := _, op := .binOp .add 9 _ _ 9, type := _, pos := _, after := _, guard := _ } :: _) _ _); refine wpList_catT (a' := [91]) (b' := a) rfl rfl (by have := LEN.out.1; have := LEN.out.2.1; have := LEN.out.2.2.1; have := LEN.out.2.2.2; simp; omega) (rfl) ?_) | ((with_reducible show wpList _ _ _ ({ dst := _, op := .binOp .add 9 _ _ 9, type := _, pos := _, after := _, guard := _ } :: _) _ _); refine wpList_catT (a' := [91] ++ a) (b' := [93]) rfl rfl (by have := LEN.out.1; have := LEN.out.2.1; have := LEN.out.2.2.1; have := LEN.out.2.2.2; simp; omega) (rfl) ?_) | ((with_reducible show wpList _ _ _ ({ dst := _, op := .binOp .add 9 _ _ 9, type := _, pos := _, after := _, guard := _ } :: _) _ _); refine wpList_catT (a' := [91]) (b' := b) rfl rfl (by have := LEN.out.1; have := LEN.out.2.1; have := LEN.out.2.2.1; have := LEN.out.2.2.2; simp; omega) (rfl) ?_) | ((with_reducible show wpList _ _ _ ({ dst := _, op := .binOp .add 9 _ _ 9, type := _, pos := _, after := _, guard := _ } :: _) _ _); refine wpList_catT (a' := [91] ++ b) (b' := [93]) rfl rfl (by have := LEN.out.1; have := LEN.out.2.1; have := LEN.out.2.2.1; have := LEN.out.2.2.2; simp; omega) (rfl) ?_) | ((with_reducible show wpList _ _ _ ({ dst := _, op := .binOp .add 9 _ _ 9, type := _, pos := _, after := _, guard := _ } :: _) _ _); refine wpList_catT (a' := nu a) (b' := [33]) rfl rfl (by have := LEN.out.1; have := LEN.out.2.1; have := LEN.out.2.2.1; have := LEN.out.2.2.2; simp; omega) (rfl) ?_) | ((with_reducible show wpList _ _ _ ({ dst := _, op := .binOp .add 9 _ _ 9, type := _, pos := _, after := _, guard := _ } :: _) _ _); refine wpList_catT (a' := nu b) (b' := [33]) rfl rfl (by have := LEN.out.1; have := LEN.out.2.1; have := LEN.out.2.2.1; have := LEN.out.2.2.2; simp; omega) (rfl) ?_))
        have F := fits_any (a := nu a ++ [33]) (b := nu b) HT3.out.1 (by have := LEN.out.1; have := LEN.out.2.1; have := LEN.out.2.2.1; have := LEN.out.2.2.2; simp; try omega) (by have := LEN.out.1; have := LEN.out.2.1; have := LEN.out.2.2.1; have := LEN.out.2.2.2; have := base_le b; simp; try omega)
        rw [S3.out.1] at F
        have FH := hide F
        clear F
        refine FH.out.mono ?_
        rintro e v3a ⟨rfl, hbv⟩
        have HT3a := hide (And.intro (HT3.out.1.below hbv) (HT3.out.2.trans (hbv.mono HT3.out.2.size)))
        clear hbv FH
        go_wp2_with (first | ((with_reducible show wpList _ _ _ ({ dst := _, op := .binOp .add 9 _ _ 9, type := _, pos := _, after := _, guard := _ } :: _) _ _); refine wpList_catT (a' := [91]) (b' := a) rfl rfl (by have := LEN.out.1; have := LEN.out.2.1; have := LEN.out.2.2.1; have := LEN.out.2.2.2; simp; omega) (rfl) ?_) | ((with_reducible show wpList _ _ _ ({ dst := _, op := .binOp .add 9 _ _ 9, type := _, pos := _, after := _, guard := _ } :: _) _ _); refine wpList_catT (a' := [91] ++ a) (b' := [93]) rfl rfl (by have := LEN.out.1; have := LEN.out.2.1; have := LEN.out.2.2.1; have := LEN.out.2.2.2; simp; omega) (rfl) ?_) | ((with_reducible show wpList _ _ _ ({ dst := _, op := .binOp .add 9 _ _ 9, type := _, pos := _, after := _, guard := _ } :: _) _ _); refine wpList_catT (a' := [91]) (b' := b) rfl rfl (by have := LEN.out.1; have := LEN.out.2.1; have := LEN.out.2.2.1; have := LEN.out.2.2.2; simp; omega) (rfl) ?_) | ((with_reducible show wpList _ _ _ ({ dst := _, op := .binOp .add 9 _ _ 9, type := _, pos := _, after := _, guard := _ } :: _) _ _); refine wpList_catT (a' := [91] ++ b) (b' := [93]) rfl rfl (by have := LEN.out.1; have := LEN.out.2.1; have := LEN.out.2.2.1; have := LEN.out.2.2.2; simp; omega) (rfl) ?_) | ((with_reducible show wpList _ _ _ ({ dst := _, op := .binOp .add 9 _ _ 9, type := _, pos := _, after := _, guard := _ } :: _) _ _); refine wpList_catT (a' := nu a) (b' := [33]) rfl rfl (by have := LEN.out.1; have := LEN.out.2.1; have := LEN.out.2.2.1; have := LEN.out.2.2.2; simp; omega) (rfl) ?_) | ((with_reducible show wpList _ _ _ ({ dst := _, op := .binOp .add 9 _ _ 9, type := _, pos := _, after := _, guard := _ } :: _) _ _); refine wpList_catT (a' := nu b) (b' := [33]) rfl rfl (by have := LEN.out.1; have := LEN.out.2.1; have := LEN.out.2.2.1; have := LEN.out.2.2.2; simp; omega) (rfl) ?_))
        have F := fits_any (a := nu a ++ [33]) (b := nu b ++ [33]) HT3a.out.1 (by have := LEN.out.1; have := LEN.out.2.1; have := LEN.out.2.2.1; have := LEN.out.2.2.2; simp; try omega) (by have := LEN.out.1; have := LEN.out.2.1; have := LEN.out.2.2.1; have := LEN.out.2.2.2; have := base_le b; simp; try omega)
        rw [S3.out.2.1] at F
        have FH := hide F
        clear F
        refine FH.out.mono ?_
        rintro e v3b ⟨rfl, hbv⟩
        have HT3b := hide (And.intro (HT3a.out.1.below hbv) (HT3a.out.2.trans (hbv.mono HT3a.out.2.size)))
        clear hbv FH
        go_wp2_with (first | ((with_reducible show wpList _ _ _ ({ dst := _, op := .binOp .add 9 _ _ 9, type := _, pos := _, after := _, guard := _ } :: _) _ _); refine wpList_catT (a' := [91]) (b' := a) rfl rfl (by have := LEN.out.1; have := LEN.out.2.1; have := LEN.out.2.2.1; have := LEN.out.2.2.2; simp; omega) (rfl) ?_) | ((with_reducible show wpList _ _ _ ({ dst := _, op := .binOp .add 9 _ _ 9, type := _, pos := _, after := _, guard := _ } :: _) _ _); refine wpList_catT (a' := [91] ++ a) (b' := [93]) rfl rfl (by have := LEN.out.1; have := LEN.out.2.1; have := LEN.out.2.2.1; have := LEN.out.2.2.2; simp; omega) (rfl) ?_) | ((with_reducible show wpList _ _ _ ({ dst := _, op := .binOp .add 9 _ _ 9, type := _, pos := _, after := _, guard := _ } :: _) _ _); refine wpList_catT (a' := [91]) (b' := b) rfl rfl (by have := LEN.out.1; have := LEN.out.2.1; have := LEN.out.2.2.1; have := LEN.out.2.2.2; simp; omega) (rfl) ?_) | ((with_reducible show wpList _ _ _ ({ dst := _, op := .binOp .add 9 _ _ 9, type := _, pos := _, after := _, guard := _ } :: _) _ _); refine wpList_catT (a' := [91] ++ b) (b' := [93]) rfl rfl (by have := LEN.out.1; have := LEN.out.2.1; have := LEN.out.2.2.1; have := LEN.out.2.2.2; simp; omega) (rfl) ?_) | ((with_reducible show wpList _ _ _ ({ dst := _, op := .binOp .add 9 _ _ 9, type := _, pos := _, after := _, guard := _ } :: _) _ _); refine wpList_catT (a' := nu a) (b' := [33]) rfl rfl (by have := LEN.out.1; have := LEN.out.2.1; have := LEN.out.2.2.1; have := LEN.out.2.2.2; simp; omega) (rfl) ?_) | ((with_reducible show wpList _ _ _ ({ dst := _, op := .binOp .add 9 _ _ 9, type := _, pos := _, after := _, guard := _ } :: _) _ _); refine wpList_catT (a' := nu b) (b' := [33]) rfl rfl (by have := LEN.out.1; have := LEN.out.2.1; have := LEN.out.2.2.1; have := LEN.out.2.2.2; simp; omega) (rfl) ?_))
        have F := fits_any (a := nu a) (b := nu b ++ [33]) HT3b.out.1 (by have := LEN.out.1; have := LEN.out.2.1; have := LEN.out.2.2.1; have := LEN.out.2.2.2; simp; try omega) (by have := LEN.out.1; have := LEN.out.2.1; have := LEN.out.2.2.1; have := LEN.out.2.2.2; have := base_le b; simp; try omega)
        rw [S3.out.2.2] at F
        have FH := hide F
        clear F
        refine FH.out.mono ?_
        rintro e v4 ⟨rfl, hbv⟩
        have HT4 := hide (And.intro (HT3b.out.1.below hbv) (HT3b.out.2.trans (hbv.mono HT3b.out.2.size)))
        clear hbv FH
        go_wp2_with (first | ((with_reducible show wpList _ _ _ ({ dst := _, op := .binOp .add 9 _ _ 9, type := _, pos := _, after := _, guard := _ } :: _) _ _); refine wpList_catT (a' := [91]) (b' := a) rfl rfl (by have := LEN.out.1; have := LEN.out.2.1; have := LEN.out.2.2.1; have := LEN.out.2.2.2; simp; omega) (rfl) ?_) | ((with_reducible show wpList _ _ _ ({ dst := _, op := .binOp .add 9 _ _ 9, type := _, pos := _, after := _, guard := _ } :: _) _ _); refine wpList_catT (a' := [91] ++ a) (b' := [93]) rfl rfl (by have := LEN.out.1; have := LEN.out.2.1; have := LEN.out.2.2.1; have := LEN.out.2.2.2; simp; omega) (rfl) ?_) | ((with_reducible show wpList _ _ _ ({ dst := _, op := .binOp .add 9 _ _ 9, type := _, pos := _, after := _, guard := _ } :: _) _ _); refine wpList_catT (a' := [91]) (b' := b) rfl rfl (by have := LEN.out.1; have := LEN.out.2.1; have := LEN.out.2.2.1; have := LEN.out.2.2.2; simp; omega) (rfl) ?_) | ((with_reducible show wpList _ _ _ ({ dst := _, op := .binOp .add 9 _ _ 9, type := _, pos := _, after := _, guard := _ } :: _) _ _); refine wpList_catT (a' := [91] ++ b) (b' := [93]) rfl rfl (by have := LEN.out.1; have := LEN.out.2.1; have := LEN.out.2.2.1; have := LEN.out.2.2.2; simp; omega) (rfl) ?_) | ((with_reducible show wpList _ _ _ ({ dst := _, op := .binOp .add 9 _ _ 9, type := _, pos := _, after := _, guard := _ } :: _) _ _); refine wpList_catT (a' := nu a) (b' := [33]) rfl rfl (by have := LEN.out.1; have := LEN.out.2.1; have := LEN.out.2.2.1; have := LEN.out.2.2.2; simp; omega) (rfl) ?_) | ((with_reducible show wpList _ _ _ ({ dst := _, op := .binOp .add 9 _ _ 9, type := _, pos := _, after := _, guard := _ } :: _) _ _); refine wpList_catT (a' := nu b) (b' := [33]) rfl rfl (by have := LEN.out.1; have := LEN.out.2.1; have := LEN.out.2.2.1; have := LEN.out.2.2.2; simp; omega) (rfl) ?_))
        have F := fits_any (a := [91] ++ a ++ [93]) (b := [91] ++ b ++ [93]) HT4.out.1 (by have := LEN.out.1; have := LEN.out.2.1; have := LEN.out.2.2.1; have := LEN.out.2.2.2; simp; try omega) (by have := LEN.out.1; have := LEN.out.2.1; have := LEN.out.2.2.1; have := LEN.out.2.2.2; have := base_le b; simp; try omega)
        rw [show fits T ([91] ++ a ++ [93]) ([91] ++ b ++ [93]) = g from HG.out] at F
        have FH := hide F
        clear F
        refine FH.out.mono ?_
        rintro e v5 ⟨rfl, hbv⟩
        have HT5 := hide (And.intro (HT4.out.1.below hbv) (HT4.out.2.trans (hbv.mono HT4.out.2.size)))
        clear hbv FH
        go_wp2_with (first | ((with_reducible show wpList _ _ _ ({ dst := _, op := .binOp .add 9 _ _ 9, type := _, pos := _, after := _, guard := _ } :: _) _ _); refine wpList_catT (a' := [91]) (b' := a) rfl rfl (by have := LEN.out.1; have := LEN.out.2.1; have := LEN.out.2.2.1; have := LEN.out.2.2.2; simp; omega) (rfl) ?_) | ((with_reducible show wpList _ _ _ ({ dst := _, op := .binOp .add 9 _ _ 9, type := _, pos := _, after := _, guard := _ } :: _) _ _); refine wpList_catT (a' := [91] ++ a) (b' := [93]) rfl rfl (by have := LEN.out.1; have := LEN.out.2.1; have := LEN.out.2.2.1; have := LEN.out.2.2.2; simp; omega) (rfl) ?_) | ((with_reducible show wpList _ _ _ ({ dst := _, op := .binOp .add 9 _ _ 9, type := _, pos := _, after := _, guard := _ } :: _) _ _); refine wpList_catT (a' := [91]) (b' := b) rfl rfl (by have := LEN.out.1; have := LEN.out.2.1; have := LEN.out.2.2.1; have := LEN.out.2.2.2; simp; omega) (rfl) ?_) | ((with_reducible show wpList _ _ _ ({ dst := _, op := .binOp .add 9 _ _ 9, type := _, pos := _, after := _, guard := _ } :: _) _ _); refine wpList_catT (a' := [91] ++ b) (b' := [93]) rfl rfl (by have := LEN.out.1; have := LEN.out.2.1; have := LEN.out.2.2.1; have := LEN.out.2.2.2; simp; omega) (rfl) ?_) | ((with_reducible show wpList _ _ _ ({ dst := _, op := .binOp .add 9 _ _ 9, type := _, pos := _, after := _, guard := _ } :: _) _ _); refine wpList_catT (a' := nu a) (b' := [33]) rfl rfl (by have := LEN.out.1; have := LEN.out.2.1; have := LEN.out.2.2.1; have := LEN.out.2.2.2; simp; omega) (rfl) ?_) | ((with_reducible show wpList _ _ _ ({ dst := _, op := .binOp .add 9 _ _ 9, type := _, pos := _, after := _, guard := _ } :: _) _ _); refine wpList_catT (a' := nu b) (b' := [33]) rfl rfl (by have := LEN.out.1; have := LEN.out.2.1; have := LEN.out.2.2.1; have := LEN.out.2.2.2; simp; omega) (rfl) ?_))
        have F := fits_any (a := a) (b := b) HT5.out.1 (by have := LEN.out.1; have := LEN.out.2.1; have := LEN.out.2.2.1; have := LEN.out.2.2.2; simp; try omega) (by have := LEN.out.1; have := LEN.out.2.1; have := LEN.out.2.2.1; have := LEN.out.2.2.2; have := base_le b; simp; try omega)
        rw [show fits T a b = g from HG2.out] at F
        have FH := hide F
        clear F
        refine FH.out.mono ?_
        rintro e v6 ⟨rfl, hbv⟩
        have HT6 := hide (And.intro (HT5.out.1.below hbv) (HT5.out.2.trans (hbv.mono HT5.out.2.size)))
        clear hbv FH
        cases g with
        | true =>
          go_wp2_with (first | ((with_reducible show wpList _ _ _ ({ dst := _, op := .binOp .add 9 _ _ 9, type := _, pos := _, after := _, guard := _ } :: _) _ _); refine wpList_catT (a' := [91]) (b' := a) rfl rfl (by have := LEN.out.1; have := LEN.out.2.1; have := LEN.out.2.2.1; have := LEN.out.2.2.2; simp; omega) (rfl) ?_) | ((with_reducible show wpList _ _ _ ({ dst := _, op := .binOp .add 9 _ _ 9, type := _, pos := _, after := _, guard := _ } :: _) _ _); refine wpList_catT (a' := [91] ++ a) (b' := [93]) rfl rfl (by have := LEN.out.1; have := LEN.out.2.1; have := LEN.out.2.2.1; have := LEN.out.2.2.2; simp; omega) (rfl) ?_) | ((with_reducible show wpList _ _ _ ({ dst := _, op := .binOp .add 9 _ _ 9, type := _, pos := _, after := _, guard := _ } :: _) _ _); refine wpList_catT (a' := [91]) (b' := b) rfl rfl (by have := LEN.out.1; have := LEN.out.2.1; have := LEN.out.2.2.1; have := LEN.out.2.2.2; simp; omega) (rfl) ?_) | ((with_reducible show wpList _ _ _ ({ dst := _, op := .binOp .add 9 _ _ 9, type := _, pos := _, after := _, guard := _ } :: _) _ _); refine wpList_catT (a' := [91] ++ b) (b' := [93]) rfl rfl (by have := LEN.out.1; have := LEN.out.2.1; have := LEN.out.2.2.1; have := LEN.out.2.2.2; simp; omega) (rfl) ?_) | ((with_reducible show wpList _ _ _ ({ dst := _, op := .binOp .add 9 _ _ 9, type := _, pos := _, after := _, guard := _ } :: _) _ _); refine wpList_catT (a' := nu a) (b' := [33]) rfl rfl (by have := LEN.out.1; have := LEN.out.2.1; have := LEN.out.2.2.1; have := LEN.out.2.2.2; simp; omega) (rfl) ?_) | ((with_reducible show wpList _ _ _ ({ dst := _, op := .binOp .add 9 _ _ 9, type := _, pos := _, after := _, guard := _ } :: _) _ _); refine wpList_catT (a' := nu b) (b' := [33]) rfl rfl (by have := LEN.out.1; have := LEN.out.2.1; have := LEN.out.2.2.1; have := LEN.out.2.2.2; simp; omega) (rfl) ?_))
          refine (rbase_any b _ (by have := LEN.out.2.1; omega)).mono ?_
          rintro e v6b ⟨rfl, rfl⟩
          go_wp2_with (first | ((with_reducible show wpList _ _ _ ({ dst := _, op := .binOp .add 9 _ _ 9, type := _, pos := _, after := _, guard := _ } :: _) _ _); refine wpList_catT (a' := [91]) (b' := a) rfl rfl (by have := LEN.out.1; have := LEN.out.2.1; have := LEN.out.2.2.1; have := LEN.out.2.2.2; simp; omega) (rfl) ?_) | ((with_reducible show wpList _ _ _ ({ dst := _, op := .binOp .add 9 _ _ 9, type := _, pos := _, after := _, guard := _ } :: _) _ _); refine wpList_catT (a' := [91] ++ a) (b' := [93]) rfl rfl (by have := LEN.out.1; have := LEN.out.2.1; have := LEN.out.2.2.1; have := LEN.out.2.2.2; simp; omega) (rfl) ?_) | ((with_reducible show wpList _ _ _ ({ dst := _, op := .binOp .add 9 _ _ 9, type := _, pos := _, after := _, guard := _ } :: _) _ _); refine wpList_catT (a' := [91]) (b' := b) rfl rfl (by have := LEN.out.1; have := LEN.out.2.1; have := LEN.out.2.2.1; have := LEN.out.2.2.2; simp; omega) (rfl) ?_) | ((with_reducible show wpList _ _ _ ({ dst := _, op := .binOp .add 9 _ _ 9, type := _, pos := _, after := _, guard := _ } :: _) _ _); refine wpList_catT (a' := [91] ++ b) (b' := [93]) rfl rfl (by have := LEN.out.1; have := LEN.out.2.1; have := LEN.out.2.2.1; have := LEN.out.2.2.2; simp; omega) (rfl) ?_) | ((with_reducible show wpList _ _ _ ({ dst := _, op := .binOp .add 9 _ _ 9, type := _, pos := _, after := _, guard := _ } :: _) _ _); refine wpList_catT (a' := nu a) (b' := [33]) rfl rfl (by have := LEN.out.1; have := LEN.out.2.1; have := LEN.out.2.2.1; have := LEN.out.2.2.2; simp; omega) (rfl) ?_) | ((with_reducible show wpList _ _ _ ({ dst := _, op := .binOp .add 9 _ _ 9, type := _, pos := _, after := _, guard := _ } :: _) _ _); refine wpList_catT (a' := nu b) (b' := [33]) rfl rfl (by have := LEN.out.1; have := LEN.out.2.1; have := LEN.out.2.2.1; have := LEN.out.2.2.2; simp; omega) (rfl) ?_))
          have F := fits_any (a := [91] ++ a ++ [93]) (b := base b) HT6.out.1 (by have := LEN.out.1; have := LEN.out.2.1; have := LEN.out.2.2.1; have := LEN.out.2.2.2; simp; try omega) (by have := LEN.out.1; have := LEN.out.2.1; have := LEN.out.2.2.1; have := LEN.out.2.2.2; have := base_le b; simp; try omega)
          rw [show fits T ([91] ++ a ++ [93]) (base b) = false from OK.out.s5] at F
          have FH := hide F
          clear F
          refine FH.out.mono ?_
          rintro e v7 ⟨rfl, hbv⟩
          have HT7 := hide (And.intro (HT6.out.1.below hbv) (HT6.out.2.trans (hbv.mono HT6.out.2.size)))
          clear hbv FH
          go_wp2
          go_ret
          exact ⟨rfl, HT7.out.2⟩
        | false =>
          go_wp2_with (first | ((with_reducible show wpList _ _ _ ({ dst := _, op := .binOp .add 9 _ _ 9, type := _, pos := _, after := _, guard := _ } :: _) _ _); refine wpList_catT (a' := [91]) (b' := a) rfl rfl (by have := LEN.out.1; have := LEN.out.2.1; have := LEN.out.2.2.1; have := LEN.out.2.2.2; simp; omega) (rfl) ?_) | ((with_reducible show wpList _ _ _ ({ dst := _, op := .binOp .add 9 _ _ 9, type := _, pos := _, after := _, guard := _ } :: _) _ _); refine wpList_catT (a' := [91] ++ a) (b' := [93]) rfl rfl (by have := LEN.out.1; have := LEN.out.2.1; have := LEN.out.2.2.1; have := LEN.out.2.2.2; simp; omega) (rfl) ?_) | ((with_reducible show wpList _ _ _ ({ dst := _, op := .binOp .add 9 _ _ 9, type := _, pos := _, after := _, guard := _ } :: _) _ _); refine wpList_catT (a' := [91]) (b' := b) rfl rfl (by have := LEN.out.1; have := LEN.out.2.1; have := LEN.out.2.2.1; have := LEN.out.2.2.2; simp; omega) (rfl) ?_) | ((with_reducible show wpList _ _ _ ({ dst := _, op := .binOp .add 9 _ _ 9, type := _, pos := _, after := _, guard := _ } :: _) _ _); refine wpList_catT (a' := [91] ++ b) (b' := [93]) rfl rfl (by have := LEN.out.1; have := LEN.out.2.1; have := LEN.out.2.2.1; have := LEN.out.2.2.2; simp; omega) (rfl) ?_) | ((with_reducible show wpList _ _ _ ({ dst := _, op := .binOp .add 9 _ _ 9, type := _, pos := _, after := _, guard := _ } :: _) _ _); refine wpList_catT (a' := nu a) (b' := [33]) rfl rfl (by have := LEN.out.1; have := LEN.out.2.1; have := LEN.out.2.2.1; have := LEN.out.2.2.2; simp; omega) (rfl) ?_) | ((with_reducible show wpList _ _ _ ({ dst := _, op := .binOp .add 9 _ _ 9, type := _, pos := _, after := _, guard := _ } :: _) _ _); refine wpList_catT (a' := nu b) (b' := [33]) rfl rfl (by have := LEN.out.1; have := LEN.out.2.1; have := LEN.out.2.2.1; have := LEN.out.2.2.2; simp; omega) (rfl) ?_))
          refine (rbase_any b _ (by have := LEN.out.2.1; omega)).mono ?_
          rintro e v6b ⟨rfl, rfl⟩
          go_wp2_with (first | ((with_reducible show wpList _ _ _ ({ dst := _, op := .binOp .add 9 _ _ 9, type := _, pos := _, after := _, guard := _ } :: _) _ _); refine wpList_catT (a' := [91]) (b' := a) rfl rfl (by have := LEN.out.1; have := LEN.out.2.1; have := LEN.out.2.2.1; have := LEN.out.2.2.2; simp; omega) (rfl) ?_) | ((with_reducible show wpList _ _ _ ({ dst := _, op := .binOp .add 9 _ _ 9, type := _, pos := _, after := _, guard := _ } :: _) _ _); refine wpList_catT (a' := [91] ++ a) (b' := [93]) rfl rfl (by have := LEN.out.1; have := LEN.out.2.1; have := LEN.out.2.2.1; have := LEN.out.2.2.2; simp; omega) (rfl) ?_) | ((with_reducible show wpList _ _ _ ({ dst := _, op := .binOp .add 9 _ _ 9, type := _, pos := _, after := _, guard := _ } :: _) _ _); refine wpList_catT (a' := [91]) (b' := b) rfl rfl (by have := LEN.out.1; have := LEN.out.2.1; have := LEN.out.2.2.1; have := LEN.out.2.2.2; simp; omega) (rfl) ?_) | ((with_reducible show wpList _ _ _ ({ dst := _, op := .binOp .add 9 _ _ 9, type := _, pos := _, after := _, guard := _ } :: _) _ _); refine wpList_catT (a' := [91] ++ b) (b' := [93]) rfl rfl (by have := LEN.out.1; have := LEN.out.2.1; have := LEN.out.2.2.1; have := LEN.out.2.2.2; simp; omega) (rfl) ?_) | ((with_reducible show wpList _ _ _ ({ dst := _, op := .binOp .add 9 _ _ 9, type := _, pos := _, after := _, guard := _ } :: _) _ _); refine wpList_catT (a' := nu a) (b' := [33]) rfl rfl (by have := LEN.out.1; have := LEN.out.2.1; have := LEN.out.2.2.1; have := LEN.out.2.2.2; simp; omega) (rfl) ?_) | ((with_reducible show wpList _ _ _ ({ dst := _, op := .binOp .add 9 _ _ 9, type := _, pos := _, after := _, guard := _ } :: _) _ _); refine wpList_catT (a' := nu b) (b' := [33]) rfl rfl (by have := LEN.out.1; have := LEN.out.2.1; have := LEN.out.2.2.1; have := LEN.out.2.2.2; simp; omega) (rfl) ?_))
          have F := fits_any (a := [91] ++ a ++ [93]) (b := base b) HT6.out.1 (by have := LEN.out.1; have := LEN.out.2.1; have := LEN.out.2.2.1; have := LEN.out.2.2.2; simp; try omega) (by have := LEN.out.1; have := LEN.out.2.1; have := LEN.out.2.2.1; have := LEN.out.2.2.2; have := base_le b; simp; try omega)
          rw [show fits T ([91] ++ a ++ [93]) (base b) = false from OK.out.s5] at F
          have FH := hide F
          clear F
          refine FH.out.mono ?_
          rintro e v7 ⟨rfl, hbv⟩
          have HT7 := hide (And.intro (HT6.out.1.below hbv) (HT6.out.2.trans (hbv.mono HT6.out.2.size)))
          clear hbv FH
          go_wp2
          go_ret
          exact ⟨rfl, HT7.out.2⟩
      | false =>
        go_wp2_with (first | ((with_reducible show wpList _ _ _ ({ dst := _, op := .binOp .add 9 _ _ 9, type := _, pos := _, after := _, guard := _ } :: _) _ _); refine wpList_catT (a' := [91]) (b' := a) rfl rfl (by have := LEN.out.1; have := LEN.out.2.1; have := LEN.out.2.2.1; have := LEN.out.2.2.2; simp; omega) (rfl) ?_) | ((with_reducible show wpList _ _ _ ({ dst := _, op := .binOp .add 9 _ _ 9, type := _, pos := _, after := _, guard := _ } :: _) _ _); refine wpList_catT (a' := [91] ++ a) (b' := [93]) rfl rfl (by have := LEN.out.1; have := LEN.out.2.1; have := LEN.out.2.2.1; have := LEN.out.2.2.2; simp; omega) (rfl) ?_) | ((with_reducible show wpList _ _ _ ({ dst := _, op := .binOp .add 9 _ _ 9, type := _, pos := _, after := _, guard := _ } :: _) _ _); refine wpList_catT (a' := [91]) (b' := b) rfl rfl (by have := LEN.out.1; have := LEN.out.2.1; have := LEN.out.2.2.1; have := LEN.out.2.2.2; simp; omega) (rfl) ?_) | ((with_reducible show wpList _ _ _ ({ dst := _, op := .binOp .add 9 _ _ 9, type := _, pos := _, after := _, guard := _ } :: _) _ _); refine wpList_catT (a' := [91] ++ b) (b' := [93]) rfl rfl (by have := LEN.out.1; have := LEN.out.2.1; have := LEN.out.2.2.1; have := LEN.out.2.2.2; simp; omega) (rfl) ?_) | ((with_reducible show wpList _ _ _ ({ dst := _, op := .binOp .add 9 _ _ 9, type := _, pos := _, after := _, guard := _ } :: _) _ _); refine wpList_catT (a' := nu a) (b' := [33]) rfl rfl (by have := LEN.out.1; have := LEN.out.2.1; have := LEN.out.2.2.1; have := LEN.out.2.2.2; simp; omega) (rfl) ?_) | ((with_reducible show wpList _ _ _ ({ dst := _, op := .binOp .add 9 _ _ 9, type := _, pos := _, after := _, guard := _ } :: _) _ _); refine wpList_catT (a' := nu b) (b' := [33]) rfl rfl (by have := LEN.out.1; have := LEN.out.2.1; have := LEN.out.2.2.1; have := LEN.out.2.2.2; simp; omega) (rfl) ?_))
        have F := fits_any (a := [91] ++ a ++ [93]) (b := [91] ++ b ++ [93]) HT3.out.1 (by have := LEN.out.1; have := LEN.out.2.1; have := LEN.out.2.2.1; have := LEN.out.2.2.2; simp; try omega) (by have := LEN.out.1; have := LEN.out.2.1; have := LEN.out.2.2.1; have := LEN.out.2.2.2; have := base_le b; simp; try omega)
        rw [show fits T ([91] ++ a ++ [93]) ([91] ++ b ++ [93]) = g from HG.out] at F
        have FH := hide F
        clear F
        refine FH.out.mono ?_
        rintro e v5 ⟨rfl, hbv⟩
        have HT5 := hide (And.intro (HT3.out.1.below hbv) (HT3.out.2.trans (hbv.mono HT3.out.2.size)))
        clear hbv FH
        go_wp2_with (first | ((with_reducible show wpList _ _ _ ({ dst := _, op := .binOp .add 9 _ _ 9, type := _, pos := _, after := _, guard := _ } :: _) _ _); refine wpList_catT (a' := [91]) (b' := a) rfl rfl (by have := LEN.out.1; have := LEN.out.2.1; have := LEN.out.2.2.1; have := LEN.out.2.2.2; simp; omega) (rfl) ?_) | ((with_reducible show wpList _ _ _ ({ dst := _, op := .binOp .add 9 _ _ 9, type := _, pos := _, after := _, guard := _ } :: _) _ _); refine wpList_catT (a' := [91] ++ a) (b' := [93]) rfl rfl (by have := LEN.out.1; have := LEN.out.2.1; have := LEN.out.2.2.1; have := LEN.out.2.2.2; simp; omega) (rfl) ?_) | ((with_reducible show wpList _ _ _ ({ dst := _, op := .binOp .add 9 _ _ 9, type := _, pos := _, after := _, guard := _ } :: _) _ _); refine wpList_catT (a' := [91]) (b' := b) rfl rfl (by have := LEN.out.1; have := LEN.out.2.1; have := LEN.out.2.2.1; have := LEN.out.2.2.2; simp; omega) (rfl) ?_) | ((with_reducible show wpList _ _ _ ({ dst := _, op := .binOp .add 9 _ _ 9, type := _, pos := _, after := _, guard := _ } :: _) _ _); refine wpList_catT (a' := [91] ++ b) (b' := [93]) rfl rfl (by have := LEN.out.1; have := LEN.out.2.1; have := LEN.out.2.2.1; have := LEN.out.2.2.2; simp; omega) (rfl) ?_) | ((with_reducible show wpList _ _ _ ({ dst := _, op := .binOp .add 9 _ _ 9, type := _, pos := _, after := _, guard := _ } :: _) _ _); refine wpList_catT (a' := nu a) (b' := [33]) rfl rfl (by have := LEN.out.1; have := LEN.out.2.1; have := LEN.out.2.2.1; have := LEN.out.2.2.2; simp; omega) (rfl) ?_) | ((with_reducible show wpList _ _ _ ({ dst := _, op := .binOp .add 9 _ _ 9, type := _, pos := _, after := _, guard := _ } :: _) _ _); refine wpList_catT (a' := nu b) (b' := [33]) rfl rfl (by have := LEN.out.1; have := LEN.out.2.1; have := LEN.out.2.2.1; have := LEN.out.2.2.2; simp; omega) (rfl) ?_))
        have F := fits_any (a := a) (b := b) HT5.out.1 (by have := LEN.out.1; have := LEN.out.2.1; have := LEN.out.2.2.1; have := LEN.out.2.2.2; simp; try omega) (by have := LEN.out.1; have := LEN.out.2.1; have := LEN.out.2.2.1; have := LEN.out.2.2.2; have := base_le b; simp; try omega)
        rw [show fits T a b = g from HG2.out] at F
        have FH := hide F
        clear F
        refine FH.out.mono ?_
        rintro e v6 ⟨rfl, hbv⟩
        have HT6 := hide (And.intro (HT5.out.1.below hbv) (HT5.out.2.trans (hbv.mono HT5.out.2.size)))
        clear hbv FH
        cases g with
        | true =>
          go_wp2_with (first | ((with_reducible show wpList _ _ _ ({ dst := _, op := .binOp .add 9 _ _ 9, type := _, pos := _, after := _, guard := _ } :: _) _ _); refine wpList_catT (a' := [91]) (b' := a) rfl rfl (by have := LEN.out.1; have := LEN.out.2.1; have := LEN.out.2.2.1; have := LEN.out.2.2.2; simp; omega) (rfl) ?_) | ((with_reducible show wpList _ _ _ ({ dst := _, op := .binOp .add 9 _ _ 9, type := _, pos := _, after := _, guard := _ } :: _) _ _); refine wpList_catT (a' := [91] ++ a) (b' := [93]) rfl rfl (by have := LEN.out.1; have := LEN.out.2.1; have := LEN.out.2.2.1; have := LEN.out.2.2.2; simp; omega) (rfl) ?_) | ((with_reducible show wpList _ _ _ ({ dst := _, op := .binOp .add 9 _ _ 9, type := _, pos := _, after := _, guard := _ } :: _) _ _); refine wpList_catT (a' := [91]) (b' := b) rfl rfl (by have := LEN.out.1; have := LEN.out.2.1; have := LEN.out.2.2.1; have := LEN.out.2.2.2; simp; omega) (rfl) ?_) | ((with_reducible show wpList _ _ _ ({ dst := _, op := .binOp .add 9 _ _ 9, type := _, pos := _, after := _, guard := _ } :: _) _ _); refine wpList_catT (a' := [91] ++ b) (b' := [93]) rfl rfl (by have := LEN.out.1; have := LEN.out.2.1; have := LEN.out.2.2.1; have := LEN.out.2.2.2; simp; omega) (rfl) ?_) | ((with_reducible show wpList _ _ _ ({ dst := _, op := .binOp .add 9 _ _ 9, type := _, pos := _, after := _, guard := _ } :: _) _ _); refine wpList_catT (a' := nu a) (b' := [33]) rfl rfl (by have := LEN.out.1; have := LEN.out.2.1; have := LEN.out.2.2.1; have := LEN.out.2.2.2; simp; omega) (rfl) ?_) | ((with_reducible show wpList _ _ _ ({ dst := _, op := .binOp .add 9 _ _ 9, type := _, pos := _, after := _, guard := _ } :: _) _ _); refine wpList_catT (a' := nu b) (b' := [33]) rfl rfl (by have := LEN.out.1; have := LEN.out.2.1; have := LEN.out.2.2.1; have := LEN.out.2.2.2; simp; omega) (rfl) ?_))
          refine (rbase_any b _ (by have := LEN.out.2.1; omega)).mono ?_
          rintro e v6b ⟨rfl, rfl⟩
          go_wp2_with (first | ((with_reducible show wpList _ _ _ ({ dst := _, op := .binOp .add 9 _ _ 9, type := _, pos := _, after := _, guard := _ } :: _) _ _); refine wpList_catT (a' := [91]) (b' := a) rfl rfl (by have := LEN.out.1; have := LEN.out.2.1; have := LEN.out.2.2.1; have := LEN.out.2.2.2; simp; omega) (rfl) ?_) | ((with_reducible show wpList _ _ _ ({ dst := _, op := .binOp .add 9 _ _ 9, type := _, pos := _, after := _, guard := _ } :: _) _ _); refine wpList_catT (a' := [91] ++ a) (b' := [93]) rfl rfl (by have := LEN.out.1; have := LEN.out.2.1; have := LEN.out.2.2.1; have := LEN.out.2.2.2; simp; omega) (rfl) ?_) | ((with_reducible show wpList _ _ _ ({ dst := _, op := .binOp .add 9 _ _ 9, type := _, pos := _, after := _, guard := _ } :: _) _ _); refine wpList_catT (a' := [91]) (b' := b) rfl rfl (by have := LEN.out.1; have := LEN.out.2.1; have := LEN.out.2.2.1; have := LEN.out.2.2.2; simp; omega) (rfl) ?_) | ((with_reducible show wpList _ _ _ ({ dst := _, op := .binOp .add 9 _ _ 9, type := _, pos := _, after := _, guard := _ } :: _) _ _); refine wpList_catT (a' := [91] ++ b) (b' := [93]) rfl rfl (by have := LEN.out.1; have := LEN.out.2.1; have := LEN.out.2.2.1; have := LEN.out.2.2.2; simp; omega) (rfl) ?_) | ((with_reducible show wpList _ _ _ ({ dst := _, op := .binOp .add 9 _ _ 9, type := _, pos := _, after := _, guard := _ } :: _) _ _); refine wpList_catT (a' := nu a) (b' := [33]) rfl rfl (by have := LEN.out.1; have := LEN.out.2.1; have := LEN.out.2.2.1; have := LEN.out.2.2.2; simp; omega) (rfl) ?_) | ((with_reducible show wpList _ _ _ ({ dst := _, op := .binOp .add 9 _ _ 9, type := _, pos := _, after := _, guard := _ } :: _) _ _); refine wpList_catT (a' := nu b) (b' := [33]) rfl rfl (by have := LEN.out.1; have := LEN.out.2.1; have := LEN.out.2.2.1; have := LEN.out.2.2.2; simp; omega) (rfl) ?_))
          have F := fits_any (a := [91] ++ a ++ [93]) (b := base b) HT6.out.1 (by have := LEN.out.1; have := LEN.out.2.1; have := LEN.out.2.2.1; have := LEN.out.2.2.2; simp; try omega) (by have := LEN.out.1; have := LEN.out.2.1; have := LEN.out.2.2.1; have := LEN.out.2.2.2; have := base_le b; simp; try omega)
          rw [show fits T ([91] ++ a ++ [93]) (base b) = false from OK.out.s5] at F
          have FH := hide F
          clear F
          refine FH.out.mono ?_
          rintro e v7 ⟨rfl, hbv⟩
          have HT7 := hide (And.intro (HT6.out.1.below hbv) (HT6.out.2.trans (hbv.mono HT6.out.2.size)))
          clear hbv FH
          go_wp2
          go_ret
          exact ⟨rfl, HT7.out.2⟩
        | false =>
          go_wp2_with (first | ((with_reducible show wpList _ _ _ ({ dst := _, op := .binOp .add 9 _ _ 9, type := _, pos := _, after := _, guard := _ } :: _) _ _); refine wpList_catT (a' := [91]) (b' := a) rfl rfl (by have := LEN.out.1; have := LEN.out.2.1; have := LEN.out.2.2.1; have := LEN.out.2.2.2; simp; omega) (rfl) ?_) | ((with_reducible show wpList _ _ _ ({ dst := _, op := .binOp .add 9 _ _ 9, type := _, pos := _, after := _, guard := _ } :: _) _ _); refine wpList_catT (a' := [91] ++ a) (b' := [93]) rfl rfl (by have := LEN.out.1; have := LEN.out.2.1; have := LEN.out.2.2.1; have := LEN.out.2.2.2; simp; omega) (rfl) ?_) | ((with_reducible show wpList _ _ _ ({ dst := _, op := .binOp .add 9 _ _ 9, type := _, pos := _, after := _, guard := _ } :: _) _ _); refine wpList_catT (a' := [91]) (b' := b) rfl rfl (by have := LEN.out.1; have := LEN.out.2.1; have := LEN.out.2.2.1; have := LEN.out.2.2.2; simp; omega) (rfl) ?_) | ((with_reducible show wpList _ _ _ ({ dst := _, op := .binOp .add 9 _ _ 9, type := _, pos := _, after := _, guard := _ } :: _) _ _); refine wpList_catT (a' := [91] ++ b) (b' := [93]) rfl rfl (by have := LEN.out.1; have := LEN.out.2.1; have := LEN.out.2.2.1; have := LEN.out.2.2.2; simp; omega) (rfl) ?_) | ((with_reducible show wpList _ _ _ ({ dst := _, op := .binOp .add 9 _ _ 9, type := _, pos := _, after := _, guard := _ } :: _) _ _); refine wpList_catT (a' := nu a) (b' := [33]) rfl rfl (by have := LEN.out.1; have := LEN.out.2.1; have := LEN.out.2.2.1; have := LEN.out.2.2.2; simp; omega) (rfl) ?_) | ((with_reducible show wpList _ _ _ ({ dst := _, op := .binOp .add 9 _ _ 9, type := _, pos := _, after := _, guard := _ } :: _) _ _); refine wpList_catT (a' := nu b) (b' := [33]) rfl rfl (by have := LEN.out.1; have := LEN.out.2.1; have := LEN.out.2.2.1; have := LEN.out.2.2.2; simp; omega) (rfl) ?_))
          refine (rbase_any b _ (by have := LEN.out.2.1; omega)).mono ?_
          rintro e v6b ⟨rfl, rfl⟩
          go_wp2_with (first | ((with_reducible show wpList _ _ _ ({ dst := _, op := .binOp .add 9 _ _ 9, type := _, pos := _, after := _, guard := _ } :: _) _ _); refine wpList_catT (a' := [91]) (b' := a) rfl rfl (by have := LEN.out.1; have := LEN.out.2.1; have := LEN.out.2.2.1; have := LEN.out.2.2.2; simp; omega) (rfl) ?_) | ((with_reducible show wpList _ _ _ ({ dst := _, op := .binOp .add 9 _ _ 9, type := _, pos := _, after := _, guard := _ } :: _) _ _); refine wpList_catT (a' := [91] ++ a) (b' := [93]) rfl rfl (by have := LEN.out.1; have := LEN.out.2.1; have := LEN.out.2.2.1; have := LEN.out.2.2.2; simp; omega) (rfl) ?_) | ((with_reducible show wpList _ _ _ ({ dst := _, op := .binOp .add 9 _ _ 9, type := _, pos := _, after := _, guard := _ } :: _) _ _); refine wpList_catT (a' := [91]) (b' := b) rfl rfl (by have := LEN.out.1; have := LEN.out.2.1; have := LEN.out.2.2.1; have := LEN.out.2.2.2; simp; omega) (rfl) ?_) | ((with_reducible show wpList _ _ _ ({ dst := _, op := .binOp .add 9 _ _ 9, type := _, pos := _, after := _, guard := _ } :: _) _ _); refine wpList_catT (a' := [91] ++ b) (b' := [93]) rfl rfl (by have := LEN.out.1; have := LEN.out.2.1; have := LEN.out.2.2.1; have := LEN.out.2.2.2; simp; omega) (rfl) ?_) | ((with_reducible show wpList _ _ _ ({ dst := _, op := .binOp .add 9 _ _ 9, type := _, pos := _, after := _, guard := _ } :: _) _ _); refine wpList_catT (a' := nu a) (b' := [33]) rfl rfl (by have := LEN.out.1; have := LEN.out.2.1; have := LEN.out.2.2.1; have := LEN.out.2.2.2; simp; omega) (rfl) ?_) | ((with_reducible show wpList _ _ _ ({ dst := _, op := .binOp .add 9 _ _ 9, type := _, pos := _, after := _, guard := _ } :: _) _ _); refine wpList_catT (a' := nu b) (b' := [33]) rfl rfl (by have := LEN.out.1; have := LEN.out.2.1; have := LEN.out.2.2.1; have := LEN.out.2.2.2; simp; omega) (rfl) ?_))
          have F := fits_any (a := [91] ++ a ++ [93]) (b := base b) HT6.out.1 (by have := LEN.out.1; have := LEN.out.2.1; have := LEN.out.2.2.1; have := LEN.out.2.2.2; simp; try omega) (by have := LEN.out.1; have := LEN.out.2.1; have := LEN.out.2.2.1; have := LEN.out.2.2.2; have := base_le b; simp; try omega)
          rw [show fits T ([91] ++ a ++ [93]) (base b) = false from OK.out.s5] at F
          have FH := hide F
          clear F
          refine FH.out.mono ?_
          rintro e v7 ⟨rfl, hbv⟩
          have HT7 := hide (And.intro (HT6.out.1.below hbv) (HT6.out.2.trans (hbv.mono HT6.out.2.size)))
          clear hbv FH
          go_wp2
          go_ret
          exact ⟨rfl, HT7.out.2⟩
end Go.Proofs.Ytlpmnnkijdbopaa
