/-
  The walk of TypesFits.
-/
import Derived.Test.YtlpmnnkijdbopaaGreatDoorFitsW
import Derived.Test.YtlpmnnkijdbopaaGreatDoorInOut
namespace Go.Proofs.YtlpmnnkijdbopaaGreatDoor
open Go.RowKit Go.Maps

def Yes (w : World) (e : Ending) (w' : World) : Prop := e = .returned (.bool true) ∧ Below w.heap.size w w'
theorem fits_any {n lo hi p : Nat} {T : Ts} {X : TL} {a b : Bs} {w : World} (h : TysX n w lo hi p T X) (ha : a.length ≤ 9223372036854775807) (hb : b.length ≤ 9223372036854775807) : Calls Tryz.prog 8 #[.pointer (some ⟨p, 0, none⟩), tx a, tx b] w (FitPost (fits T a b) w) :=
  fit_any (a.length + 1) a b w h (by omega) ha hb
set_option maxRecDepth 20000 in
set_option maxHeartbeats 3200000 in
theorem fitsLaw_any {n : Nat} {l : List Td} {A : Option Addr} {a b : Bs} {w : World} (c : Nat) (h : Sl w (fun b => b < w.heap.size) 7 A (RT w (fun b => b < w.heap.size) n) l) (ha : a.length ≤ maxLen) (hb : b.length ≤ maxLen) :
    Calls Tryz.prog 3 #[.slice A l.length c, tx a, tx b] w (Yes w) := by
  have H := hide (And.intro h (And.intro ha hb))
  clear h ha hb
  go_enter Tryz.func3, Tryz.ntmps3
  go_upto_region 1 with fail
  go_cut [34] (fun s34 wx => ∃ q : Bool, s34 = .bool q ∧ Hid (Below w.heap.size w wx ∧ (q = false → FewL n l ∧ a.length ≤ 300 ∧ b.length ≤ 300 ∧ WfT a ∧ WfT b)))
  case first =>
    go_wp2_with fail
    refine (awake_any w).mono ?_
    rintro e w1 ⟨rfl, hb1⟩
    have H1 := hide hb1
    clear hb1
    go_wp2_with fail
    have hsl := H.out.1.map (S' := fun b => b < w1.heap.size) (fun b h => Nat.lt_of_lt_of_le h H1.out.size) (fun b h => H1.out.block b h) (fun _ _ h => RT.map (S' := fun b => b < w1.heap.size) (fun b h => Nat.lt_of_lt_of_le h H1.out.size) (fun b h => H1.out.block b h) _ _ h)
    have HL := hide hsl
    clear hsl
    refine (fewtypes_any c HL.out (fun _ h => h)).mono ?_
    rintro e w2 ⟨r, rfl, hr, hb2⟩
    have H2 := hide (And.intro hr (H1.out.trans (hb2.mono H1.out.size)))
    clear hr hb2
    cases r with
    | false =>
      go_wp2
      go_meet
      exact ⟨true, rfl, hide ⟨H2.out.2, fun h => absurd h (by decide)⟩⟩
    | true =>
      by_cases la : (a.length : Int) ≤ 300
      · by_cases lb : (b.length : Int) ≤ 300
        · have LEN := hide (And.intro (show a.length ≤ 300 by omega) (show b.length ≤ 300 by omega))
          go_wp2_with fail
          refine (typed_any a _ (by have := LEN.out.1; omega)).mono ?_
          rintro e w3 ⟨q1, rfl, hq1, hb3⟩
          have H3 := hide (And.intro hq1 (H2.out.2.trans (hb3.mono H2.out.2.size)))
          clear hq1 hb3
          cases q1 with
          | false =>
            go_wp2
            go_meet
            exact ⟨true, rfl, hide ⟨H3.out.2, fun h => absurd h (by decide)⟩⟩
          | true =>
            go_wp2_with fail
            refine (typed_any b _ (by have := LEN.out.2; omega)).mono ?_
            rintro e w4 ⟨q2, rfl, hq2, hb4⟩
            have H4 := hide (And.intro hq2 (H3.out.2.trans (hb4.mono H3.out.2.size)))
            clear hq2 hb4
            cases q2 with
            | false =>
              go_wp2
              go_meet
              exact ⟨true, rfl, hide ⟨H4.out.2, fun h => absurd h (by decide)⟩⟩
            | true =>
              go_wp2
              go_meet
              exact ⟨false, by congr 1; simp; omega, hide ⟨H4.out.2, fun _ => ⟨H2.out.1 (by trivial), LEN.out.1, LEN.out.2, H3.out.1 (by trivial), H4.out.1 (by trivial)⟩⟩⟩
        · go_wp2
          go_meet
          exact ⟨true, rfl, hide ⟨H2.out.2, fun h => absurd h (by decide)⟩⟩
      · go_wp2
        go_meet
        exact ⟨true, rfl, hide ⟨H2.out.2, fun h => absurd h (by decide)⟩⟩
  case rest =>
    obtain ⟨q, rfl, HC⟩ := hcut
    cases q with
    | true =>
      go_wp2_with fail
      refine (awake_any _).mono ?_
      rintro e w3 ⟨rfl, hb3⟩
      have H3 := hide (HC.out.1.trans (hb3.mono HC.out.1.size))
      clear hb3
      go_wp2
      go_ret
      exact ⟨rfl, H3.out⟩
    | false =>
      obtain ⟨hfew, hla, hlb, hwa, hwb⟩ := HC.out.2 rfl
      have HF := hide (And.intro hfew (And.intro hla (And.intro hlb (And.intro hwa hwb))))
      clear hfew hla hlb hwa hwb
      go_wp2_with fail
      have hsl := H.out.1.map (S' := fun b => b < wc.heap.size) (fun b h => Nat.lt_of_lt_of_le h HC.out.1.size) (fun b h => HC.out.1.block b h) (fun _ _ h => RT.map (S' := fun b => b < wc.heap.size) (fun b h => Nat.lt_of_lt_of_le h HC.out.1.size) (fun b h => HC.out.1.block b h) _ _ h)
      have HL := hide (show Lt n wc (fun b => b < wc.heap.size) A l from ⟨hsl, fun _ h => h, HF.out.1⟩)
      clear hsl
      refine (new_any c HL.out.sl (fun _ h => h) HF.out.1).mono ?_
      rintro e w3 ⟨X, rfl, hT, hb3⟩
      have HT0 := hide (And.intro hT (And.intro (HC.out.1.trans (hb3.mono HC.out.1.size)) (HL.out.more hb3)))
      clear hT hb3
      obtain ⟨f, hf⟩ : ∃ f, f = fits (mkT l) a b := ⟨_, rfl⟩
      obtain ⟨i, hi⟩ : ∃ i, i = isK (mkT l) (base a) [1, 5, 6] := ⟨_, rfl⟩
      obtain ⟨o, ho⟩ : ∃ o, o = isK (mkT l) (base a) [1, 5, 2, 3, 4] := ⟨_, rfl⟩
      have HE := hide (And.intro hf (And.intro hi ho))
      clear hf hi ho
      go_wp2_with fail
      have F := fits_any (a := a) (b := b) HT0.out.1 (by have := HF.out.2.1; omega) (by have := HF.out.2.2.1; omega)
      rw [← HE.out.1] at F
      have FH := hide F
      clear F
      refine FH.out.mono ?_
      rintro e v1 ⟨rfl, hbv⟩
      have HT1 := hide (And.intro (HT0.out.1.below hbv) (And.intro (HT0.out.2.1.trans (hbv.mono HT0.out.2.1.size)) (HT0.out.2.2.more hbv)))
      clear hbv FH
      go_wp2_with fail
      have F := rfits_any c (a.length + 1) a b _ (by omega) HF.out.2.2.2.1 HF.out.2.2.2.2 (by have := HF.out.2.1; omega) (by have := HF.out.2.2.1; omega) HT1.out.2.2
      rw [← HE.out.1] at F
      have FH := hide F
      clear F
      refine FH.out.mono ?_
      rintro e v2 ⟨rfl, hbv⟩
      have HT2 := hide (And.intro (HT1.out.1.below hbv) (And.intro (HT1.out.2.1.trans (hbv.mono HT1.out.2.1.size)) (HT1.out.2.2.more hbv)))
      clear hbv FH
      cases f with
      | true =>
        go_wp2_with fail
        have F := input_any HT2.out.1 HF.out.2.2.2.1 (by have := HF.out.2.1; omega)
        rw [← HE.out.2.1] at F
        have FH := hide F
        clear F
        refine FH.out.mono ?_
        rintro e v3 ⟨rfl, hbv⟩
        have HT3 := hide (And.intro (HT2.out.1.below hbv) (And.intro (HT2.out.2.1.trans (hbv.mono HT2.out.2.1.size)) (HT2.out.2.2.more hbv)))
        clear hbv FH
        go_wp2_with fail
        have F := rinput_any (a := a) c HT3.out.2.2 (by have := HF.out.2.1; omega)
        rw [← HE.out.2.1] at F
        have FH := hide F
        clear F
        refine FH.out.mono ?_
        rintro e v4 ⟨rfl, hbv⟩
        have HT4 := hide (And.intro (HT3.out.1.below hbv) (And.intro (HT3.out.2.1.trans (hbv.mono HT3.out.2.1.size)) (HT3.out.2.2.more hbv)))
        clear hbv FH
        cases i with
        | true =>
          go_wp2_with fail
          have F := output_any HT4.out.1 HF.out.2.2.2.1 (by have := HF.out.2.1; omega)
          rw [← HE.out.2.2] at F
          have FH := hide F
          clear F
          refine FH.out.mono ?_
          rintro e v5 ⟨rfl, hbv⟩
          have HT5 := hide (And.intro (HT4.out.1.below hbv) (And.intro (HT4.out.2.1.trans (hbv.mono HT4.out.2.1.size)) (HT4.out.2.2.more hbv)))
          clear hbv FH
          go_wp2_with fail
          have F := routput_any (a := a) c HT5.out.2.2 (by have := HF.out.2.1; omega)
          rw [← HE.out.2.2] at F
          have FH := hide F
          clear F
          refine FH.out.mono ?_
          rintro e v6 ⟨rfl, hbv⟩
          have HT6 := hide (And.intro (HT5.out.1.below hbv) (And.intro (HT5.out.2.1.trans (hbv.mono HT5.out.2.1.size)) (HT5.out.2.2.more hbv)))
          clear hbv FH
          cases o with
          | true =>
            go_wp2
            go_ret
            exact ⟨rfl, HT6.out.2.1⟩
          | false =>
            go_wp2
            go_ret
            exact ⟨rfl, HT6.out.2.1⟩
        | false =>
          go_wp2_with fail
          have F := output_any HT4.out.1 HF.out.2.2.2.1 (by have := HF.out.2.1; omega)
          rw [← HE.out.2.2] at F
          have FH := hide F
          clear F
          refine FH.out.mono ?_
          rintro e v5 ⟨rfl, hbv⟩
          have HT5 := hide (And.intro (HT4.out.1.below hbv) (And.intro (HT4.out.2.1.trans (hbv.mono HT4.out.2.1.size)) (HT4.out.2.2.more hbv)))
          clear hbv FH
          go_wp2_with fail
          have F := routput_any (a := a) c HT5.out.2.2 (by have := HF.out.2.1; omega)
          rw [← HE.out.2.2] at F
          have FH := hide F
          clear F
          refine FH.out.mono ?_
          rintro e v6 ⟨rfl, hbv⟩
          have HT6 := hide (And.intro (HT5.out.1.below hbv) (And.intro (HT5.out.2.1.trans (hbv.mono HT5.out.2.1.size)) (HT5.out.2.2.more hbv)))
          clear hbv FH
          cases o with
          | true =>
            go_wp2
            go_ret
            exact ⟨rfl, HT6.out.2.1⟩
          | false =>
            go_wp2
            go_ret
            exact ⟨rfl, HT6.out.2.1⟩
      | false =>
        go_wp2_with fail
        have F := input_any HT2.out.1 HF.out.2.2.2.1 (by have := HF.out.2.1; omega)
        rw [← HE.out.2.1] at F
        have FH := hide F
        clear F
        refine FH.out.mono ?_
        rintro e v3 ⟨rfl, hbv⟩
        have HT3 := hide (And.intro (HT2.out.1.below hbv) (And.intro (HT2.out.2.1.trans (hbv.mono HT2.out.2.1.size)) (HT2.out.2.2.more hbv)))
        clear hbv FH
        go_wp2_with fail
        have F := rinput_any (a := a) c HT3.out.2.2 (by have := HF.out.2.1; omega)
        rw [← HE.out.2.1] at F
        have FH := hide F
        clear F
        refine FH.out.mono ?_
        rintro e v4 ⟨rfl, hbv⟩
        have HT4 := hide (And.intro (HT3.out.1.below hbv) (And.intro (HT3.out.2.1.trans (hbv.mono HT3.out.2.1.size)) (HT3.out.2.2.more hbv)))
        clear hbv FH
        cases i with
        | true =>
          go_wp2_with fail
          have F := output_any HT4.out.1 HF.out.2.2.2.1 (by have := HF.out.2.1; omega)
          rw [← HE.out.2.2] at F
          have FH := hide F
          clear F
          refine FH.out.mono ?_
          rintro e v5 ⟨rfl, hbv⟩
          have HT5 := hide (And.intro (HT4.out.1.below hbv) (And.intro (HT4.out.2.1.trans (hbv.mono HT4.out.2.1.size)) (HT4.out.2.2.more hbv)))
          clear hbv FH
          go_wp2_with fail
          have F := routput_any (a := a) c HT5.out.2.2 (by have := HF.out.2.1; omega)
          rw [← HE.out.2.2] at F
          have FH := hide F
          clear F
          refine FH.out.mono ?_
          rintro e v6 ⟨rfl, hbv⟩
          have HT6 := hide (And.intro (HT5.out.1.below hbv) (And.intro (HT5.out.2.1.trans (hbv.mono HT5.out.2.1.size)) (HT5.out.2.2.more hbv)))
          clear hbv FH
          cases o with
          | true =>
            go_wp2
            go_ret
            exact ⟨rfl, HT6.out.2.1⟩
          | false =>
            go_wp2
            go_ret
            exact ⟨rfl, HT6.out.2.1⟩
        | false =>
          go_wp2_with fail
          have F := output_any HT4.out.1 HF.out.2.2.2.1 (by have := HF.out.2.1; omega)
          rw [← HE.out.2.2] at F
          have FH := hide F
          clear F
          refine FH.out.mono ?_
          rintro e v5 ⟨rfl, hbv⟩
          have HT5 := hide (And.intro (HT4.out.1.below hbv) (And.intro (HT4.out.2.1.trans (hbv.mono HT4.out.2.1.size)) (HT4.out.2.2.more hbv)))
          clear hbv FH
          go_wp2_with fail
          have F := routput_any (a := a) c HT5.out.2.2 (by have := HF.out.2.1; omega)
          rw [← HE.out.2.2] at F
          have FH := hide F
          clear F
          refine FH.out.mono ?_
          rintro e v6 ⟨rfl, hbv⟩
          have HT6 := hide (And.intro (HT5.out.1.below hbv) (And.intro (HT5.out.2.1.trans (hbv.mono HT5.out.2.1.size)) (HT5.out.2.2.more hbv)))
          clear hbv FH
          cases o with
          | true =>
            go_wp2
            go_ret
            exact ⟨rfl, HT6.out.2.1⟩
          | false =>
            go_wp2
            go_ret
            exact ⟨rfl, HT6.out.2.1⟩
end Go.Proofs.YtlpmnnkijdbopaaGreatDoor
