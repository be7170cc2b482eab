/-
  The walk of TypesOverlaps.
-/
import Derived.Test.YtlpmnnkijdbopaaOverLaw
import Derived.Sort.Walk0
namespace Go.Proofs.Ytlpmnnkijdbopaa
open Go.RowKit Go.Maps

def Yes (w : World) (e : Ending) (w' : World) : Prop := e = .returned (.bool true) ∧ Below w.heap.size w w'
set_option maxRecDepth 20000 in
set_option maxHeartbeats 12800000 in
theorem overlaps_any {n : Nat} {l : List Td} {A : Option Addr} {a b : Bs} {w : World} (c : Nat) (h : Sl w (fun b => b < w.heap.size) 7 A (RT w (fun b => b < w.heap.size) n) l) (ha : a.length ≤ maxLen) (hb : b.length ≤ maxLen) :
    Calls Try.prog 4 #[.slice A l.length c, tx a, tx b] w (Yes w) := by
  have H := hide (And.intro h (And.intro ha hb))
  clear h ha hb
  go_enter Try.func4, Try.ntmps4
  go_wp2_with fail
  refine (awake_any w).mono ?_
  rintro e w1 ⟨rfl, hb1⟩
  have H1 := hide hb1
  clear hb1
  go_wp2_with fail
  have hsl := H.out.1.map (S' := fun b => b < w1.heap.size) (fun b h => Nat.lt_of_lt_of_le h H1.out.size) (fun b h => H1.out.block b h) (fun _ _ h => RT.map (S' := fun b => b < w1.heap.size) (fun b h => Nat.lt_of_lt_of_le h H1.out.size) (fun b h => H1.out.block b h) _ _ h)
  have HL := hide hsl
  clear hsl
  refine (fewtypes_any c HL.out (fun _ h => h)).mono ?_
  rintro e w2 ⟨r, rfl, hr, hb2⟩
  have H2 := hide (And.intro hr (H1.out.trans (hb2.mono H1.out.size)))
  clear hr hb2
  cases r with
  | false =>
    go_wp2_with fail
    refine (awake_any w2).mono ?_
    rintro e w3 ⟨rfl, hb3⟩
    have H3 := hide (H2.out.2.trans (hb3.mono H2.out.2.size))
    clear hb3
    go_wp2
    go_ret
    exact ⟨rfl, H3.out⟩
  | true =>
    go_wp2_with fail
    refine (name_any w2 H.out.2.1).mono ?_
    rintro e w3 ⟨r, rfl, hr, rfl⟩
    have HN := hide hr
    clear hr
    cases r with
    | false =>
      go_wp2_with fail
      refine (awake_any w2).mono ?_
      rintro e w3 ⟨rfl, hb3⟩
      have H3 := hide (H2.out.2.trans (hb3.mono H2.out.2.size))
      clear hb3
      go_wp2
      go_ret
      exact ⟨rfl, H3.out⟩
    | true =>
      have hfew := H2.out.1 (by trivial)
      have hgood := HN.out (by trivial)
      have i1 : (l.length : Int) ≤ 80 := by have := hfew.1; omega
      have hsl2 := H.out.1.map (S' := fun b => b < w2.heap.size) (fun b h => Nat.lt_of_lt_of_le h H2.out.2.size) (fun b h => H2.out.2.block b h) (fun _ _ h => RT.map (S' := fun b => b < w2.heap.size) (fun b h => Nat.lt_of_lt_of_le h H2.out.2.size) (fun b h => H2.out.2.block b h) _ _ h)
      have HF := hide (And.intro hfew (And.intro hgood hsl2))
      clear hfew hgood hsl2
      go_wp2_with fail
      go_loop [31] (fun i => ∃ k : Nat, k ≤ l.length ∧ i = .int .i64 k ∧ Hid (∀ d ∈ l.take k, good d.name)) (fun i => l.length - (intOf i).toNat)
      case atStart => exact ⟨0, Nat.zero_le _, rfl, hide (by simp)⟩
      case round =>
        obtain ⟨k, hk, rfl, HR⟩ := hrel
        by_cases hlt : k < l.length
        · obtain ⟨g, o, cs, hA, _, _, hrg, A1, c1, A2, c2, A3, c3, A4, c4, e, hx⟩ := HF.out.2.2 k _ (List.getElem?_eq_getElem hlt)
          subst e
          clear hx
          obtain ⟨d, hd⟩ : ∃ d, d = l[k] := ⟨_, rfl⟩
          rw [← hd] at hrg
          have hc1 : w2.cell? ⟨g, o + k * 7 + 1, none⟩ = some (tx d.name) := hrg 1 _ rfl
          have hdl : d.name.length ≤ maxLen := by have := (HF.out.1.2 l[k] (List.getElem_mem hlt)).name; rw [← hd] at this; unfold maxLen; omega
          have HX := hide (And.intro hA (And.intro hd hdl))
          clear hA hrg hd hdl
          go_wp2_with ((with_reducible show wpList _ _ _ ({ dst := _, op := .indexAddr 22 _ _, type := _, pos := _, after := _, guard := _ } :: _) _ _); refine wpList_index Try.underlying22 Try.sizeT rfl rfl HX.out.1 hlt rfl ?_)
          refine (name_any w2 HX.out.2.2).mono ?_
          rintro e w3 ⟨r, rfl, hr, rfl⟩
          have HQ := hide hr
          clear hr
          cases r with
          | false =>
            go_wp2
            go_ret
            exact ⟨rfl, H2.out.2⟩
          | true =>
            go_wp2
            go_round
            case rel => exact ⟨k + 1, by omega, by go_num, hide (fun x hx => by
              rw [List.take_succ_eq_append_getElem hlt] at hx
              rcases List.mem_append.1 hx with hx | hx
              · exact HR.out x hx
              · rw [List.mem_singleton.1 hx, ← HX.out.2.1]; exact HQ.out (by trivial))⟩
            case measure => simp [intOf]; omega
        · have hall : ∀ d ∈ l, good d.name := by have := HR.out; rw [List.take_of_length_le (by omega)] at this; exact this
          have HP := hide (poss_ok hall HF.out.2.1)
          clear hall
          go_wp2_with fail
          refine (new_any c HF.out.2.2 (fun _ h => h) HF.out.1).mono ?_
          rintro e w3 ⟨X, rfl, hT, hb3⟩
          obtain ⟨T, hTe⟩ : ∃ T, T = mkT l := ⟨_, rfl⟩
          rw [← hTe] at hT HP
          have H3 := hide (And.intro hT (H2.out.2.trans (hb3.mono H2.out.2.size)))
          clear hT hb3 hTe
          go_wp2_with fail
          refine (possible_any H3.out.1 H.out.2.1).mono ?_
          rintro e w4 ⟨A4, rfl, hr4, hb4⟩
          have H4 := hide (And.intro (H3.out.1.below hb4) (And.intro (H3.out.2.trans (hb4.mono H3.out.2.size)) hr4))
          clear hr4 hb4
          go_wp2_with fail
          refine (possible_any H4.out.1 H.out.2.2).mono ?_
          rintro e w5 ⟨A5, rfl, hr5, hb5⟩
          have H5 := hide (And.intro (H4.out.1.below hb5) (And.intro (H4.out.2.1.trans (hb5.mono H4.out.2.1.size)) (And.intro hr5 hb5)))
          clear hr5 hb5
          have hxl : (poss T a).length ≤ 80 := poss_le H5.out.1 a
          have hyl : (poss T b).length ≤ 80 := poss_le H5.out.1 b
          obtain ⟨x, hx⟩ : ∃ x, x = poss T a := ⟨_, rfl⟩
          obtain ⟨y, hy⟩ : ∃ y, y = poss T b := ⟨_, rfl⟩
          have sx : Sl w5 (fun b => b < w5.heap.size) 1 A4 RS x := by
            rw [hx]
            exact (H4.out.2.2.sl (S := fun b => b < w4.heap.size) (fun _ _ h => h)).map (fun b h => Nat.lt_of_lt_of_le h H5.out.2.2.2.size) (fun b h => H5.out.2.2.2.block b h) (fun _ _ h => h)
          have sy : Sl w5 (fun b => b < w5.heap.size) 1 A5 RS y := by rw [hy]; exact H5.out.2.2.1.sl (fun _ _ h => h)
          rw [← hx, ← hy]
          rw [← hx] at hxl
          rw [← hy] at hyl
          have j1 : (x.length : Int) ≤ 80 := by omega
          have j2 : (y.length : Int) ≤ 80 := by omega
          have HXY := hide (And.intro hx (And.intro hy (And.intro sx sy)))
          clear hx hy sx sy hxl hyl
          go_wp2_with fail
          go_loopw [11, 54] (fun cm i wr => ∃ k : Nat, k ≤ x.length ∧ i = .int .i64 k ∧ Hid (cm = .bool (common (x.take k) y) ∧ Below w5.heap.size w5 wr)) (fun _ i _ => x.length - (intOf i).toNat)
          case atStart => exact ⟨0, Nat.zero_le _, rfl, hide ⟨rfl, Below.refl _ _⟩⟩
          case round =>
            obtain ⟨k, hk, rfl, HRr⟩ := hrel
            obtain ⟨hcm, hbr⟩ := HRr.out
            obtain ⟨cb, hcb⟩ : ∃ cb, cb = common (x.take k) y := ⟨_, rfl⟩
            rw [← hcb] at hcm
            subst hcm
            have HC := hide hcb
            have HB := hide hbr
            clear hcb hbr HRr
            have hTr := H5.out.1.below HB.out
            have sxr := HXY.out.2.2.1.below' (fun _ h => h) HB.out
            have syr := HXY.out.2.2.2.below' (fun _ h => h) HB.out
            by_cases hlx : k < x.length
            · obtain ⟨g, o, hAx, _, hc⟩ := rs_at sxr hlx
              obtain ⟨s, hs⟩ : ∃ s, s = x[k] := ⟨_, rfl⟩
              rw [← hs] at hc
              have hmem : s ∈ poss T a := by rw [hs, ← HXY.out.1]; exact List.getElem_mem _
              have hsl : s.length ≤ maxLen := by
                obtain ⟨d, hd, e⟩ := kind2_mem (HP.out.kind s hmem)
                have := (H5.out.1.few d hd).name
                rw [e] at this
                unfold maxLen
                omega
              have K0 := kind_any hTr hsl
              rw [HP.out.kind s hmem] at K0
              have KS := hide K0
              have P0 := possible_any hTr hsl
              unfold PossPost at P0
              rw [HP.out.self s hmem] at P0
              have PS := hide P0
              have HS := hide (And.intro hTr (And.intro (H5.out.2.1.trans (HB.out.mono H5.out.2.1.size)) (And.intro ((fits_eq T a (by omega)).trans (HP.out.fit s hmem) : fit T (s.length + 1) s a = true) hsl)))
              have HXs := hide (And.intro hAx (And.intro hs (And.intro sxr syr)))
              clear K0 P0 hsl hmem hTr hAx hs sxr syr
              cases k with
              | zero =>
                have hc0 : wr.cell? ⟨g, o, none⟩ = some (tx s) := hc
                clear hc
                go_wp2_with ((with_reducible show wpList _ _ _ ({ dst := _, op := .indexAddr 31 _ _, type := _, pos := _, after := _, guard := _ } :: _) _ _); refine wpList_index Try.underlying31 Try.sizeS rfl rfl HXs.out.1 hlx rfl ?_)
                refine KS.out.mono ?_
                rintro e w6 ⟨rfl, rfl⟩
                go_wp2_with fail
                refine PS.out.mono ?_
                rintro e w6 ⟨A6, rfl, hr6, hb6⟩
                have H6 := hide (And.intro (HS.out.1.below hb6) (And.intro (HS.out.2.1.trans (hb6.mono HS.out.2.1.size)) hr6))
                have B6 := hide (HB.out.trans (hb6.mono HB.out.size))
                clear hr6 hb6
                go_wp2_with fail
                have hb7 : Below w6.heap.size w6 (w6.alloc (.cells #[tx s] 9)) := (Below.refl _ _).alloc (Nat.le_refl _) _
                have hr7 : Row (w6.alloc (.cells #[tx s] 9)) w6.heap.size (some ⟨w6.heap.size, 0, none⟩) [s] := row_lit w6 [s] rfl
                obtain ⟨w7, hw7⟩ : ∃ w7, w7 = w6.alloc (.cells #[tx s] 9) := ⟨_, rfl⟩
                rw [← hw7] at hb7 hr7 ⊢
                clear hw7
                have s6 : Sl w7 (fun b => b < w7.heap.size) 1 A6 RS [s] := (H6.out.2.2.sl (S := fun b => b < w6.heap.size) (fun _ _ h => h)).map (fun b h => Nat.lt_of_lt_of_le h hb7.size) (fun b h => hb7.block b h) (fun _ _ h => h)
                have s7 : Sl w7 (fun b => b < w7.heap.size) 1 (some ⟨w6.heap.size, 0, none⟩) RS [s] := hr7.sl (fun _ _ h => h)
                have H7 := hide (And.intro (H6.out.1.below hb7) (And.intro (H6.out.2.1.trans (hb7.mono H6.out.2.1.size)) (And.intro s6 s7)))
                have B7 := hide (B6.out.trans (hb7.mono B6.out.size))
                clear hb7 hr7 s6 s7
                refine (texts_any (l := [s]) (m := [s]) 1 1 H7.out.2.2.1 H7.out.2.2.2 (fun _ h => h) (fun _ h => h) (by simp) (by simp)).mono ?_
                rintro e w8 ⟨rfl, hb8⟩
                have H8 := hide (And.intro (H7.out.1.below hb8) (H7.out.2.1.trans (hb8.mono H7.out.2.1.size)))
                have B8 := hide (B7.out.trans (hb8.mono B7.out.size))
                clear hb8
                rw [show decide ([s] = [s]) = true by simp]
                have F8 := fit_any (lo := w2.heap.size) (s.length + 1) s a w8 H8.out.1 (by omega) (by have := HS.out.2.2.2; unfold maxLen at this; omega) (by have := H.out.2.1; unfold maxLen at this; omega)
                rw [HS.out.2.2.1] at F8
                have FF := hide F8
                clear F8
                go_wp2_with fail
                refine FF.out.mono ?_
                rintro e w9 ⟨rfl, hb9⟩
                have H9 := hide (And.intro (H8.out.1.below hb9) (H8.out.2.trans (hb9.mono H8.out.2.size)))
                have B9 := hide (B8.out.trans (hb9.mono B8.out.size))
                clear hb9 FF
                go_wp2_with fail
                have sy9 := HXY.out.2.2.2.below' (fun _ h => h) B9.out
                have HY9 := hide (And.intro sy9 (And.intro H9.out.2 B9.out))
                clear sy9
                go_loop [11, 94] (fun cm i => ∃ j : Nat, ∃ q : Bool, j ≤ y.length ∧ i = .int .i64 j ∧ cm = .bool q ∧ Hid (q = (cb || decide (s ∈ y.take j)))) (fun _ i => y.length - (intOf i).toNat)
                case atStart => exact ⟨0, cb, Nat.zero_le _, rfl, rfl, hide (by simp)⟩
                case round =>
                  obtain ⟨j, q, hj, rfl, rfl, HQj⟩ := hrel
                  by_cases hly : j < y.length
                  · obtain ⟨g', o', hAy, _, hcy⟩ := rs_at HY9.out.1 hly
                    obtain ⟨u, hu⟩ : ∃ u, u = y[j] := ⟨_, rfl⟩
                    rw [← hu] at hcy
                    have hsn : (decide (s ∈ y.take (j + 1))) = (decide (s ∈ y.take j) || decide (s = u)) := by
                      rw [List.take_succ_eq_append_getElem hly, ← hu, Bool.eq_iff_iff]
                      simp
                    have HU := hide (And.intro hAy hsn)
                    clear hAy hu hsn
                    cases q with
                    | true =>
                      go_wp2_with ((with_reducible show wpList _ _ _ ({ dst := _, op := .indexAddr 31 _ _, type := _, pos := _, after := _, guard := _ } :: _) _ _); refine wpList_index Try.underlying31 Try.sizeS rfl rfl HU.out.1 hly rfl ?_)
                      go_round
                      case rel => exact ⟨j + 1, true, by omega, by go_num, rfl, hide (by rw [HU.out.2, ← Bool.or_assoc, ← HQj.out]; rfl)⟩
                      case measure => simp [intOf]; omega
                    | false =>
                      by_cases hsu : s = u
                      · have hq1 : (s == u) = true := by simp [hsu]
                        have HE := hide hsu
                        clear hsu
                        go_wp2_with ((with_reducible show wpList _ _ _ ({ dst := _, op := .indexAddr 31 _ _, type := _, pos := _, after := _, guard := _ } :: _) _ _); refine wpList_index Try.underlying31 Try.sizeS rfl rfl HU.out.1 hly rfl ?_)
                        go_round
                        case rel => exact ⟨j + 1, true, by omega, by go_num, rfl, hide (by rw [HU.out.2]; simp [HE.out])⟩
                        case measure => simp [intOf]; omega
                      · have hq1 : (s == u) = false := by simpa using hsu
                        have HE := hide hsu
                        clear hsu
                        go_wp2_with ((with_reducible show wpList _ _ _ ({ dst := _, op := .indexAddr 31 _ _, type := _, pos := _, after := _, guard := _ } :: _) _ _); refine wpList_index Try.underlying31 Try.sizeS rfl rfl HU.out.1 hly rfl ?_)
                        go_round
                        case rel => exact ⟨j + 1, false, by omega, by go_num, rfl, hide (by rw [HU.out.2, ← Bool.or_assoc, ← HQj.out]; simp [HE.out])⟩
                        case measure => simp [intOf]; omega
                  · have hend : q = common (x.take (0 + 1)) y := by
                      have h1 := HQj.out
                      rw [List.take_of_length_le (by omega)] at h1
                      rw [h1, HC.out, List.take_succ_eq_append_getElem hlx, ← HXs.out.2.1]
                      unfold common
                      rw [List.any_append]
                      simp
                    have HEnd := hide hend
                    clear hend
                    go_wp2
                    go_roundw
                    case rel => exact ⟨0 + 1, by omega, by go_num, hide ⟨by rw [HEnd.out], HY9.out.2.2⟩⟩
                    case measure => simp [intOf]; omega
              | succ m =>
                have hml : m < x.length := by omega
                obtain ⟨g2, o2, hA2, _, hcm⟩ := rs_at HXs.out.2.2.1 hml
                have e2 := HXs.out.1.symm.trans hA2
                injection e2 with e2
                injection e2 with e2 e3
                subst e2 e3
                obtain ⟨u, hu⟩ : ∃ u, u = x[m] := ⟨_, rfl⟩
                rw [← hu] at hcm
                have hus : u < s := by
                  have hr := poss_rise T a
                  rw [← HXY.out.1] at hr
                  rw [hu, HXs.out.2.1]
                  exact List.pairwise_iff_getElem.1 hr m (m + 1) hml hlx (by omega)
                have HUS := hide hus
                have HM := hide hml
                have hbl : Op.bytesLess u s = true := by rw [bytesLess_eq]; simpa using hus
                clear hu hA2 hus hml
                go_wp2_with (first | ((with_reducible show wpList _ _ _ ({ dst := _, op := .indexAddr 31 _ _, type := _, pos := _, after := _, guard := _ } :: _) _ _); refine wpList_index Try.underlying31 Try.sizeS rfl rfl HXs.out.1 hlx rfl ?_) | ((with_reducible show wpList _ _ _ ({ dst := _, op := .indexAddr 31 _ _, type := _, pos := _, after := _, guard := _ } :: _) _ _); refine wpList_index Try.underlying31 Try.sizeS rfl rfl HXs.out.1 HM.out rfl ?_))
                refine KS.out.mono ?_
                rintro e w6 ⟨rfl, rfl⟩
                go_wp2_with fail
                refine PS.out.mono ?_
                rintro e w6 ⟨A6, rfl, hr6, hb6⟩
                have H6 := hide (And.intro (HS.out.1.below hb6) (And.intro (HS.out.2.1.trans (hb6.mono HS.out.2.1.size)) hr6))
                have B6 := hide (HB.out.trans (hb6.mono HB.out.size))
                clear hr6 hb6
                go_wp2_with fail
                have hb7 : Below w6.heap.size w6 (w6.alloc (.cells #[tx s] 9)) := (Below.refl _ _).alloc (Nat.le_refl _) _
                have hr7 : Row (w6.alloc (.cells #[tx s] 9)) w6.heap.size (some ⟨w6.heap.size, 0, none⟩) [s] := row_lit w6 [s] rfl
                obtain ⟨w7, hw7⟩ : ∃ w7, w7 = w6.alloc (.cells #[tx s] 9) := ⟨_, rfl⟩
                rw [← hw7] at hb7 hr7 ⊢
                clear hw7
                have s6 : Sl w7 (fun b => b < w7.heap.size) 1 A6 RS [s] := (H6.out.2.2.sl (S := fun b => b < w6.heap.size) (fun _ _ h => h)).map (fun b h => Nat.lt_of_lt_of_le h hb7.size) (fun b h => hb7.block b h) (fun _ _ h => h)
                have s7 : Sl w7 (fun b => b < w7.heap.size) 1 (some ⟨w6.heap.size, 0, none⟩) RS [s] := hr7.sl (fun _ _ h => h)
                have H7 := hide (And.intro (H6.out.1.below hb7) (And.intro (H6.out.2.1.trans (hb7.mono H6.out.2.1.size)) (And.intro s6 s7)))
                have B7 := hide (B6.out.trans (hb7.mono B6.out.size))
                clear hb7 hr7 s6 s7
                refine (texts_any (l := [s]) (m := [s]) 1 1 H7.out.2.2.1 H7.out.2.2.2 (fun _ h => h) (fun _ h => h) (by simp) (by simp)).mono ?_
                rintro e w8 ⟨rfl, hb8⟩
                have H8 := hide (And.intro (H7.out.1.below hb8) (H7.out.2.1.trans (hb8.mono H7.out.2.1.size)))
                have B8 := hide (B7.out.trans (hb8.mono B7.out.size))
                clear hb8
                rw [show decide ([s] = [s]) = true by simp]
                have F8 := fit_any (lo := w2.heap.size) (s.length + 1) s a w8 H8.out.1 (by omega) (by have := HS.out.2.2.2; unfold maxLen at this; omega) (by have := H.out.2.1; unfold maxLen at this; omega)
                rw [HS.out.2.2.1] at F8
                have FF := hide F8
                clear F8
                go_wp2_with fail
                refine FF.out.mono ?_
                rintro e w9 ⟨rfl, hb9⟩
                have H9 := hide (And.intro (H8.out.1.below hb9) (H8.out.2.trans (hb9.mono H8.out.2.size)))
                have B9 := hide (B8.out.trans (hb9.mono B8.out.size))
                clear hb9 FF
                go_wp2_with fail
                have sy9 := HXY.out.2.2.2.below' (fun _ h => h) B9.out
                have HY9 := hide (And.intro sy9 (And.intro H9.out.2 B9.out))
                clear sy9
                go_loop [11, 94] (fun cm i => ∃ j : Nat, ∃ q : Bool, j ≤ y.length ∧ i = .int .i64 j ∧ cm = .bool q ∧ Hid (q = (cb || decide (s ∈ y.take j)))) (fun _ i => y.length - (intOf i).toNat)
                case atStart => exact ⟨0, cb, Nat.zero_le _, rfl, rfl, hide (by simp)⟩
                case round =>
                  obtain ⟨j, q, hj, rfl, rfl, HQj⟩ := hrel
                  by_cases hly : j < y.length
                  · obtain ⟨g', o', hAy, _, hcy⟩ := rs_at HY9.out.1 hly
                    obtain ⟨u, hu⟩ : ∃ u, u = y[j] := ⟨_, rfl⟩
                    rw [← hu] at hcy
                    have hsn : (decide (s ∈ y.take (j + 1))) = (decide (s ∈ y.take j) || decide (s = u)) := by
                      rw [List.take_succ_eq_append_getElem hly, ← hu, Bool.eq_iff_iff]
                      simp
                    have HU := hide (And.intro hAy hsn)
                    clear hAy hu hsn
                    cases q with
                    | true =>
                      go_wp2_with ((with_reducible show wpList _ _ _ ({ dst := _, op := .indexAddr 31 _ _, type := _, pos := _, after := _, guard := _ } :: _) _ _); refine wpList_index Try.underlying31 Try.sizeS rfl rfl HU.out.1 hly rfl ?_)
                      go_round
                      case rel => exact ⟨j + 1, true, by omega, by go_num, rfl, hide (by rw [HU.out.2, ← Bool.or_assoc, ← HQj.out]; rfl)⟩
                      case measure => simp [intOf]; omega
                    | false =>
                      by_cases hsu : s = u
                      · have hq1 : (s == u) = true := by simp [hsu]
                        have HE := hide hsu
                        clear hsu
                        go_wp2_with ((with_reducible show wpList _ _ _ ({ dst := _, op := .indexAddr 31 _ _, type := _, pos := _, after := _, guard := _ } :: _) _ _); refine wpList_index Try.underlying31 Try.sizeS rfl rfl HU.out.1 hly rfl ?_)
                        go_round
                        case rel => exact ⟨j + 1, true, by omega, by go_num, rfl, hide (by rw [HU.out.2]; simp [HE.out])⟩
                        case measure => simp [intOf]; omega
                      · have hq1 : (s == u) = false := by simpa using hsu
                        have HE := hide hsu
                        clear hsu
                        go_wp2_with ((with_reducible show wpList _ _ _ ({ dst := _, op := .indexAddr 31 _ _, type := _, pos := _, after := _, guard := _ } :: _) _ _); refine wpList_index Try.underlying31 Try.sizeS rfl rfl HU.out.1 hly rfl ?_)
                        go_round
                        case rel => exact ⟨j + 1, false, by omega, by go_num, rfl, hide (by rw [HU.out.2, ← Bool.or_assoc, ← HQj.out]; simp [HE.out])⟩
                        case measure => simp [intOf]; omega
                  · have hend : q = common (x.take (m + 1 + 1)) y := by
                      have h1 := HQj.out
                      rw [List.take_of_length_le (by omega)] at h1
                      rw [h1, HC.out, List.take_succ_eq_append_getElem hlx, ← HXs.out.2.1]
                      unfold common
                      rw [List.any_append]
                      simp
                    have HEnd := hide hend
                    clear hend
                    go_wp2
                    go_roundw
                    case rel => exact ⟨m + 1 + 1, by omega, by go_num, hide ⟨by rw [HEnd.out], HY9.out.2.2⟩⟩
                    case measure => simp [intOf]; omega
            · have hcx : cb = common x y := by
                rw [HC.out, List.take_of_length_le (by omega)]
              have c1 : over T a b = cb := by unfold over; rw [← HXY.out.1, ← HXY.out.2.1, hcx]
              have c2 : over T b a = cb := by unfold over; rw [← HXY.out.1, ← HXY.out.2.1, hcx, common_comm]
              have O1 := overlap_any hTr H.out.2.1 H.out.2.2
              rw [c1] at O1
              have O1 := hide O1
              have hwb := H5.out.2.1.trans (HB.out.mono H5.out.2.1.size)
              have HT := hide (And.intro hTr (And.intro hwb c2))
              clear hTr hwb c1 c2 hcx sxr syr
              go_wp2_with fail
              refine O1.out.mono ?_
              rintro e w6 ⟨rfl, hb6⟩
              have O2 := overlap_any (HT.out.1.below hb6) H.out.2.2 H.out.2.1
              rw [HT.out.2.2] at O2
              have O2 := hide O2
              have H6 := hide (And.intro (HT.out.1.below hb6) (HT.out.2.1.trans (hb6.mono HT.out.2.1.size)))
              clear hb6 O1
              go_wp2_with fail
              refine O2.out.mono ?_
              rintro e w7 ⟨rfl, hb7⟩
              have H7 := hide (And.intro (H6.out.1.below hb7) (H6.out.2.trans (hb7.mono H6.out.2.size)))
              clear hb7 O2
              by_cases hx0 : x.length = 0
              · have hx1 : ((x.length : Int) == 0) = true := by simp; exact List.eq_nil_of_length_eq_zero hx0
                clear hx0
                go_wp2
                go_ret
                exact ⟨rfl, H7.out.2⟩
              · have hx1 : ((x.length : Int) == 0) = false := by simp; exact fun e => hx0 (by rw [e]; rfl)
                have cc := composite_any H7.out.1 H.out.2.1
                rw [HP.out.comp (by rw [← HXY.out.1]; exact fun e => hx0 (by rw [e]; rfl))] at cc
                have CC := hide cc
                clear hx0 cc
                go_wp2_with fail
                refine CC.out.mono ?_
                rintro e w8 ⟨rfl, hb8⟩
                have H8 := hide (H7.out.2.trans (hb8.mono H7.out.2.size))
                clear hb8 CC
                go_wp2
                go_ret
                exact ⟨rfl, H8.out⟩
end Go.Proofs.Ytlpmnnkijdbopaa
