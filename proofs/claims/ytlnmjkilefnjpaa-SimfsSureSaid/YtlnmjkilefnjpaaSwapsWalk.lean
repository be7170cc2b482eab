/-
  The walk of the law of the swaps.
-/
import Derived.Test.YtlnmjkilefnjpaaSwapsLaw
import Derived.IntWalk
namespace Go.Proofs.Ytlnmjkilefnjpaa
open Go.RowKit Go.Maps

set_option maxRecDepth 100000 in
set_option maxHeartbeats 12800000 in
theorem swaps_one {w : World} {B m n : Nat} {A C : Option Addr} {O F : List UInt8} (how : Int) (c d : Nat) (hr : Rb w B A m O) (hr2 : Rb w B C n F) (hB : B ≤ w.heap.size) (hm : m ≤ 300) (hn : n ≤ 300) (hh0 : -9223372036854775808 ≤ how) (hh1 : how ≤ 9223372036854775807) :
    Calls Try.prog 5 #[.slice A m c, .slice C n d, .int .i64 how] w fun e w' => e = .returned (.bool true) ∧ Below w.heap.size w w' := by
  have i1 : (m : Int) ≤ 300 := by omega
  have i2 : (n : Int) ≤ 300 := by omega
  have hO := hr.len
  have hF := hr2.len
  have H := hide (And.intro (hr.more hB) (And.intro (hr2.more hB) (And.intro hO (And.intro hF (And.intro hm hn)))))
  clear hr hr2 hB hm hn hO hF
  obtain ⟨D, hD⟩ : ∃ D, how / 2 = D := ⟨_, rfl⟩
  obtain ⟨su, hsu⟩ : ∃ su, (bits .and .i64 how 1 == 1) = su := ⟨_, rfl⟩
  have d0 : -9223372036854775808 ≤ D := by omega
  have d1 : D ≤ 9223372036854775807 := by omega
  go_enter Try.func5, Try.ntmps5
  go_wp2_with fail
  clear hD hsu hh0 hh1
  refine (awake_any _).mono ?_
  rintro e w1 ⟨rfl, hb1⟩
  have H1 := hide hb1
  clear hb1
  go_wp2_with fail
  refine (new_any 2000 _ (by omega) (by omega)).mono ?_
  rintro e w2 ⟨rfl, h2, hb2⟩
  have hrO2 := (H.out.1.below H1.out).below (hb2.mono H1.out.size)
  have hrF2 := (H.out.2.1.below H1.out).below (hb2.mono H1.out.size)
  have H2 := hide (And.intro h2 (And.intro (H1.out.trans (hb2.mono H1.out.size)) (And.intro hrO2 hrF2)))
  clear h2 hb2 hrO2 hrF2
  unfold ptr
  go_wp2_with fail
  refine (create_ok (k := na) H2.out.1 (by decide) (by decide) (by decide) (by decide) (by decide) (by decide) (by decide) (by decide)).mono ?_
  rintro e w3 ⟨rfl, h3, hb3⟩
  rw [sw1_eq] at h3
  have hb3 := hb3.mono H1.out.size
  have H3 := hide (And.intro h3 (And.intro (H2.out.2.1.trans hb3) (And.intro (H2.out.2.2.1.below hb3) (H2.out.2.2.2.below hb3))))
  clear h3 hb3
  go_wp2_with fail
  refine (append_ok (k := na) (i := 0) (f := ([], 0)) H3.out.1 (by decide) (by decide) (by decide) (by decide) (by have := H.out; show 0 + m ≤ 65536; omega) (by decide) (by decide) (by decide) (by decide) (by decide) (by have := H.out; show ((0 : Nat) : Int) + (m : Int) ≤ 2000; omega) H3.out.2.2.1 H3.out.2.1.size).mono ?_
  rintro e w4 ⟨rfl, h4, hb4⟩
  rw [sw2_eq] at h4
  have hb4 := hb4.mono H1.out.size
  have H4 := hide (And.intro h4 (And.intro (H3.out.2.1.trans hb4) (And.intro (H3.out.2.2.1.below hb4) (H3.out.2.2.2.below hb4))))
  clear h4 hb4
  go_wp2_with fail
  refine (sync_ok (k := na) (i := 0) H4.out.1 (by decide) (by decide) rfl (of_decide_eq_true rfl) (of_decide_eq_true rfl)).mono ?_
  rintro e w5 ⟨rfl, h5, hb5⟩
  rw [sw3_eq] at h5
  have hb5 := hb5.mono H1.out.size
  have H5 := hide (And.intro h5 (And.intro (H4.out.2.1.trans hb5) (And.intro (H4.out.2.2.1.below hb5) (H4.out.2.2.2.below hb5))))
  clear h5 hb5
  go_wp2_with fail
  refine (syncdir_ok H5.out.1 (of_decide_eq_true rfl) (of_decide_eq_true rfl)).mono ?_
  rintro e w6 ⟨rfl, h6, hb6⟩
  rw [sw4_eq] at h6
  have hb6 := hb6.mono H1.out.size
  have H6 := hide (And.intro h6 (And.intro (H5.out.2.1.trans hb6) (And.intro (H5.out.2.2.1.below hb6) (H5.out.2.2.2.below hb6))))
  clear h6 hb6
  go_wp2_with fail
  refine (create_ok (k := nb) H6.out.1 (by decide) (by decide) rfl (of_decide_eq_true rfl) (of_decide_eq_true rfl) (of_decide_eq_true rfl) (of_decide_eq_true rfl) (of_decide_eq_true rfl)).mono ?_
  rintro e w7 ⟨rfl, h7, hb7⟩
  rw [sw5_eq] at h7
  have hb7 := hb7.mono H1.out.size
  have H7 := hide (And.intro h7 (And.intro (H6.out.2.1.trans hb7) (And.intro (H6.out.2.2.1.below hb7) (H6.out.2.2.2.below hb7))))
  clear h7 hb7
  go_wp2_with fail
  refine (append_ok (k := nb) (i := 1) (f := ([], 0)) H7.out.1 (by decide) (by decide) rfl rfl (by have := H.out; show 0 + n ≤ 65536; omega) (by rw [sw5_used]; have := H.out; omega) (of_decide_eq_true rfl) (of_decide_eq_true rfl) (of_decide_eq_true rfl) (of_decide_eq_true rfl) (by rw [sw5_used]; have := H.out; show (O.length : Int) + (n : Int) ≤ 2000; omega) H7.out.2.2.2 H7.out.2.1.size).mono ?_
  rintro e w8 ⟨rfl, h8, hb8⟩
  rw [sw6_eq] at h8
  have hb8 := hb8.mono H1.out.size
  have H8 := hide (And.intro h8 (And.intro (H7.out.2.1.trans hb8) (And.intro (H7.out.2.2.1.below hb8) (H7.out.2.2.2.below hb8))))
  clear h8 hb8
  go_wp2_with fail
  refine (sync_ok (k := nb) (i := 1) H8.out.1 (by decide) (by decide) rfl (of_decide_eq_true rfl) (of_decide_eq_true rfl)).mono ?_
  rintro e w9 ⟨rfl, h9, hb9⟩
  rw [sw7_eq] at h9
  have hb9 := hb9.mono H1.out.size
  have H9 := hide (And.intro h9 (And.intro (H8.out.2.1.trans hb9) (And.intro (H8.out.2.2.1.below hb9) (H8.out.2.2.2.below hb9))))
  clear h9 hb9
  go_wp2_with fail
  refine (rename_ok (k := nb) (to := na) (i := 1) H9.out.1 (by decide) (by decide) (by decide) (by decide) rfl (of_decide_eq_true rfl) (of_decide_eq_true rfl) (of_decide_eq_true rfl) (of_decide_eq_true rfl) (of_decide_eq_true rfl)).mono ?_
  rintro e w10 ⟨rfl, h10, hb10⟩
  rw [sw8_eq] at h10
  have hb10 := hb10.mono H1.out.size
  have H10 := hide (And.intro h10 (And.intro (H9.out.2.1.trans hb10) (And.intro (H9.out.2.2.1.below hb10) (H9.out.2.2.2.below hb10))))
  clear h10 hb10
  go_wp2_with fail
  · have hsu : su = true := by assumption
    subst hsu
    have hx : Below w10.heap.size w10 (w10.alloc (.cells (List.replicate 8 (Value.int .i64 0)).toArray 26)) := (Below.refl _ _).alloc (Nat.le_refl _) _
    have hz := zeros_row (w := w10) (n := 8) (T := 26) w.heap.size H10.out.2.1.size (by unfold maxLen; omega)
    have h10 := H10.out.1.below hx
    have HX := hide (And.intro hz (hx.mono H10.out.2.1.size))
    clear hz hx
    refine (syncdir_keep h10 (of_decide_eq_true rfl) (of_decide_eq_true rfl)).mono ?_
    rintro e w11 ⟨rfl, h11, hb11, hs11⟩
    rw [sw9_eq] at h11
    have hz11 := owns_same HX.out.1 hs11 (by simp)
    have hx11 : Below w11.heap.size w11 (w11.alloc (.cells #[.int .i64 0] 26)) := (Below.refl _ _).alloc (Nat.le_refl _) _
    have hb11 := H10.out.2.1.trans (HX.out.2.trans (hb11.mono H1.out.size))
    have H11 := hide (And.intro (h11.below hx11) (And.intro (hb11.trans (hx11.mono hb11.size)) (And.intro (hz11.alloc (.cells #[.int .i64 0] 26)) (Rd.one w11 (.int .i64 0) 26))))
    clear h10 h11 hb11 hs11 hz11 hx11
    obtain ⟨i0, q1, q2, q3, q4⟩ := info_parts Try.infoErr
    have HI := hide (And.intro q1 (And.intro q2 (And.intro q3 q4)))
    clear q1 q2 q3 q4
    go_wp2_with ((with_reducible show wpList _ _ _ ({ dst := _, op := .call { callee := .builtin .append, args := #[_, _], argTypes := #[39, 39] }, type := _, pos := _, after := _, guard := _ } :: _) _ _); refine wpList_append_g Try.underlying39 HI.out.1 HI.out.2.1 HI.out.2.2.1 HI.out.2.2.2 rfl (by decide) rfl rfl H11.out.2.2.1 H11.out.2.2.2 (by intro u hu; simp at hu; subst hu; rfl) (by unfold maxLen; omega) (by omega) H11.out.2.1.size ?_; intro A12 c12 w12 hown12 hg12; have H12 := hide (And.intro hown12 hg12); clear hown12 hg12)
    -- ENDINGS
    have hb12 := H11.out.2.1.trans ((Below.refl w.heap.size _).grown H12.out.2 H11.out.2.1.size (fun q hq => (H11.out.2.2.1.lt q hq).1))
    have h12 := H11.out.1.keepOther H12.out.2 (own_cells H11.out.2.2.1) (by decide)
    have HW := hide (And.intro h12 (And.intro hb12 (And.intro (H.out.1.below hb12) (H.out.2.1.below hb12))))
    have hrow12 : w12.ownsRow w.heap.size 26 1 (.slice A12 9 c12) 9 (List.replicate 9 (Value.int .i64 0)) := H12.out.1
    obtain ⟨g12, hA12, _⟩ := row_cell (k := 0) hrow12 rfl
    subst hA12
    have hz12 : ∀ k, k < 9 → w12.cell? ⟨g12, k, none⟩ = some (.int .i64 0) := by
      intro k hk
      obtain ⟨g, hg, hc⟩ := row_cell (k := k) (v := .int .i64 0) hrow12 (by rw [List.getElem?_replicate, if_pos hk])
      injection hg with hg
      injection hg with hg
      subst hg
      exact hc
    have HZ := hide hz12
    clear hb12 h12 hrow12 hz12
    go_loop [71] (fun i => ∃ k : Nat, k ≤ 9 ∧ i = .int .i64 k) (fun i => 9 - (intOf i).toNat)
    case atStart => exact ⟨0, Nat.zero_le _, rfl⟩
    case round =>
      obtain ⟨k, hk, rfl⟩ := hrel
      by_cases hlt : k < 9
      · have hc := HZ.out k hlt
        go_wp2_with fail
        go_round
        case rel => exact ⟨k + 1, by omega, by go_num⟩
        case measure => simp [intOf]; omega
      · have hkk : k = 9 := by omega
        subst hkk
        go_wp2_with fail
        refine (crash_any (ts := []) (c := 0) HW.out.1 (Ri.nil _ w.heap.size) HW.out.2.1.size (of_decide_eq_true rfl) (of_decide_eq_true rfl) (okc9 O F) (of_decide_eq_true rfl) (of_decide_eq_true rfl) (by omega) d0 d1 (by
          intro f hf
          have := H.out
          rcases List.mem_cons.1 hf with rfl | hf
          · show O.length ≤ 1000000; omega
          · rw [List.mem_singleton.1 hf]; show F.length ≤ 1000000; omega)).mono ?_
        rintro e w20 ⟨b20, rfl, h20, hb20⟩
        have HC := hide (cr9 O F D)
        have h20b := hb20.mono HW.out.2.1.size
        have H20 := hide (And.intro h20 (And.intro (HW.out.2.1.trans h20b) (And.intro (HW.out.2.2.1.below h20b) (HW.out.2.2.2.below h20b))))
        clear h20 hb20 h20b
        unfold ptr
        go_wp2_with fail
        refine (read_ok (k := na) (i := 0) (f := (F, F.length)) H20.out.1 (by decide) (by decide) (by rw [HC.out.2]; rfl) (by rw [HC.out.1]; rfl) (by have := H.out; show F.length ≤ 1000000000; omega)).mono ?_
        rintro e w21 ⟨A21, c21, rfl, hr21, h21, hb21⟩
        have h21b := hb21.mono H20.out.2.1.size
        have H21 := hide (And.intro h21 (And.intro (H20.out.2.1.trans h21b) (And.intro hr21 (H20.out.2.2.2.below h21b))))
        clear h21 hb21 h21b hr21
        go_wp2_with (first
          | ((with_reducible show wpList _ _ _ ({ dst := some 96, op := .convert 29 9 _, type := _, pos := _, after := _, guard := _ } :: _) _ _); refine wpList_bytes_string_g Try.underlying29 Try.underlying5 Try.underlying9 rfl rfl H21.out.2.2.1 ?_)
          | ((with_reducible show wpList _ _ _ ({ dst := some 98, op := .convert 29 9 _, type := _, pos := _, after := _, guard := _ } :: _) _ _); refine wpList_bytes_string_g Try.underlying29 Try.underlying5 Try.underlying9 rfl rfl H21.out.2.2.2 ?_)
          | ((with_reducible show wpList _ _ _ ({ dst := some 107, op := .convert 29 9 _, type := _, pos := _, after := _, guard := _ } :: _) _ _); refine wpList_bytes_string_g Try.underlying29 Try.underlying5 Try.underlying9 rfl rfl H21.out.2.2.1 ?_)
          | ((with_reducible show wpList _ _ _ ({ dst := some 109, op := .convert 29 9 _, type := _, pos := _, after := _, guard := _ } :: _) _ _); refine wpList_bytes_string_g Try.underlying29 Try.underlying5 Try.underlying9 rfl rfl H21.out.2.2.2 ?_))
        have hls := list_fs H21.out.1 (by rw [HC.out.2]; decide)
        rw [HC.out.2] at hls
        refine hls.mono ?_
        rintro e w22 ⟨A22, c22, rfl, _, hb22⟩
        have H22 := hide (H21.out.2.1.trans (hb22.mono H21.out.2.1.size))
        clear hb22 hls
        go_wp2_with fail
        go_ret
        exact ⟨rfl, H22.out⟩
  · have hsu : su = false := by assumption
    subst hsu
    have hx : Below w10.heap.size w10 (w10.alloc (.cells (List.replicate 8 (Value.int .i64 0)).toArray 26)) := (Below.refl _ _).alloc (Nat.le_refl _) _
    have hz := zeros_row (w := w10) (n := 8) (T := 26) w.heap.size H10.out.2.1.size (by unfold maxLen; omega)
    have hb10 := H10.out.2.1.trans (hx.mono H10.out.2.1.size)
    have HW := hide (And.intro (H10.out.1.below hx) (And.intro hb10 (And.intro (H.out.1.below hb10) (H.out.2.1.below hb10))))
    have hz10 : ∀ k, k < 8 → (w10.alloc (.cells (List.replicate 8 (Value.int .i64 0)).toArray 26)).cell? ⟨w10.heap.size, k, none⟩ = some (.int .i64 0) := by
      intro k hk
      obtain ⟨g, hg, hc⟩ := row_cell (k := k) (v := .int .i64 0) hz (by rw [List.getElem?_replicate, if_pos hk])
      injection hg with hg
      injection hg with hg
      subst hg
      exact hc
    obtain ⟨wl, hwl⟩ : ∃ wl, wl = w10.alloc (.cells (List.replicate 8 (Value.int .i64 0)).toArray 26) := ⟨_, rfl⟩
    rw [← hwl] at HW hz10
    have hwl2 : w10.alloc (.cells #[.int .i64 0, .int .i64 0, .int .i64 0, .int .i64 0, .int .i64 0, .int .i64 0, .int .i64 0, .int .i64 0] 26) = wl := hwl.symm
    rw [hwl2]
    have HZ := hide hz10
    clear hx hz hb10 hz10 hwl hwl2
    go_loop [71] (fun i => ∃ k : Nat, k ≤ 8 ∧ i = .int .i64 k) (fun i => 8 - (intOf i).toNat)
    case atStart => exact ⟨0, Nat.zero_le _, rfl⟩
    case round =>
      obtain ⟨k, hk, rfl⟩ := hrel
      by_cases hlt : k < 8
      · have hc := HZ.out k hlt
        go_wp2_with fail
        go_round
        case rel => exact ⟨k + 1, by omega, by go_num⟩
        case measure => simp [intOf]; omega
      · have hkk : k = 8 := by omega
        subst hkk
        go_wp2_with fail
        have hD := cr8 O F D
        by_cases hD2 : 2 ≤ D
        · have HD := hide (hD.2.2 hD2)
          clear hD
          refine (crash_any (ts := []) (c := 0) HW.out.1 (Ri.nil _ w.heap.size) HW.out.2.1.size (of_decide_eq_true rfl) (of_decide_eq_true rfl) (okc8 O F) (of_decide_eq_true rfl) (of_decide_eq_true rfl) (by omega) d0 d1 (by
            intro f hf
            have := H.out
            rcases List.mem_cons.1 hf with rfl | hf
            · show O.length ≤ 1000000; omega
            · rw [List.mem_singleton.1 hf]; show F.length ≤ 1000000; omega)).mono ?_
          rintro e w20 ⟨b20, rfl, h20, hb20⟩
          have HC := hide HD.out
          have h20b := hb20.mono HW.out.2.1.size
          have H20 := hide (And.intro h20 (And.intro (HW.out.2.1.trans h20b) (And.intro (HW.out.2.2.1.below h20b) (HW.out.2.2.2.below h20b))))
          clear h20 hb20 h20b
          unfold ptr
          go_wp2_with fail
          refine (read_ok (k := na) (i := 0) (f := (F, F.length)) H20.out.1 (by decide) (by decide) (by rw [HC.out.2]; rfl) (by rw [HC.out.1]; rfl) (by have := H.out; show F.length ≤ 1000000000; omega)).mono ?_
          rintro e w21 ⟨A21, c21, rfl, hr21, h21, hb21⟩
          have h21b := hb21.mono H20.out.2.1.size
          have H21 := hide (And.intro h21 (And.intro (H20.out.2.1.trans h21b) (And.intro hr21 (H20.out.2.2.2.below h21b))))
          clear h21 hb21 h21b hr21
          go_wp2_with (first
            | ((with_reducible show wpList _ _ _ ({ dst := some 96, op := .convert 29 9 _, type := _, pos := _, after := _, guard := _ } :: _) _ _); refine wpList_bytes_string_g Try.underlying29 Try.underlying5 Try.underlying9 rfl rfl H21.out.2.2.1 ?_)
            | ((with_reducible show wpList _ _ _ ({ dst := some 98, op := .convert 29 9 _, type := _, pos := _, after := _, guard := _ } :: _) _ _); refine wpList_bytes_string_g Try.underlying29 Try.underlying5 Try.underlying9 rfl rfl H21.out.2.2.2 ?_)
            | ((with_reducible show wpList _ _ _ ({ dst := some 107, op := .convert 29 9 _, type := _, pos := _, after := _, guard := _ } :: _) _ _); refine wpList_bytes_string_g Try.underlying29 Try.underlying5 Try.underlying9 rfl rfl H21.out.2.2.1 ?_)
            | ((with_reducible show wpList _ _ _ ({ dst := some 109, op := .convert 29 9 _, type := _, pos := _, after := _, guard := _ } :: _) _ _); refine wpList_bytes_string_g Try.underlying29 Try.underlying5 Try.underlying9 rfl rfl H21.out.2.2.2 ?_))
          have hls := list_fs H21.out.1 (by rw [HC.out.2]; decide)
          rw [HC.out.2] at hls
          refine hls.mono ?_
          rintro e w22 ⟨A22, c22, rfl, _, hb22⟩
          have H22 := hide (H21.out.2.1.trans (hb22.mono H21.out.2.1.size))
          clear hb22 hls
          go_wp2_with fail
          go_ret
          exact ⟨rfl, H22.out⟩
        by_cases hD1 : D = 1
        · have HD := hide (hD.2.1 hD1)
          clear hD
          subst hD1
          refine (crash_any (ts := []) (c := 0) HW.out.1 (Ri.nil _ w.heap.size) HW.out.2.1.size (of_decide_eq_true rfl) (of_decide_eq_true rfl) (okc8 O F) (of_decide_eq_true rfl) (of_decide_eq_true rfl) (by omega) (by decide) (by decide) (by
            intro f hf
            have := H.out
            rcases List.mem_cons.1 hf with rfl | hf
            · show O.length ≤ 1000000; omega
            · rw [List.mem_singleton.1 hf]; show F.length ≤ 1000000; omega)).mono ?_
          rintro e w20 ⟨b20, rfl, h20, hb20⟩
          have HC := hide HD.out
          have h20b := hb20.mono HW.out.2.1.size
          have H20 := hide (And.intro h20 (And.intro (HW.out.2.1.trans h20b) (And.intro (HW.out.2.2.1.below h20b) (HW.out.2.2.2.below h20b))))
          clear h20 hb20 h20b
          unfold ptr
          go_wp2_with fail
          refine (read_ok (k := na) (i := 0) (f := (O, O.length)) H20.out.1 (by decide) (by decide) (by rw [HC.out.2]; rfl) (by rw [HC.out.1]; rfl) (by have := H.out; show O.length ≤ 1000000000; omega)).mono ?_
          rintro e w21 ⟨A21, c21, rfl, hr21, h21, hb21⟩
          have h21b := hb21.mono H20.out.2.1.size
          have H21 := hide (And.intro h21 (And.intro (H20.out.2.1.trans h21b) (And.intro hr21 (H20.out.2.2.1.below h21b))))
          clear h21 hb21 h21b hr21
          go_wp2_with (first
            | ((with_reducible show wpList _ _ _ ({ dst := some 96, op := .convert 29 9 _, type := _, pos := _, after := _, guard := _ } :: _) _ _); refine wpList_bytes_string_g Try.underlying29 Try.underlying5 Try.underlying9 rfl rfl H21.out.2.2.1 ?_)
            | ((with_reducible show wpList _ _ _ ({ dst := some 98, op := .convert 29 9 _, type := _, pos := _, after := _, guard := _ } :: _) _ _); refine wpList_bytes_string_g Try.underlying29 Try.underlying5 Try.underlying9 rfl rfl H21.out.2.2.2 ?_)
            | ((with_reducible show wpList _ _ _ ({ dst := some 107, op := .convert 29 9 _, type := _, pos := _, after := _, guard := _ } :: _) _ _); refine wpList_bytes_string_g Try.underlying29 Try.underlying5 Try.underlying9 rfl rfl H21.out.2.2.1 ?_)
            | ((with_reducible show wpList _ _ _ ({ dst := some 109, op := .convert 29 9 _, type := _, pos := _, after := _, guard := _ } :: _) _ _); refine wpList_bytes_string_g Try.underlying29 Try.underlying5 Try.underlying9 rfl rfl H21.out.2.2.2 ?_))
          have hls := list_fs H21.out.1 (by rw [HC.out.2]; decide)
          rw [HC.out.2] at hls
          refine hls.mono ?_
          rintro e w22 ⟨A22, c22, rfl, _, hb22⟩
          have H22 := hide (H21.out.2.1.trans (hb22.mono H21.out.2.1.size))
          clear hb22 hls
          go_wp2_with fail
          go_ret
          exact ⟨rfl, H22.out⟩
        · have HD := hide (hD.1 (by omega))
          have hm1 : min D 1 = D := by omega
          have hm2 : max 0 D = 0 := by omega
          have hm3 : max 0 (min D 1) = 0 := by omega
          clear hD
          refine (crash_any (ts := []) (c := 0) HW.out.1 (Ri.nil _ w.heap.size) HW.out.2.1.size (of_decide_eq_true rfl) (of_decide_eq_true rfl) (okc8 O F) (of_decide_eq_true rfl) (of_decide_eq_true rfl) (by omega) d0 d1 (by
            intro f hf
            have := H.out
            rcases List.mem_cons.1 hf with rfl | hf
            · show O.length ≤ 1000000; omega
            · rw [List.mem_singleton.1 hf]; show F.length ≤ 1000000; omega)).mono ?_
          rintro e w20 ⟨b20, rfl, h20, hb20⟩
          have HC := hide HD.out
          have h20b := hb20.mono HW.out.2.1.size
          have H20 := hide (And.intro h20 (And.intro (HW.out.2.1.trans h20b) (And.intro (HW.out.2.2.1.below h20b) (HW.out.2.2.2.below h20b))))
          clear h20 hb20 h20b
          unfold ptr
          go_wp2_with fail
          refine (read_ok (k := na) (i := 0) (f := (O, O.length)) H20.out.1 (by decide) (by decide) (by rw [HC.out.2]; rfl) (by rw [HC.out.1]; rfl) (by have := H.out; show O.length ≤ 1000000000; omega)).mono ?_
          rintro e w21 ⟨A21, c21, rfl, hr21, h21, hb21⟩
          have h21b := hb21.mono H20.out.2.1.size
          have H21 := hide (And.intro h21 (And.intro (H20.out.2.1.trans h21b) (And.intro hr21 (H20.out.2.2.1.below h21b))))
          clear h21 hb21 h21b hr21
          go_wp2_with (first
            | ((with_reducible show wpList _ _ _ ({ dst := some 96, op := .convert 29 9 _, type := _, pos := _, after := _, guard := _ } :: _) _ _); refine wpList_bytes_string_g Try.underlying29 Try.underlying5 Try.underlying9 rfl rfl H21.out.2.2.1 ?_)
            | ((with_reducible show wpList _ _ _ ({ dst := some 98, op := .convert 29 9 _, type := _, pos := _, after := _, guard := _ } :: _) _ _); refine wpList_bytes_string_g Try.underlying29 Try.underlying5 Try.underlying9 rfl rfl H21.out.2.2.2 ?_)
            | ((with_reducible show wpList _ _ _ ({ dst := some 107, op := .convert 29 9 _, type := _, pos := _, after := _, guard := _ } :: _) _ _); refine wpList_bytes_string_g Try.underlying29 Try.underlying5 Try.underlying9 rfl rfl H21.out.2.2.1 ?_)
            | ((with_reducible show wpList _ _ _ ({ dst := some 109, op := .convert 29 9 _, type := _, pos := _, after := _, guard := _ } :: _) _ _); refine wpList_bytes_string_g Try.underlying29 Try.underlying5 Try.underlying9 rfl rfl H21.out.2.2.2 ?_))
          have hls := list_fs H21.out.1 (by rw [HC.out.2]; decide)
          rw [HC.out.2] at hls
          refine hls.mono ?_
          rintro e w22 ⟨A22, c22, rfl, _, hb22⟩
          have H22 := hide (H21.out.2.1.trans (hb22.mono H21.out.2.1.size))
          clear hb22 hls
          go_wp2_with fail
          go_ret
          exact ⟨rfl, H22.out⟩
end Go.Proofs.Ytlnmjkilefnjpaa
