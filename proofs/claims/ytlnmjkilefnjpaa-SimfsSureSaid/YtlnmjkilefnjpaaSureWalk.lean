/-
  The walk of the law of what is sure.
-/
import Derived.Test.YtlnmjkilefnjpaaSureLaw
import Derived.IntWalk
namespace Go.Proofs.Ytlnmjkilefnjpaa
open Go.RowKit Go.Maps

set_option maxRecDepth 100000 in
set_option maxHeartbeats 12800000 in
theorem sure_one {w : World} {B m n : Nat} {A C : Option Addr} {O M : List UInt8} (x y : Int) (c d : Nat) (hr : Rb w B A m O) (hr2 : Rb w B C n M) (hB : B ≤ w.heap.size) (hm : m ≤ 300) (hn : n ≤ 300)
    (x0 : -9223372036854775808 ≤ x) (x1 : x ≤ 9223372036854775807) (y0 : -9223372036854775808 ≤ y) (y1 : y ≤ 9223372036854775807) :
    Calls Try.prog 4 #[.slice A m c, .slice C n d, .agg #[.int .i64 x, .int .i64 y]] w fun e w' => e = .returned (.bool true) ∧ Below w.heap.size w w' := by
  have i1 : (m : Int) ≤ 300 := by omega
  have i2 : (n : Int) ≤ 300 := by omega
  have hO := hr.len
  have hM := hr2.len
  have hx : Below w.heap.size w (w.alloc (.cells #[.int .i64 x, .int .i64 y] 36)) := (Below.refl _ _).alloc (Nat.le_refl _) _
  obtain ⟨wa, hwa⟩ : ∃ wa, wa = w.alloc (.cells #[.int .i64 x, .int .i64 y] 36) := ⟨_, rfl⟩
  have hza : wa.heap.size = w.heap.size + 1 := by rw [hwa]; simp
  have cx : wa.cell? ⟨w.heap.size, 0, none⟩ = some (.int .i64 x) := by rw [hwa, cell_of_row _ _ _ _ _ _ (heap_alloc_new w _)]; rfl
  have cy : wa.cell? ⟨w.heap.size, 1, none⟩ = some (.int .i64 y) := by rw [hwa, cell_of_row _ _ _ _ _ _ (heap_alloc_new w _)]; rfl
  rw [← hwa] at hx
  have hwa2 : w.alloc (.cells #[.int .i64 x, .int .i64 y] 36) = wa := hwa.symm
  have H := hide (And.intro ((hr.more hB).below hx) (And.intro ((hr2.more hB).below hx) (And.intro hO (And.intro hM (And.intro hm (And.intro hn (And.intro hx (And.intro hza (And.intro cx cy)))))))))
  clear hr hr2 hB hm hn hO hM hx hwa hza cx cy
  go_enter Try.func4, Try.ntmps4
  go_wp2_with fail
  clear hwa2
  refine (awake_any _).mono ?_
  rintro e w1 ⟨rfl, hb1⟩
  have H1 := hide (And.intro hb1 (by have := hb1.size; have := H.out.2.2.2.2.2.2.2.1; omega : w.heap.size + 1 ≤ w1.heap.size))
  clear hb1
  go_wp2_with fail
  refine (new_any 2000 _ (by omega) (by omega)).mono ?_
  rintro e w2 ⟨rfl, h2, hb2⟩
  have hb2 : Below (w.heap.size + 1) wa w2 := (H1.out.1.mono (by have := H.out.2.2.2.2.2.2.2.1; omega)).trans (hb2.mono H1.out.2)
  have H2 := hide (And.intro h2 hb2)
  clear h2 hb2
  unfold ptr
  go_wp2_with fail
  refine (create_ok (k := nk) H2.out.1 (by decide) (by decide) rfl (of_decide_eq_true rfl) (of_decide_eq_true rfl) (of_decide_eq_true rfl) (of_decide_eq_true rfl) (of_decide_eq_true rfl)).mono ?_
  rintro e w3 ⟨rfl, h3, hb3⟩
  rw [su1_eq] at h3
  have H3 := hide (And.intro h3 (H2.out.2.trans (hb3.mono H1.out.2)))
  clear h3 hb3
  go_wp2_with fail
  refine (append_ok (k := nk) (i := 0) (f := ([], 0)) H3.out.1 (by decide) (by decide) rfl rfl (by have := H.out; show 0 + m ≤ 65536; omega) (of_decide_eq_true rfl) (of_decide_eq_true rfl) (of_decide_eq_true rfl) (of_decide_eq_true rfl) (of_decide_eq_true rfl) (by have := H.out; show ((0 : Nat) : Int) + (m : Int) ≤ 2000; omega) (((H.out.1).below (H3.out.2.mono (Nat.le_succ _)))) (by have := H3.out.2.size; have := H.out.2.2.2.2.2.2.2.1; omega)).mono ?_
  rintro e w4 ⟨rfl, h4, hb4⟩
  rw [su2_eq] at h4
  have H4 := hide (And.intro h4 (H3.out.2.trans (hb4.mono H1.out.2)))
  clear h4 hb4
  go_wp2_with fail
  refine (sync_ok (k := nk) (i := 0) H4.out.1 (by decide) (by decide) rfl (of_decide_eq_true rfl) (of_decide_eq_true rfl)).mono ?_
  rintro e w5 ⟨rfl, h5, hb5⟩
  rw [su3_eq] at h5
  have H5 := hide (And.intro h5 (H4.out.2.trans (hb5.mono H1.out.2)))
  clear h5 hb5
  go_wp2_with fail
  refine (syncdir_ok H5.out.1 (of_decide_eq_true rfl) (of_decide_eq_true rfl)).mono ?_
  rintro e w6 ⟨rfl, h6, hb6⟩
  rw [su4_eq] at h6
  have H6 := hide (And.intro h6 (H5.out.2.trans (hb6.mono H1.out.2)))
  clear h6 hb6
  go_wp2_with fail
  refine (append_ok (k := nk) (i := 0) (f := (O, O.length)) H6.out.1 (by decide) (by decide) rfl rfl (by have := H.out; show O.length + n ≤ 65536; omega) (by rw [su4_used]; have := H.out; omega) (of_decide_eq_true rfl) (of_decide_eq_true rfl) (of_decide_eq_true rfl) (of_decide_eq_true rfl) (by rw [su4_used]; have := H.out; show (O.length : Int) + (n : Int) ≤ 2000; omega) (((H.out.2.1).below (H6.out.2.mono (Nat.le_succ _)))) (by have := H6.out.2.size; have := H.out.2.2.2.2.2.2.2.1; omega)).mono ?_
  rintro e w7 ⟨rfl, h7, hb7⟩
  rw [su5_eq] at h7
  have H7 := hide (And.intro h7 (H6.out.2.trans (hb7.mono H1.out.2)))
  clear h7 hb7
  go_wp2_with fail
  refine (create_ok (k := nl) H7.out.1 (by decide) (by decide) rfl (of_decide_eq_true rfl) (of_decide_eq_true rfl) (of_decide_eq_true rfl) (of_decide_eq_true rfl) (of_decide_eq_true rfl)).mono ?_
  rintro e w8 ⟨rfl, h8, hb8⟩
  rw [su6_eq] at h8
  have H8 := hide (And.intro h8 (H7.out.2.trans (hb8.mono H1.out.2)))
  clear h8 hb8
  go_wp2_with fail
  refine (append_ok (k := nl) (i := 1) (f := ([], 0)) H8.out.1 (by decide) (by decide) rfl rfl (by have := H.out; show 0 + n ≤ 65536; omega) (by rw [su6_used]; have := H.out; omega) (of_decide_eq_true rfl) (of_decide_eq_true rfl) (of_decide_eq_true rfl) (of_decide_eq_true rfl) (by rw [su6_used]; have := H.out; show ((O.length + M.length : Nat) : Int) + (n : Int) ≤ 2000; omega) (((H.out.2.1).below (H8.out.2.mono (Nat.le_succ _)))) (by have := H8.out.2.size; have := H.out.2.2.2.2.2.2.2.1; omega)).mono ?_
  rintro e w9 ⟨rfl, h9, hb9⟩
  rw [su7_eq] at h9
  have H9 := hide (And.intro h9 (H8.out.2.trans (hb9.mono H1.out.2)))
  clear h9 hb9
  go_wp2_with fail
  refine (sync_ok (k := nl) (i := 1) H9.out.1 (by decide) (by decide) rfl (of_decide_eq_true rfl) (of_decide_eq_true rfl)).mono ?_
  rintro e w10 ⟨rfl, h10, hb10⟩
  rw [su8_eq] at h10
  have H10 := hide (And.intro h10 (H9.out.2.trans (hb10.mono H1.out.2)))
  clear h10 hb10
  go_wp2_with fail
  refine (rename_ok (k := nl) (to := nz) (i := 1) H10.out.1 (by decide) (by decide) (by decide) (by decide) rfl (of_decide_eq_true rfl) (of_decide_eq_true rfl) (of_decide_eq_true rfl) (of_decide_eq_true rfl) (of_decide_eq_true rfl)).mono ?_
  rintro e w11 ⟨rfl, h11, hb11⟩
  rw [su9_eq] at h11
  have H11 := hide (And.intro h11 (H10.out.2.trans (hb11.mono H1.out.2)))
  clear h11 hb11
  have hx : Below w11.heap.size w11 (w11.alloc (.cells (List.replicate 9 (Value.int .i64 0)).toArray 26)) := (Below.refl _ _).alloc (Nat.le_refl _) _
  have hz := zeros_row (w := w11) (n := 9) (T := 26) 0 (Nat.zero_le _) (by unfold maxLen; omega)
  have hsz11 : w.heap.size + 1 ≤ w11.heap.size := by have := H11.out.2.size; have := H.out.2.2.2.2.2.2.2.1; omega
  have hb11 : Below (w.heap.size + 1) wa (w11.alloc (.cells (List.replicate 9 (Value.int .i64 0)).toArray 26)) := H11.out.2.trans (hx.mono hsz11)
  have hz11 : ∀ k, k < 9 → (w11.alloc (.cells (List.replicate 9 (Value.int .i64 0)).toArray 26)).cell? ⟨w11.heap.size, k, none⟩ = some (.int .i64 0) := by
    intro k hk
    obtain ⟨g, hg, hc⟩ := row_cell (k := k) (v := .int .i64 0) hz (by rw [List.getElem?_replicate, if_pos hk])
    injection hg with hg
    injection hg with hg
    subst hg
    exact hc
  have h11 := H11.out.1.below hx
  obtain ⟨wl, hwl⟩ : ∃ wl, wl = w11.alloc (.cells (List.replicate 9 (Value.int .i64 0)).toArray 26) := ⟨_, rfl⟩
  rw [← hwl] at hz11 hb11 h11
  have hwl2 : w11.alloc (.cells #[.int .i64 0, .int .i64 0, .int .i64 0, .int .i64 0, .int .i64 0, .int .i64 0, .int .i64 0, .int .i64 0, .int .i64 0] 26) = wl := hwl.symm
  have HZ := hide hz11
  have HW := hide (And.intro h11 hb11)
  clear hx hz hsz11 hb11 hz11 h11 hwl
  go_wp2_with fail
  clear hwl2
  go_loop [64] (fun i => ∃ k : Nat, k ≤ 9 ∧ i = .int .i64 k) (fun i => 9 - (intOf i).toNat)
  case atStart => exact ⟨0, Nat.zero_le _, rfl⟩
  case round =>
    obtain ⟨k, hk, rfl⟩ := hrel
    by_cases hlt : k < 9
    · have hc := HZ.out k hlt
      go_wp2_with fail
      go_round
      case rel => exact ⟨k + 1, by omega, by go_num⟩
      case measure => simp [intOf]; omega
    · have hkk : k = 9 := by omega
      subst hkk
      have cx : wl.cell? ⟨w.heap.size, 0, none⟩ = some (.int .i64 x) := (HW.out.2.cell (p := ⟨w.heap.size, 0, none⟩) (Nat.lt_succ_self _)).trans H.out.2.2.2.2.2.2.2.2.1
      have cy : wl.cell? ⟨w.heap.size, 1, none⟩ = some (.int .i64 y) := (HW.out.2.cell (p := ⟨w.heap.size, 1, none⟩) (Nat.lt_succ_self _)).trans H.out.2.2.2.2.2.2.2.2.2
      go_wp2_with fail
      have hx : Below wl.heap.size wl (wl.alloc (.cells ([y, 5].map (Value.int .i64)).toArray 3)) := (Below.refl _ _).alloc (Nat.le_refl _) _
      have hszl : w.heap.size + 1 ≤ wl.heap.size := by have := HW.out.2.size; have := H.out.2.2.2.2.2.2.2.1; omega
      have HX := hide (And.intro (HW.out.1.below hx) (HW.out.2.trans (hx.mono hszl)))
      refine (crash_any (ts := [y, 5]) (c := 2) HX.out.1 (Ri.lit wl [y, 5] 3 (0, 0)) (by simp) (of_decide_eq_true rfl) (of_decide_eq_true rfl) (okc_su O M) (of_decide_eq_true rfl) (of_decide_eq_true rfl) (by simp) x0 x1 (by
        intro f hf
        have := H.out
        rcases List.mem_cons.1 hf with rfl | hf
        · show (O ++ M).length ≤ 1000000; rw [List.length_append]; omega
        · rw [List.mem_singleton.1 hf]; show M.length ≤ 1000000; omega)).mono ?_
      rintro e w20 ⟨b20, rfl, h20, hb20⟩
      have hszl2 : w.heap.size + 1 ≤ (wl.alloc (.cells ([y, 5].map (Value.int .i64)).toArray 3)).heap.size := by simp; omega
      have H20 := hide (And.intro h20 (HX.out.2.trans (hb20.mono hszl2)))
      clear hx hszl hszl2 h20 hb20 cx cy
      unfold ptr
      go_wp2_with fail
      have hread := cr_su O M x y
      have hk0 : ((su9 O M).crash x [y, 5]).files[0]? = some (suk O M y, (suk O M y).length) := by
        by_cases q0 : x ≤ 0
        · rw [(hread.1 q0).1]; rfl
        by_cases q1 : x = 1
        · rw [(hread.2.1 q1).1]; rfl
        · rw [(hread.2.2 (by omega)).1]; rfl
      have hk1 : dget ((su9 O M).crash x [y, 5]).dir nk = some 0 := by
        by_cases q0 : x ≤ 0
        · rw [(hread.1 q0).2]; rfl
        by_cases q1 : x = 1
        · rw [(hread.2.1 q1).2]; rfl
        · rw [(hread.2.2 (by omega)).2]; rfl
      have HK := hide (And.intro hk0 hk1)
      have HR := hide hread
      clear hk0 hk1 hread
      have hsl := suk_len O M y
      have hsm : O.length + M.length ≤ 600 ∧ sut M y ≤ M.length := by have := H.out; unfold sut; omega
      have HS := hide (And.intro hsl hsm)
      clear hsl hsm
      refine (read_ok (k := nk) (i := 0) (f := (suk O M y, (suk O M y).length)) H20.out.1 (by decide) (by decide) HK.out.2 HK.out.1 (by have := HS.out; show (suk O M y).length ≤ 1000000000; omega)).mono ?_
      rintro e w21 ⟨A21, c21, rfl, hr21, h21, hb21⟩
      have hsz20 : w.heap.size + 1 ≤ w20.heap.size := by have := H20.out.2.size; have := H.out.2.2.2.2.2.2.2.1; omega
      have hb21 := H20.out.2.trans (hb21.mono hsz20)
      have hw21 := hb21.mono (Nat.le_succ w.heap.size)
      have H21 := hide (And.intro h21 (And.intro hb21 (And.intro hr21 (And.intro (H.out.1.below hw21) (H.out.2.1.below hw21)))))
      clear h21 hb21 hr21 hw21 hsz20
      obtain ⟨AL, hAL⟩ : ∃ AL : ByteArray, AL = ⟨(O ++ M).toArray⟩ := ⟨_, rfl⟩
      have hadd : ∀ w0 : World, (Op.stringOp .add ⟨O.toArray⟩ ⟨M.toArray⟩).run Try.prog w0 = .ok (.string AL) w0 := fun w0 => by
        rw [hAL]
        rw [run_string_add_sum (P := Try.prog) (w := w0) ⟨O.toArray⟩ ⟨M.toArray⟩ (by have := HS.out.2.1; show O.toArray.size + M.toArray.size ≤ _; simp; omega)]
        congr 2
      go_wp2_with (first
        | ((with_reducible show wpList _ _ _ ({ dst := some 86, op := .convert 29 9 _, type := _, pos := _, after := _, guard := _ } :: _) _ _); refine wpList_bytes_string_g Try.underlying29 Try.underlying5 Try.underlying9 rfl rfl H21.out.2.2.2.1 ?_)
        | ((with_reducible show wpList _ _ _ ({ dst := some 88, op := .convert 29 9 _, type := _, pos := _, after := _, guard := _ } :: _) _ _); refine wpList_bytes_string_g Try.underlying29 Try.underlying5 Try.underlying9 rfl rfl H21.out.2.2.2.2 ?_))
      obtain ⟨K, hKd⟩ : ∃ K, K = suk O M y := ⟨_, rfl⟩
      rw [← hKd]
      have hcv : ∀ q', (convert 29 9 (.slice A21 K.length c21)).run Try.prog (w21.drewN q') = .ok (.string ⟨K.toArray⟩) (w21.drewN q') := fun q' =>
        run_bytes_string Try.underlying29 Try.underlying5 Try.underlying9 c21 (by rw [hKd]; exact H21.out.2.2.1.drewN q')
      have hKl : K.length = O.length + sut M y := by rw [hKd]; exact HS.out.1
      have hOm : O.length = m := H.out.2.2.1
      have hMn : M.length = n := H.out.2.2.2.1
      have hsu := HS.out.2.2
      have k1 : decide (K.length < m) = false := by simp; omega
      have k1i : (m : Int) ≤ (K.length : Int) := by omega
      have hals : AL.size = O.length + M.length := by rw [hAL]; show (O ++ M).toArray.size = _; simp
      have k2 : decide ((O.length : Int) + (M.length : Int) < (K.length : Int)) = false := by rw [decide_eq_false_iff_not]; omega
      have k2i : (K.length : Int) ≤ (O.length : Int) + (M.length : Int) := by omega
      have k5 : (⟨(O ++ M).toArray⟩ : ByteArray).extract 0 K.length = ⟨K.toArray⟩ := by
        have h1 : K = (O ++ M).take K.length := by
          have := hKd
          unfold suk at this
          rw [hKl, ← this]
        apply ByteArray.ext
        rw [ByteArray.data_extract]
        conv => rhs; rw [h1]
        simp
      have k3 : IntKind.i64.wrap ((K.length : Int) - (m : Int)) = (sut M y : Int) := by rw [IntWalk.i64_in _ (by omega)]; omega
      have k4 : max 0 (min y (n : Int)) = (sut M y : Int) := by unfold sut; omega
      have cy21 : w21.cell? ⟨w.heap.size, 1, none⟩ = some (.int .i64 y) := (H21.out.2.1.cell (p := ⟨w.heap.size, 1, none⟩) (Nat.lt_succ_self _)).trans H.out.2.2.2.2.2.2.2.2.2
      have hKK := hide (And.intro hKd hKl)
      have HAL := hide hAL
      clear hKd hKl hOm hMn hsu hals hAL hadd
      go_quiet (fail)
      have hd22 : Below w21.heap.size w21 (w21.drewN nq) := ⟨rfl, rfl, rfl, Nat.le_refl _, fun _ _ => rfl⟩
      have H22 := hide (And.intro (H21.out.1.below hd22) (H21.out.2.1.trans (hd22.mono (by have := H21.out.2.1.size; have := H.out.2.2.2.2.2.2.2.1; omega))))
      obtain ⟨w22, hw22⟩ : ∃ w22, w22 = w21.drewN nq := ⟨_, rfl⟩
      rw [← hw22] at H22 ⊢
      clear hd22 hw22 hcv k1 k1i k2 k2i k3 k4 k5 cy21
      go_wp2_with fail
      by_cases q0 : x ≤ 0
      · have HD := hide (HR.out.1 q0)
        refine (read_none (k := nl) H22.out.1 (by decide) (by decide) (by rw [HD.out.2]; rfl)).mono ?_
        rintro e w23 ⟨rfl, h23, hb23⟩
        have hb23 := H22.out.2.trans (hb23.mono (by have := H22.out.2.size; have := H.out.2.2.2.2.2.2.2.1; omega))
        have H23 := hide (And.intro h23 hb23)
        clear h23 hb23
        go_wp2_with fail
        refine (read_none (k := nz) H23.out.1 (by decide) (by decide) (by rw [HD.out.2]; rfl)).mono ?_
        rintro e w24 ⟨rfl, h24, hb24⟩
        have hb24 := H23.out.2.trans (hb24.mono (by have := H23.out.2.size; have := H.out.2.2.2.2.2.2.2.1; omega))
        have H24 := hide (And.intro h24 hb24)
        clear h24 hb24
        have cx24 : w24.cell? ⟨w.heap.size, 0, none⟩ = some (.int .i64 x) := (H24.out.2.cell (p := ⟨w.heap.size, 0, none⟩) (Nat.lt_succ_self _)).trans H.out.2.2.2.2.2.2.2.2.1
        go_wp2_with fail
        go_ret
        exact ⟨rfl, H.out.2.2.2.2.2.2.1.trans (H24.out.2.mono (Nat.le_succ w.heap.size))⟩
      by_cases q1 : x = 1
      · have HD := hide (HR.out.2.1 q1)
        subst q1
        refine (read_ok (k := nl) (i := 1) (f := (M, M.length)) H22.out.1 (by decide) (by decide) (by rw [HD.out.2]; rfl) (by rw [HD.out.1]; rfl) (by have := H.out; show M.length ≤ 1000000000; omega)).mono ?_
        rintro e w23 ⟨A23, c23, rfl, hr23, h23, hb23⟩
        have hb23 := H22.out.2.trans (hb23.mono (by have := H22.out.2.size; have := H.out.2.2.2.2.2.2.2.1; omega))
        have HRB23 := hide hr23
        have H23 := hide (And.intro h23 hb23)
        clear h23 hb23 hr23
        go_wp2_with fail
        refine (read_none (k := nz) H23.out.1 (by decide) (by decide) (by rw [HD.out.2]; rfl)).mono ?_
        rintro e w24 ⟨rfl, h24, hb24⟩
        have hb24 := H23.out.2.trans (hb24.mono (by have := H23.out.2.size; have := H.out.2.2.2.2.2.2.2.1; omega))
        have H24 := hide (And.intro h24 hb24)
        clear h24 hb24
        have cx24 : w24.cell? ⟨w.heap.size, 0, none⟩ = some (.int .i64 1) := (H24.out.2.cell (p := ⟨w.heap.size, 0, none⟩) (Nat.lt_succ_self _)).trans H.out.2.2.2.2.2.2.2.2.1
        go_wp2_with fail
        go_ret
        exact ⟨rfl, H.out.2.2.2.2.2.2.1.trans (H24.out.2.mono (Nat.le_succ w.heap.size))⟩
      · have q2 : 2 ≤ x := by omega
        have HD := hide (HR.out.2.2 q2)
        have q3 : (x == 1) = false := by simp only [beq_eq_false_iff_ne, ne_eq]; omega
        have q4 : (1 : Int) < x := by omega
        refine (read_none (k := nl) H22.out.1 (by decide) (by decide) (by rw [HD.out.2]; rfl)).mono ?_
        rintro e w23 ⟨rfl, h23, hb23⟩
        have hb23 := H22.out.2.trans (hb23.mono (by have := H22.out.2.size; have := H.out.2.2.2.2.2.2.2.1; omega))
        have H23 := hide (And.intro h23 hb23)
        clear h23 hb23
        go_wp2_with fail
        refine (read_ok (k := nz) (i := 1) (f := (M, M.length)) H23.out.1 (by decide) (by decide) (by rw [HD.out.2]; rfl) (by rw [HD.out.1]; rfl) (by have := H.out; show M.length ≤ 1000000000; omega)).mono ?_
        rintro e w24 ⟨A24, c24, rfl, hr24, h24, hb24⟩
        have hb24 := H23.out.2.trans (hb24.mono (by have := H23.out.2.size; have := H.out.2.2.2.2.2.2.2.1; omega))
        have HRB24 := hide hr24
        have H24 := hide (And.intro h24 hb24)
        clear h24 hb24 hr24
        have cx24 : w24.cell? ⟨w.heap.size, 0, none⟩ = some (.int .i64 x) := (H24.out.2.cell (p := ⟨w.heap.size, 0, none⟩) (Nat.lt_succ_self _)).trans H.out.2.2.2.2.2.2.2.2.1
        have hrM := (H.out.2.1.below (H24.out.2.mono (Nat.le_succ w.heap.size)))
        have HRM := hide hrM
        clear hrM
        go_wp2_with (first
          | ((with_reducible show wpList _ _ _ ({ dst := some 167, op := .convert 29 9 _, type := _, pos := _, after := _, guard := _ } :: _) _ _); refine wpList_bytes_string_g Try.underlying29 Try.underlying5 Try.underlying9 rfl rfl HRB24.out ?_)
          | ((with_reducible show wpList _ _ _ ({ dst := some 169, op := .convert 29 9 _, type := _, pos := _, after := _, guard := _ } :: _) _ _); refine wpList_bytes_string_g Try.underlying29 Try.underlying5 Try.underlying9 rfl rfl HRM.out ?_))
        go_ret
        exact ⟨rfl, H.out.2.2.2.2.2.2.1.trans (H24.out.2.mono (Nat.le_succ w.heap.size))⟩
end Go.Proofs.Ytlnmjkilefnjpaa
