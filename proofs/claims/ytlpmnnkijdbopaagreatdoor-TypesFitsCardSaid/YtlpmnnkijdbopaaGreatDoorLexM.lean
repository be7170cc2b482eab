/-
  The walks of the reference's Type, ParseType; of typed: what is a type's text is well formed.
-/
import Derived.Test.YtlpmnnkijdbopaaGreatDoorLexL
import Derived.Test.YtlpmnnkijdbopaaGreatDoorWf
namespace Go.Proofs.YtlpmnnkijdbopaaGreatDoor
open Go.RowKit Go.Maps

theorem cat_list (a b : ByteArray) : (a ++ b).data.toList = a.data.toList ++ b.data.toList := by simp
theorem wf_list {b : ByteArray} (h : WfT b.data.toList) : Wf false ((ByteArray.mk #[91] ++ b) ++ ByteArray.mk #[93]).data.toList := by
  obtain ⟨q, h⟩ := h
  rw [cat_list, cat_list]
  exact .list h
theorem wf_bang {b : ByteArray} (h : Wf false b.data.toList) : WfT (b ++ ByteArray.mk #[33]).data.toList := by
  rw [cat_list]
  exact ⟨true, .bang h⟩
def TyR (A : Option Addr) (n c m μ : Nat) (d k : Int) (w : World) (e : Ending) (w' : World) : Prop := ∃ (j' : Nat) (d' k' p' : Int) (b : ByteArray), e = .returned (.tuple #[stv A n c j' d' k' p', .string b]) ∧ j' < n ∧ d - (μ + 1) ≤ d' ∧ d' ≤ d ∧ b.size ≤ m + 3 * (μ + 1) ∧ (k' = 0 → k = 0 ∧ WfT b.data.toList) ∧ Below w.heap.size w w'
def TyC (A : Option Addr) (n c m μ : Nat) (d k : Int) (w wx : World) (j' : Nat) (d' k' p' : Int) (b : ByteArray) : Prop := Bx w wx (stc A n c j' d' k' p') ∧ Bo w wx z5 69 ∧ j' < n ∧ d - (μ + 1) ≤ d' ∧ d' ≤ d ∧ b.size ≤ m + 3 * μ + 2 ∧ (k' = 0 → k = 0 ∧ Wf false b.data.toList)
set_option maxRecDepth 20000 in
set_option maxHeartbeats 1600000 in
theorem type_any {m n c : Nat} {S : Nat → Prop} {A : Option Addr} {l : List Tk} (hn : l.length = n) (hm : m ≤ 4096) : ∀ (μ : Nat) (w : World) (j : Nat) (t : Tk) (d k p : Int), Env m w S A l → l[j]? = some t → (k = 0 → n - j ≤ μ) → d + μ ≤ 5000 → -5000 ≤ d - μ →
    Calls Tryz.prog 43 #[stv A n c (j : Int) d k p] w (TyR A n c m μ d k w) := by
  intro μ
  induction μ using Nat.strongRecOn with
  | _ μ ih0 =>
    intro w j t d k p h hj hμ hd0 hd1
    have hlt : j < n := by rw [← hn]; exact (List.getElem?_eq_some_iff.1 hj).1
    have IH := hide ih0
    have H := hide (And.intro h (And.intro hn hj))
    have HM := hide (And.intro hμ (And.intro hd0 (And.intro hd1 hm)))
    clear ih0 h hn hj hμ hd0 hd1 hm
    go_enter Tryz.func43, Tryz.ntmps43
    go_upto_region 1 with fail
    obtain ⟨wz, hwz⟩ : ∃ wz, wz = (w.alloc (.cells #[.slice A n c, .int .i64 (j : Int), .int .i64 d, .int .i64 k, .int .i64 p] 69)).alloc (.cells #[.slice none 0 0, .int .i64 0, .int .i64 0, .int .i64 0, .int .i64 0] 69) := ⟨_, rfl⟩
    rw [← hwz]
    have HX := hide (show Bx w wz (stc A n c j d k p) from by rw [hwz]; exact bx_two _ _ _ _)
    have HO := hide (show Bo w wz #[.slice none 0 0, .int .i64 0, .int .i64 0, .int .i64 0, .int .i64 0] 69 from by rw [hwz]; exact bo_two _ _ _ _)
    clear hwz
    have hr := HX.out.range
    go_wp2_with ((with_reducible show wpList _ _ _ ({ dst := _, op := .load 69 _, type := _, pos := _, after := _, guard := _ } :: _) _ _); refine wpList_loadE rfl hr Tryz.underlying69 rfl Tryz.sizeSt rfl ?_)
    refine (is_any2 (H.out.1.more HX.out.below) H.out.2.1 H.out.2.2 d k p _).mono ?_
    rintro e w2 ⟨q, rfl, hq, hb2⟩
    have H2 := hide (HX.out.more hb2)
    have O2 := hide (HO.out.more hb2)
    have HQ := hide hq
    clear hb2 hr hq
    go_upto_if 6 with fail
    go_cut [4] (fun s4 wx => ∃ (j' : Nat) (d' k' p' : Int) (b : ByteArray), s4 = .string b ∧ Hid (TyC A n c m μ d k w wx j' d' k' p' b))
    case first =>
      have hr := H2.out.range
      cases q with
      | true =>
        obtain ⟨hk0, hk5⟩ := HQ.out (by trivial)
        have hμ1 := HM.out.1 hk0
        have HK := hide (And.intro hk0 hμ1)
        clear hk0 hk5 hμ1
        go_wp2_with ((with_reducible show wpList _ _ _ ({ dst := _, op := .load 69 _, type := _, pos := _, after := _, guard := _ } :: _) _ _); refine wpList_loadE rfl hr Tryz.underlying69 rfl Tryz.sizeSt rfl ?_)
        refine (down_any (H.out.1.more H2.out.below) H.out.2.1 H.out.2.2 d k p _ (by have := HM.out.2.2.1; omega) (by have := HM.out.2.1; omega)).mono ?_
        rintro e w3 ⟨i3, d3, k3, p3, rfl, ⟨hd3, j3, rfl, hj3, hs3⟩, hb3⟩
        have H3 := hide (H2.out.more hb3)
        have O3 := hide (O2.out.more hb3)
        have HS3 := hide (And.intro hd3 hs3)
        clear hb3 hr hd3 hs3
        obtain ⟨t3, ht3⟩ : ∃ t3, l[j3]? = some t3 := ⟨_, List.getElem?_eq_getElem (by rw [H.out.2.1]; exact hj3)⟩
        have HT := hide ht3
        clear ht3
        go_wp2_with fail
        have hμp : 1 ≤ μ := by have := HK.out.2; omega
        refine (IH.out (μ - 1) (by omega) w3 j3 t3 d3 k3 p3 (H.out.1.more H3.out.below) HT.out (fun h => by have := (HS3.out.2 h).2; have := HK.out.2; omega) (by have := HM.out.2.1; have := HS3.out.1; omega) (by have := HM.out.2.2.1; have := HS3.out.1; omega)).mono ?_
        rintro e w4 ⟨j4, d4, k4, p4, b4, rfl, hj4, hd4, hd4', hb4, hs4, hbl4⟩
        have H4 := hide (H3.out.more hbl4)
        have O4 := hide (O3.out.more hbl4)
        have HS4 := hide (And.intro hd4 (And.intro hd4' (And.intro hb4 hs4)))
        clear hbl4 hd4 hd4' hb4 hs4
        have H5 := hide (show Bx w (w4.setRow w.heap.size (stc A n c (j4 : Int) d4 k4 p4)) (stc A n c (j4 : Int) d4 k4 p4) from H4.out.row _)
        have O5 := hide (O4.out.row (stc A n c (j4 : Int) d4 k4 p4))
        have hr := H5.out.range
        obtain ⟨t4, ht4⟩ : ∃ t4, l[j4]? = some t4 := ⟨_, List.getElem?_eq_getElem (by rw [H.out.2.1]; exact hj4)⟩
        have HT4 := hide ht4
        clear ht4
        go_wp2_with (first | ((with_reducible show wpList _ _ _ ({ dst := _, op := .store 69 _ _, type := _, pos := _, after := _, guard := _ } :: _) _ _); refine wpList_store_row rfl 69 _ _ rfl w.heap.size (stc A n c (j4 : Int) d4 k4 p4) rfl rfl 69 _ H4.out.box Tryz.sizeSt rfl (st_one _ _ _ _ _ _ _) ?_) | ((with_reducible show wpList _ _ _ ({ dst := _, op := .load 69 _, type := _, pos := _, after := _, guard := _ } :: _) _ _); refine wpList_loadE rfl hr Tryz.underlying69 rfl Tryz.sizeSt rfl ?_))
        refine (up_any (H.out.1.more H5.out.below) H.out.2.1 HT4.out d4 k4 p4 _ (by have := HM.out.2.2.1; have := HS3.out.1; have := HS4.out.1; omega) (by have := HM.out.2.1; have := HS3.out.1; have := HS4.out.2.1; omega)).mono ?_
        rintro e w6 ⟨i6, d6, k6, p6, rfl, ⟨hd6, j6, rfl, hj6, hs6⟩, hb6⟩
        have H6 := hide (H5.out.more hb6)
        have O6 := hide (O5.out.more hb6)
        have HS6 := hide (And.intro hd6 hs6)
        clear hb6 hr hd6 hs6
        go_wp2_with (first | ((with_reducible show wpList _ _ _ ({ dst := _, op := .store 69 _ _, type := _, pos := _, after := _, guard := _ } :: _) _ _); refine wpList_store_row rfl 69 _ _ rfl w.heap.size (stc A n c (j6 : Int) d6 k6 p6) rfl rfl 69 _ H6.out.box Tryz.sizeSt rfl (st_one _ _ _ _ _ _ _) ?_) | ((with_reducible show wpList _ _ _ ({ dst := _, op := .binOp .add 9 _ _ 9, type := _, pos := _, after := _, guard := _ } :: _) _ _); refine wpList_catB rfl rfl (by have h1 := HS4.out.2.2.1; have h2 := HM.out.2.1; have h3 := HM.out.2.2.1; have h4 := HM.out.2.2.2; have h5 : (ByteArray.mk #[91]).size = 1 := rfl; have h6 : (ByteArray.mk #[93]).size = 1 := rfl; (try simp only [ByteArray.size_append]); omega) ?_))
        go_meet
        exact ⟨j6, d6, k6, p6, _, rfl, hide ⟨H6.out.row _, O6.out.row _, hj6, by have := HS3.out.1; have := HS4.out.1; have := HS6.out.1; omega, by have := HS3.out.1; have := HS4.out.2.1; have := HS6.out.1; omega, by have h1 := HS4.out.2.2.1; have h5 : (ByteArray.mk #[91]).size = 1 := rfl; have h6 : (ByteArray.mk #[93]).size = 1 := rfl; (try simp only [ByteArray.size_append]); omega, fun h => ⟨HK.out.1, wf_list (HS4.out.2.2.2 (HS6.out.2 h)).2⟩⟩⟩
      | false =>
        go_wp2_with ((with_reducible show wpList _ _ _ ({ dst := _, op := .load 69 _, type := _, pos := _, after := _, guard := _ } :: _) _ _); refine wpList_loadE rfl hr Tryz.underlying69 rfl Tryz.sizeSt rfl ?_)
        refine (nm_any (H.out.1.more H2.out.below) H.out.2.1 H.out.2.2 d k p).mono ?_
        rintro e w3 ⟨i3, d3, k3, p3, b3, rfl, ⟨rfl, hb3, j3, rfl, hj3, hs3⟩, hbl3⟩
        have H3 := hide (H2.out.more hbl3)
        have O3 := hide (O2.out.more hbl3)
        have HS3 := hide (And.intro hb3 hs3)
        clear hbl3 hr hb3 hs3
        go_wp2_with ((with_reducible show wpList _ _ _ ({ dst := _, op := .store 69 _ _, type := _, pos := _, after := _, guard := _ } :: _) _ _); refine wpList_store_row rfl 69 _ _ rfl w.heap.size (stc A n c (j3 : Int) d3 k3 p3) rfl rfl 69 _ H3.out.box Tryz.sizeSt rfl (st_one _ _ _ _ _ _ _) ?_)
        go_meet
        exact ⟨j3, d3, k3, p3, b3, rfl, hide ⟨H3.out.row _, O3.out.row _, hj3, by omega, by omega, by have := HS3.out.1; omega, fun h => ⟨(HS3.out.2 h).1, .name (HS3.out.2 h).2⟩⟩⟩
    case rest =>
      obtain ⟨j', d', k', p', b, rfl, HC⟩ := hcut
      have HB := hide HC.out.1
      have HOo := hide HC.out.2.1
      have hj' := HC.out.2.2.1
      have hr := HB.out.range
      obtain ⟨t', ht'⟩ : ∃ t', l[j']? = some t' := ⟨_, List.getElem?_eq_getElem (by rw [H.out.2.1]; exact hj')⟩
      have HT := hide ht'
      clear ht'
      go_wp2_with ((with_reducible show wpList _ _ _ ({ dst := _, op := .load 69 _, type := _, pos := _, after := _, guard := _ } :: _) _ _); refine wpList_loadE rfl hr Tryz.underlying69 rfl Tryz.sizeSt rfl ?_)
      refine (is_any2 (H.out.1.more HB.out.below) H.out.2.1 HT.out d' k' p' _).mono ?_
      rintro e w7 ⟨q7, rfl, hq7, hb7⟩
      have H7 := hide (HB.out.more hb7)
      have O7 := hide (HOo.out.more hb7)
      clear hb7 hr hq7
      have hr := H7.out.range
      cases q7 with
      | true =>
        go_wp2_with ((with_reducible show wpList _ _ _ ({ dst := _, op := .load 69 _, type := _, pos := _, after := _, guard := _ } :: _) _ _); refine wpList_loadE rfl hr Tryz.underlying69 rfl Tryz.sizeSt rfl ?_)
        refine (step_any (H.out.1.more H7.out.below) H.out.2.1 HT.out d' k' p').mono ?_
        rintro e w8 ⟨i8, d8, k8, p8, rfl, ⟨rfl, rfl, j8, rfl, hj8, hs8⟩, hb8⟩
        have H8 := hide (H7.out.more hb8)
        have O8 := hide (O7.out.more hb8)
        clear hb8 hr hs8
        go_wp2_with (first | ((with_reducible show wpList _ _ _ ({ dst := _, op := .store 69 _ _, type := _, pos := _, after := _, guard := _ } :: _) _ _); refine wpList_store_row rfl 69 _ _ rfl (w.heap.size + 1) (stc A n c (j8 : Int) d8 k8 p8) rfl rfl 69 _ O8.out.out Tryz.sizeSt rfl (st_one _ _ _ _ _ _ _) ?_) | ((with_reducible show wpList _ _ _ ({ dst := _, op := .binOp .add 9 _ _ 9, type := _, pos := _, after := _, guard := _ } :: _) _ _); refine wpList_catB rfl rfl (by have h1 := HC.out.2.2.2.2.2.1; have h2 := HM.out.2.1; have h3 := HM.out.2.2.1; have h4 := HM.out.2.2.2; have h5 : (ByteArray.mk #[33]).size = 1 := rfl; omega) ?_))
        refine bodyPost_ret (v := .tuple #[stv A n c (j8 : Int) d8 k8 p8, .string (b ++ ByteArray.mk #[33])]) (results_row_tmp (u := 3) Tryz.results43 _ _ (w.heap.size + 1) 69 _ (0, 0) _ rfl rfl (O8.out.done _) Tryz.underlying69 rfl Tryz.sizeSt) rfl ⟨j8, d8, k8, p8, _, rfl, hj8, HC.out.2.2.2.1, HC.out.2.2.2.2.1, by have h1 := HC.out.2.2.2.2.2.1; have h5 : (ByteArray.mk #[33]).size = 1 := rfl; rw [ByteArray.size_append]; omega, fun h => ⟨(HC.out.2.2.2.2.2.2 h).1, wf_bang (HC.out.2.2.2.2.2.2 h).2⟩, (H8.out.out _).below⟩
      | false =>
        go_wp2_with (first | ((with_reducible show wpList _ _ _ ({ dst := _, op := .load 69 _, type := _, pos := _, after := _, guard := _ } :: _) _ _); refine wpList_loadE rfl hr Tryz.underlying69 rfl Tryz.sizeSt rfl ?_) | ((with_reducible show wpList _ _ _ ({ dst := _, op := .store 69 _ _, type := _, pos := _, after := _, guard := _ } :: _) _ _); refine wpList_store_row rfl 69 _ _ rfl (w.heap.size + 1) (stc A n c (j' : Int) d' k' p') rfl rfl 69 _ O7.out.out Tryz.sizeSt rfl (st_one _ _ _ _ _ _ _) ?_))
        refine bodyPost_ret (v := .tuple #[stv A n c (j' : Int) d' k' p', .string b]) (results_row_tmp (u := 3) Tryz.results43 _ _ (w.heap.size + 1) 69 _ (0, 0) _ rfl rfl (O7.out.done _) Tryz.underlying69 rfl Tryz.sizeSt) rfl ⟨j', d', k', p', _, rfl, hj', HC.out.2.2.2.1, HC.out.2.2.2.2.1, by have h1 := HC.out.2.2.2.2.2.1; omega, fun h => ⟨(HC.out.2.2.2.2.2.2 h).1, ⟨false, (HC.out.2.2.2.2.2.2 h).2⟩⟩, (H7.out.out _).below⟩
end Go.Proofs.YtlpmnnkijdbopaaGreatDoor
