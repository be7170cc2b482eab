/-
  The walks of the reference's states: Name, Down, Up, End, Begin.
-/
import Derived.Test.YtlpmnnkijdbopaaGreatDoorLexK
namespace Go.Proofs.YtlpmnnkijdbopaaGreatDoor
open Go.RowKit Go.Maps

def NmR (A : Option Addr) (n c : Nat) (w : World) (Q : Int → Int → Int → ByteArray → Prop) (e : Ending) (w' : World) : Prop := ∃ (i' d' k' p' : Int) (b : ByteArray), e = .returned (.tuple #[stv A n c i' d' k' p', .string b]) ∧ Q i' d' k' b ∧ Below w.heap.size w w'
set_option maxRecDepth 20000 in
set_option maxHeartbeats 800000 in
theorem nm_any {m n c : Nat} {w : World} {S : Nat → Prop} {A : Option Addr} {l : List Tk} (h : Env m w S A l) (hn : l.length = n) {j : Nat} {t : Tk} (hj : l[j]? = some t) (d k p : Int) : Calls Tryz.prog 62 #[stv A n c (j : Int) d k p] w (NmR A n c w fun i' d' k' b => d' = d ∧ b.size ≤ m ∧ ∃ j' : Nat, i' = j' ∧ j' < n ∧ (k' = 0 → k = 0 ∧ good b.data.toList)) := by
  have hlt : j < n := by rw [← hn]; exact (List.getElem?_eq_some_iff.1 hj).1
  have i1 : (n : Int) ≤ 1501 := by have := h.tk.cnt; omega
  have q0 := run_tk0
  have q1 := run_tk1
  have q2 := run_tk2
  have H := hide (And.intro h (And.intro hn hj))
  clear h hn hj
  have hok := H.out.1.tk.ok t (List.mem_of_getElem? H.out.2.2)
  have HK := hide hok
  clear hok
  go_enter Tryz.func62, Tryz.ntmps62
  go_upto_region 1 with fail
  obtain ⟨wz, hwz⟩ : ∃ wz, wz = (w.alloc (.cells #[.slice A n c, .int .i64 (j : Int), .int .i64 d, .int .i64 k, .int .i64 p] 69)).alloc (.cells #[.slice none 0 0, .int .i64 0, .int .i64 0, .int .i64 0, .int .i64 0] 69) := ⟨_, rfl⟩
  rw [← hwz]
  have HX := hide (show Bx w wz (stc A n c j d k p) from by rw [hwz]; exact bx_two _ _ _ _)
  have HO := hide (show Bo w wz #[.slice none 0 0, .int .i64 0, .int .i64 0, .int .i64 0, .int .i64 0] 69 from by rw [hwz]; exact bo_two _ _ _ _)
  clear hwz
  have hr := HX.out.range
  go_wp2_with ((with_reducible show wpList _ _ _ ({ dst := _, op := .load 69 _, type := _, pos := _, after := _, guard := _ } :: _) _ _); refine wpList_loadE rfl hr Tryz.underlying69 rfl Tryz.sizeSt rfl ?_)
  refine (word_any (H.out.1.more HX.out.below) H.out.2.1 H.out.2.2 d k p).mono ?_
  rintro e w2 ⟨q, rfl, hq, hb2⟩
  have H2 := hide (HX.out.more hb2)
  have O2 := hide (HO.out.more hb2)
  clear hb2 hr
  cases q with
  | false =>
    clear hq
    have hr := H2.out.range
    go_wp2_with ((with_reducible show wpList _ _ _ ({ dst := _, op := .load 69 _, type := _, pos := _, after := _, guard := _ } :: _) _ _); refine wpList_loadE rfl hr Tryz.underlying69 rfl Tryz.sizeSt rfl ?_)
    refine (fail_any (H.out.1.more H2.out.below) H.out.2.1 H.out.2.2 d k p (code := 41) (by decide)).mono ?_
    rintro e w3 ⟨i', d', k', p', rfl, ⟨rfl, rfl, hk'⟩, hb3⟩
    have H3 := hide (H2.out.more hb3)
    have O3 := hide (O2.out.more hb3)
    have HS := hide hk'
    clear hb3 hr hk'
    go_wp2_with ((with_reducible show wpList _ _ _ ({ dst := _, op := .store 69 _ _, type := _, pos := _, after := _, guard := _ } :: _) _ _); refine wpList_store_row rfl 69 _ _ rfl (w.heap.size + 1) (stc A n c (j : Int) d' k' p') rfl rfl 69 _ O3.out.out Tryz.sizeSt rfl (st_one _ _ _ _ _ _ _) ?_)
    refine bodyPost_ret (v := .tuple #[stv A n c (j : Int) d' k' p', .string ⟨#[]⟩]) (results_row_tmp (u := 3) Tryz.results62 _ _ (w.heap.size + 1) 69 _ (0, 0) _ rfl rfl (O3.out.done _) Tryz.underlying69 rfl Tryz.sizeSt) rfl ⟨_, _, _, _, _, rfl, ⟨rfl, Nat.zero_le _, j, rfl, hlt, fun h => absurd h HS.out⟩, (H3.out.out _).below⟩
  | true =>
    obtain ⟨rfl, hk1⟩ := hq (by trivial)
    have HG := hide (And.intro (HK.out hk1) (show t.kind ≠ 0 by rw [hk1]; decide))
    clear hq hk1
    go_wp2_with fail
    have hB2 := ((Below.refl w2.heap.size w2).drew)
    refine wp_region_G (fun w' => Bx w w' (stc A n c j d 0 p)) (fun j => decide (j < 7)) (by kernel_rfl) (H2.out.more hB2) (fun hS => ?_)
    refine wpG_load 0 rfl (by kernel_rfl) (fun _ _ _ h => h) (by rfl) rfl (v := stv A n c (j : Int) d 0 p) (fun w' hw => run_loadAt_mid w' w.heap.size 0 69 [.slice A n c, .int .i64 (j : Int), .int .i64 d, .int .i64 0, .int .i64 p] _ hw.range Tryz.underlying69 rfl (by rw [Tryz.sizeSt]; rfl)) hS (fun _ => ?_)
    simp only [Act.put, List.setIfInBounds_toArray, List.set_cons_zero, List.set_cons_succ]
    refine wpG_load 2 rfl (by kernel_rfl) (fun _ _ _ h => h) (by rfl) rfl (v := stv A n c (j : Int) d 0 p) (fun w' hw => run_loadAt_mid w' w.heap.size 0 69 [.slice A n c, .int .i64 (j : Int), .int .i64 d, .int .i64 0, .int .i64 p] _ hw.range Tryz.underlying69 rfl (by rw [Tryz.sizeSt]; rfl)) hS (fun _ => ?_)
    simp only [Act.put, List.setIfInBounds_toArray, List.set_cons_zero, List.set_cons_succ]
    refine wpG_one 1 rfl (by kernel_rfl) (by rfl) (fun K hK => ?_)
    go_simp
    refine (step_any (H.out.1.more hS.below) H.out.2.1 H.out.2.2 d 0 p).mono ?_
    rintro e w3 ⟨i', d', k', p', rfl, ⟨rfl, rfl, j', rfl, hj', hs⟩, hb3⟩
    have hB3 := hB2.trans (hb3.mono hB2.size)
    have hS3 := hS.more hb3
    refine hK _ _ (fun _ => hS3) (fun _ => ?_)
    clear hK K hS
    refine wpG_one 3 rfl (by kernel_rfl) (by rfl) (fun K hK => ?_)
    go_simp
    refine (now_any (H.out.1.more hS3.below) H.out.2.1 H.out.2.2 d' 0 p).mono ?_
    rintro e w4 ⟨rfl, hb4⟩
    have hS := hS3.more hb4
    have O4 := hide (O2.out.more (hB3.trans (hb4.mono hB3.size)))
    refine hK _ _ (fun _ => hS) (fun _ => ?_)
    clear hK K hS3 hb3 hb4 hB3 hB2
    refine wpG_take 4 rfl (by kernel_rfl) (fun _ _ _ h => h) (by rfl) (fun w' hw => by go_simp; rfl) hS (fun _ => ?_)
    simp only [Act.put, List.setIfInBounds_toArray, List.set_cons_zero, List.set_cons_succ]
    refine wpG_one 5 rfl (by kernel_rfl) (by rfl) (fun K hK => ?_)
    refine wp_store_row _ _ _ rfl (w.heap.size + 1) (stc A n c (j' : Int) d' 0 p') rfl rfl 69 _ O4.out.out Tryz.sizeSt rfl (st_one _ _ _ _ _ _ _) ?_
    have hS5 := hS.out (stc A n c (j' : Int) d' 0 p')
    refine hK _ _ (fun _ => hS5) (fun _ => ?_)
    have hS := hS5
    clear hK K hS5
    refine wpG_take 6 rfl (by kernel_rfl) (fun _ _ _ h => h) (by rfl) (fun w' hw => by go_simp; rfl) hS (fun _ => ?_)
    simp only [Act.put, List.setIfInBounds_toArray, List.set_cons_zero, List.set_cons_succ]
    refine wpG_done (by kernel_rfl) ?_
    go_wp2
    refine bodyPost_ret (v := .tuple #[stv A n c (j' : Int) d' 0 p', .string t.text]) (results_row_tmp (u := 3) Tryz.results62 _ _ (w.heap.size + 1) 69 _ (0, 0) _ rfl rfl (O4.out.done _) Tryz.underlying69 rfl Tryz.sizeSt) rfl ⟨_, _, _, _, _, rfl, ⟨rfl, HG.out.1.2, j', rfl, hj', fun _ => by first | exact HG.out.1.1 | exact ⟨rfl, HG.out.1.1⟩⟩, hS.below⟩
set_option maxRecDepth 20000 in
set_option maxHeartbeats 800000 in
theorem down_any {m n c : Nat} {w : World} {S : Nat → Prop} {A : Option Addr} {l : List Tk} (h : Env m w S A l) (hn : l.length = n) {j : Nat} {t : Tk} (hj : l[j]? = some t) (d k p : Int) (sign : ByteArray) (hd0 : -5001 ≤ d) (hd1 : d ≤ 5001) : Calls Tryz.prog 60 #[stv A n c (j : Int) d k p, .string sign] w (StR A n c w fun i' d' k' => (d' = d ∨ d' = d + 1) ∧ ∃ j' : Nat, i' = j' ∧ j' < n ∧ (k' = 0 → k = 0 ∧ j' = j + 1)) := by
  have hlt : j < n := by rw [← hn]; exact (List.getElem?_eq_some_iff.1 hj).1
  have i1 : (n : Int) ≤ 1501 := by have := h.tk.cnt; omega
  have q0 := run_tk0
  have q1 := run_tk1
  have q2 := run_tk2
  have H := hide (And.intro h (And.intro hn hj))
  clear h hn hj
  have HD := hide (And.intro hd0 hd1)
  go_enter Tryz.func60, Tryz.ntmps60
  go_upto_region 1 with fail
  obtain ⟨wz, hwz⟩ : ∃ wz, wz = (w.alloc (.cells #[.slice A n c, .int .i64 (j : Int), .int .i64 d, .int .i64 k, .int .i64 p] 69)).alloc (.cells #[.slice none 0 0, .int .i64 0, .int .i64 0, .int .i64 0, .int .i64 0] 69) := ⟨_, rfl⟩
  rw [← hwz]
  have HX := hide (show Bx w wz (stc A n c j d k p) from by rw [hwz]; exact bx_two _ _ _ _)
  have HO := hide (show Bo w wz #[.slice none 0 0, .int .i64 0, .int .i64 0, .int .i64 0, .int .i64 0] 69 from by rw [hwz]; exact bo_two _ _ _ _)
  clear hwz
  have hr := HX.out.range
  go_wp2_with ((with_reducible show wpList _ _ _ ({ dst := _, op := .load 69 _, type := _, pos := _, after := _, guard := _ } :: _) _ _); refine wpList_loadE rfl hr Tryz.underlying69 rfl Tryz.sizeSt rfl ?_)
  refine (is_any2 (H.out.1.more HX.out.below) H.out.2.1 H.out.2.2 d k p sign).mono ?_
  rintro e w2 ⟨q, rfl, hq, hb2⟩
  clear hq
  have H2 := hide (HX.out.more hb2)
  have O2 := hide (HO.out.more hb2)
  clear hb2 hr
  have hr := H2.out.range
  have c2 := H2.out.c 2
  by_cases hz : q = true ∧ 16 ≤ d
  · obtain ⟨rfl, hz⟩ := hz
    go_wp2_with ((with_reducible show wpList _ _ _ ({ dst := _, op := .load 69 _, type := _, pos := _, after := _, guard := _ } :: _) _ _); refine wpList_loadE rfl hr Tryz.underlying69 rfl Tryz.sizeSt rfl ?_)
    refine (fail_any (H.out.1.more H2.out.below) H.out.2.1 H.out.2.2 d k p (code := 42) (by decide)).mono ?_
    rintro e w3 ⟨i', d', k', p', rfl, ⟨rfl, rfl, hk'⟩, hb3⟩
    have H3 := hide (H2.out.more hb3)
    have O3 := hide (O2.out.more hb3)
    have HS := hide hk'
    clear hb3 hr hk' c2
    go_wp2_with ((with_reducible show wpList _ _ _ ({ dst := _, op := .store 69 _ _, type := _, pos := _, after := _, guard := _ } :: _) _ _); refine wpList_store_row rfl 69 _ _ rfl (w.heap.size + 1) (stc A n c (j : Int) d' k' p') rfl rfl 69 _ O3.out.out Tryz.sizeSt rfl (st_one _ _ _ _ _ _ _) ?_)
    refine bodyPost_ret (v := stv A n c (j : Int) d' k' p') (results_cell_row Tryz.results60 _ _ (w.heap.size + 1) 69 _ (0, 0) _ rfl (O3.out.done _) Tryz.underlying69 rfl Tryz.sizeSt) rfl ⟨_, _, _, _, rfl, ⟨.inl rfl, j, rfl, hlt, fun h => absurd h HS.out⟩, (H3.out.out _).below⟩
  · have hz' : q = true → d < 16 := fun h => by
      rcases Int.lt_or_le d 16 with h1 | h1
      · exact h1
      · exact absurd ⟨h, h1⟩ hz
    clear hz
    have hw : ∃ (w3 : World), True := ⟨w2, trivial⟩
    clear hw
    cases q with
    | true =>
      have hd : d < 16 := hz' rfl
      clear hz'
      go_wp2_with ((with_reducible show wpList _ _ _ ({ dst := _, op := .load 69 _, type := _, pos := _, after := _, guard := _ } :: _) _ _); refine wpList_loadE rfl hr Tryz.underlying69 rfl Tryz.sizeSt rfl ?_)
      refine (want_any (H.out.1.more H2.out.below) H.out.2.1 H.out.2.2 d k p sign).mono ?_
      rintro e w3 ⟨i', d', k', p', rfl, ⟨hdd, j', rfl, hj', hs⟩, hb3⟩
      subst hdd
      have H3 := hide (H2.out.more hb3)
      have O3 := hide (O2.out.more hb3)
      have HS := hide hs
      clear hb3 hr hs c2
      have H4 := hide (show Bx w (w3.setRow w.heap.size (stc A n c (j' : Int) d' k' p')) (stc A n c (j' : Int) d' k' p') from H3.out.row _)
      have O4 := hide (O3.out.row (stc A n c (j' : Int) d' k' p'))
      have c2 := H4.out.c 2
      have f2 := H4.out.f 2
      have H5 := hide (show Bx w ((w3.setRow w.heap.size (stc A n c (j' : Int) d' k' p')).setCell ⟨w.heap.size, 2, none⟩ (.int .i64 (d' + 1))) (stc A n c (j' : Int) (d' + 1) k' p') from H4.out.set 2 _)
      have O5 := hide (O4.out.set 2 (.int .i64 (d' + 1)))
      have hr := H5.out.range
      obtain ⟨hd0, hd1⟩ := HD.out
      go_wp2_with (first | ((with_reducible show wpList _ _ _ ({ dst := _, op := .store 69 _ _, type := _, pos := _, after := _, guard := _ } :: _) _ _); refine wpList_store_row rfl 69 _ _ rfl w.heap.size (stc A n c (j' : Int) d' k' p') rfl rfl 69 _ H3.out.box Tryz.sizeSt rfl (st_one _ _ _ _ _ _ _) ?_) | ((with_reducible show wpList _ _ _ ({ dst := _, op := .load 69 _, type := _, pos := _, after := _, guard := _ } :: _) _ _); refine wpList_loadE rfl hr Tryz.underlying69 rfl Tryz.sizeSt rfl ?_) | ((with_reducible show wpList _ _ _ ({ dst := _, op := .store 69 _ _, type := _, pos := _, after := _, guard := _ } :: _) _ _); refine wpList_store_row rfl 69 _ _ rfl (w.heap.size + 1) (stc A n c (j' : Int) (d' + 1) k' p') rfl rfl 69 _ O5.out.out Tryz.sizeSt rfl (st_one _ _ _ _ _ _ _) ?_))
      refine bodyPost_ret (v := stv A n c (j' : Int) (d' + 1) k' p') (results_cell_row Tryz.results60 _ _ (w.heap.size + 1) 69 _ (0, 0) _ rfl (O5.out.done _) Tryz.underlying69 rfl Tryz.sizeSt) rfl ⟨_, _, _, _, rfl, ⟨.inr rfl, j', rfl, hj', HS.out⟩, (H5.out.out _).below⟩
    | false =>
      clear hz'
      go_wp2_with ((with_reducible show wpList _ _ _ ({ dst := _, op := .load 69 _, type := _, pos := _, after := _, guard := _ } :: _) _ _); refine wpList_loadE rfl hr Tryz.underlying69 rfl Tryz.sizeSt rfl ?_)
      refine (want_any (H.out.1.more H2.out.below) H.out.2.1 H.out.2.2 d k p sign).mono ?_
      rintro e w3 ⟨i', d', k', p', rfl, ⟨hdd, j', rfl, hj', hs⟩, hb3⟩
      subst hdd
      have H3 := hide (H2.out.more hb3)
      have O3 := hide (O2.out.more hb3)
      have HS := hide hs
      clear hb3 hr hs c2
      have H4 := hide (show Bx w (w3.setRow w.heap.size (stc A n c (j' : Int) d' k' p')) (stc A n c (j' : Int) d' k' p') from H3.out.row _)
      have O4 := hide (O3.out.row (stc A n c (j' : Int) d' k' p'))
      have c2 := H4.out.c 2
      have f2 := H4.out.f 2
      have H5 := hide (show Bx w ((w3.setRow w.heap.size (stc A n c (j' : Int) d' k' p')).setCell ⟨w.heap.size, 2, none⟩ (.int .i64 (d' + 1))) (stc A n c (j' : Int) (d' + 1) k' p') from H4.out.set 2 _)
      have O5 := hide (O4.out.set 2 (.int .i64 (d' + 1)))
      have hr := H5.out.range
      obtain ⟨hd0, hd1⟩ := HD.out
      go_wp2_with (first | ((with_reducible show wpList _ _ _ ({ dst := _, op := .store 69 _ _, type := _, pos := _, after := _, guard := _ } :: _) _ _); refine wpList_store_row rfl 69 _ _ rfl w.heap.size (stc A n c (j' : Int) d' k' p') rfl rfl 69 _ H3.out.box Tryz.sizeSt rfl (st_one _ _ _ _ _ _ _) ?_) | ((with_reducible show wpList _ _ _ ({ dst := _, op := .load 69 _, type := _, pos := _, after := _, guard := _ } :: _) _ _); refine wpList_loadE rfl hr Tryz.underlying69 rfl Tryz.sizeSt rfl ?_) | ((with_reducible show wpList _ _ _ ({ dst := _, op := .store 69 _ _, type := _, pos := _, after := _, guard := _ } :: _) _ _); refine wpList_store_row rfl 69 _ _ rfl (w.heap.size + 1) (stc A n c (j' : Int) (d' + 1) k' p') rfl rfl 69 _ O5.out.out Tryz.sizeSt rfl (st_one _ _ _ _ _ _ _) ?_))
      refine bodyPost_ret (v := stv A n c (j' : Int) (d' + 1) k' p') (results_cell_row Tryz.results60 _ _ (w.heap.size + 1) 69 _ (0, 0) _ rfl (O5.out.done _) Tryz.underlying69 rfl Tryz.sizeSt) rfl ⟨_, _, _, _, rfl, ⟨.inr rfl, j', rfl, hj', HS.out⟩, (H5.out.out _).below⟩

set_option maxRecDepth 20000 in
set_option maxHeartbeats 800000 in
theorem up_any {m n c : Nat} {w : World} {S : Nat → Prop} {A : Option Addr} {l : List Tk} (h : Env m w S A l) (hn : l.length = n) {j : Nat} {t : Tk} (hj : l[j]? = some t) (d k p : Int) (sign : ByteArray) (hd0 : -5001 ≤ d) (hd1 : d ≤ 5001) : Calls Tryz.prog 61 #[stv A n c (j : Int) d k p, .string sign] w (StR A n c w fun i' d' k' => d' = d - 1 ∧ ∃ j' : Nat, i' = j' ∧ j' < n ∧ (k' = 0 → k = 0)) := by
  have hlt : j < n := by rw [← hn]; exact (List.getElem?_eq_some_iff.1 hj).1
  have i1 : (n : Int) ≤ 1501 := by have := h.tk.cnt; omega
  have q0 := run_tk0
  have q1 := run_tk1
  have q2 := run_tk2
  have H := hide (And.intro h (And.intro hn hj))
  clear h hn hj
  have HD := hide (And.intro hd0 hd1)
  go_enter Tryz.func61, Tryz.ntmps61
  go_upto_region 1 with fail
  obtain ⟨wz, hwz⟩ : ∃ wz, wz = (w.alloc (.cells #[.slice A n c, .int .i64 (j : Int), .int .i64 d, .int .i64 k, .int .i64 p] 69)).alloc (.cells #[.slice none 0 0, .int .i64 0, .int .i64 0, .int .i64 0, .int .i64 0] 69) := ⟨_, rfl⟩
  rw [← hwz]
  have HX := hide (show Bx w wz (stc A n c j d k p) from by rw [hwz]; exact bx_two _ _ _ _)
  have HO := hide (show Bo w wz #[.slice none 0 0, .int .i64 0, .int .i64 0, .int .i64 0, .int .i64 0] 69 from by rw [hwz]; exact bo_two _ _ _ _)
  clear hwz
  have hr := HX.out.range
  go_wp2_with ((with_reducible show wpList _ _ _ ({ dst := _, op := .load 69 _, type := _, pos := _, after := _, guard := _ } :: _) _ _); refine wpList_loadE rfl hr Tryz.underlying69 rfl Tryz.sizeSt rfl ?_)
  refine (want_any (H.out.1.more HX.out.below) H.out.2.1 H.out.2.2 d k p sign).mono ?_
  rintro e w3 ⟨i', d', k', p', rfl, ⟨hdd, j', rfl, hj', hs⟩, hb3⟩
  subst hdd
  have H3 := hide (HX.out.more hb3)
  have O3 := hide (HO.out.more hb3)
  have HS := hide hs
  clear hb3 hr hs
  have H4 := hide (show Bx w (w3.setRow w.heap.size (stc A n c (j' : Int) d' k' p')) (stc A n c (j' : Int) d' k' p') from H3.out.row _)
  have O4 := hide (O3.out.row (stc A n c (j' : Int) d' k' p'))
  have c2 := H4.out.c 2
  have f2 := H4.out.f 2
  have H5 := hide (show Bx w ((w3.setRow w.heap.size (stc A n c (j' : Int) d' k' p')).setCell ⟨w.heap.size, 2, none⟩ (.int .i64 (d' - 1))) (stc A n c (j' : Int) (d' - 1) k' p') from H4.out.set 2 _)
  have O5 := hide (O4.out.set 2 (.int .i64 (d' - 1)))
  have hr := H5.out.range
  obtain ⟨hd0, hd1⟩ := HD.out
  go_wp2_with (first | ((with_reducible show wpList _ _ _ ({ dst := _, op := .store 69 _ _, type := _, pos := _, after := _, guard := _ } :: _) _ _); refine wpList_store_row rfl 69 _ _ rfl w.heap.size (stc A n c (j' : Int) d' k' p') rfl rfl 69 _ H3.out.box Tryz.sizeSt rfl (st_one _ _ _ _ _ _ _) ?_) | ((with_reducible show wpList _ _ _ ({ dst := _, op := .load 69 _, type := _, pos := _, after := _, guard := _ } :: _) _ _); refine wpList_loadE rfl hr Tryz.underlying69 rfl Tryz.sizeSt rfl ?_) | ((with_reducible show wpList _ _ _ ({ dst := _, op := .store 69 _ _, type := _, pos := _, after := _, guard := _ } :: _) _ _); refine wpList_store_row rfl 69 _ _ rfl (w.heap.size + 1) (stc A n c (j' : Int) (d' - 1) k' p') rfl rfl 69 _ O5.out.out Tryz.sizeSt rfl (st_one _ _ _ _ _ _ _) ?_))
  refine bodyPost_ret (v := stv A n c (j' : Int) (d' - 1) k' p') (results_cell_row Tryz.results61 _ _ (w.heap.size + 1) 69 _ (0, 0) _ rfl (O5.out.done _) Tryz.underlying69 rfl Tryz.sizeSt) rfl ⟨_, _, _, _, rfl, ⟨rfl, j', rfl, hj', fun h => (HS.out h).1⟩, (H5.out.out _).below⟩
set_option maxRecDepth 20000 in
set_option maxHeartbeats 800000 in
theorem end_any {m n c : Nat} {w : World} {S : Nat → Prop} {A : Option Addr} {l : List Tk} (h : Env m w S A l) (hn : l.length = n) {j : Nat} {t : Tk} (hj : l[j]? = some t) (d k p : Int) : Calls Tryz.prog 45 #[stv A n c (j : Int) d k p] w (StR A n c w fun _ _ k' => k' = 0 → k = 0) := by
  have hlt : j < n := by rw [← hn]; exact (List.getElem?_eq_some_iff.1 hj).1
  have i1 : (n : Int) ≤ 1501 := by have := h.tk.cnt; omega
  have q0 := run_tk0
  have q1 := run_tk1
  have q2 := run_tk2
  have H := hide (And.intro h (And.intro hn hj))
  clear h hn hj
  go_enter Tryz.func45, Tryz.ntmps45
  go_upto_region 1 with fail
  obtain ⟨wz, hwz⟩ : ∃ wz, wz = (w.alloc (.cells #[.slice A n c, .int .i64 (j : Int), .int .i64 d, .int .i64 k, .int .i64 p] 69)).alloc (.cells #[.slice none 0 0, .int .i64 0, .int .i64 0, .int .i64 0, .int .i64 0] 69) := ⟨_, rfl⟩
  rw [← hwz]
  have HX := hide (show Bx w wz (stc A n c j d k p) from by rw [hwz]; exact bx_two _ _ _ _)
  have HO := hide (show Bo w wz #[.slice none 0 0, .int .i64 0, .int .i64 0, .int .i64 0, .int .i64 0] 69 from by rw [hwz]; exact bo_two _ _ _ _)
  clear hwz
  have c3 := HX.out.c 3
  have hr := HX.out.range
  by_cases hk : k = 0
  · subst hk
    go_wp2_with ((with_reducible show wpList _ _ _ ({ dst := _, op := .load 69 _, type := _, pos := _, after := _, guard := _ } :: _) _ _); refine wpList_loadE rfl hr Tryz.underlying69 rfl Tryz.sizeSt rfl ?_)
    refine (now_any (H.out.1.more HX.out.below) H.out.2.1 H.out.2.2 d 0 p).mono ?_
    rintro e w2 ⟨rfl, hb2⟩
    have H2 := hide (HX.out.more hb2)
    have O2 := hide (HO.out.more hb2)
    clear hb2 hr c3
    have hr := H2.out.range
    by_cases hz : t.kind = 0
    · have zb : (t.kind != 0) = false := by simp [hz]
      clear hz
      go_wp2_with (first | ((with_reducible show wpList _ _ _ ({ dst := _, op := .load 69 _, type := _, pos := _, after := _, guard := _ } :: _) _ _); refine wpList_loadE rfl hr Tryz.underlying69 rfl Tryz.sizeSt rfl ?_) | ((with_reducible show wpList _ _ _ ({ dst := _, op := .store 69 _ _, type := _, pos := _, after := _, guard := _ } :: _) _ _); refine wpList_store_row rfl 69 _ _ rfl (w.heap.size + 1) (stc A n c (j : Int) d 0 p) rfl rfl 69 _ O2.out.out Tryz.sizeSt rfl (st_one _ _ _ _ _ _ _) ?_))
      refine bodyPost_ret (v := stv A n c (j : Int) d 0 p) (results_cell_row Tryz.results45 _ _ (w.heap.size + 1) 69 _ (0, 0) _ rfl (O2.out.done _) Tryz.underlying69 rfl Tryz.sizeSt) rfl ⟨_, _, _, _, rfl, (by first | trivial | (intros; rfl)), (H2.out.out _).below⟩
    · have zb : (t.kind != 0) = true := by simpa using hz
      clear hz
      go_wp2_with ((with_reducible show wpList _ _ _ ({ dst := _, op := .load 69 _, type := _, pos := _, after := _, guard := _ } :: _) _ _); refine wpList_loadE rfl hr Tryz.underlying69 rfl Tryz.sizeSt rfl ?_)
      refine (fail_any (H.out.1.more H2.out.below) H.out.2.1 H.out.2.2 d 0 p (code := 41) (by decide)).mono ?_
      rintro e w3 ⟨i', d', k', p', rfl, ⟨rfl, rfl, hk'⟩, hb3⟩
      have H3 := hide (H2.out.more hb3)
      have O3 := hide (O2.out.more hb3)
      have HS := hide hk'
      clear hb3 hr hk'
      go_wp2_with ((with_reducible show wpList _ _ _ ({ dst := _, op := .store 69 _ _, type := _, pos := _, after := _, guard := _ } :: _) _ _); refine wpList_store_row rfl 69 _ _ rfl (w.heap.size + 1) (stc A n c (j : Int) d' k' p') rfl rfl 69 _ O3.out.out Tryz.sizeSt rfl (st_one _ _ _ _ _ _ _) ?_)
      refine bodyPost_ret (v := stv A n c (j : Int) d' k' p') (results_cell_row Tryz.results45 _ _ (w.heap.size + 1) 69 _ (0, 0) _ rfl (O3.out.done _) Tryz.underlying69 rfl Tryz.sizeSt) rfl ⟨_, _, _, _, rfl, (by first | trivial | exact fun h => absurd h HS.out), (H3.out.out _).below⟩
  · have kb : (k == 0) = false := by simpa using hk
    go_wp2_with (first | ((with_reducible show wpList _ _ _ ({ dst := _, op := .load 69 _, type := _, pos := _, after := _, guard := _ } :: _) _ _); refine wpList_loadE rfl hr Tryz.underlying69 rfl Tryz.sizeSt rfl ?_) | ((with_reducible show wpList _ _ _ ({ dst := _, op := .store 69 _ _, type := _, pos := _, after := _, guard := _ } :: _) _ _); refine wpList_store_row rfl 69 _ _ rfl (w.heap.size + 1) (stc A n c (j : Int) d k p) rfl rfl 69 _ HO.out.out Tryz.sizeSt rfl (st_one _ _ _ _ _ _ _) ?_))
    refine bodyPost_ret (v := stv A n c (j : Int) d k p) (results_cell_row Tryz.results45 _ _ (w.heap.size + 1) 69 _ (0, 0) _ rfl (HO.out.done _) Tryz.underlying69 rfl Tryz.sizeSt) rfl ⟨_, _, _, _, rfl, (fun h => absurd h hk), (HX.out.out _).below⟩
def BgR (m : Nat) (w : World) (e : Ending) (w' : World) : Prop := ∃ (A : Option Addr) (c : Nat) (l : List Tk) (k p : Int), e = .returned (stv A l.length c 0 0 k p) ∧ Env m w' (fun b => w.heap.size ≤ b ∧ b < w'.heap.size) A l ∧ Below w.heap.size w w'
set_option maxRecDepth 20000 in
set_option maxHeartbeats 800000 in
theorem begin_any (s : Bs) (w : World) (hs : s.length ≤ 4096) : Calls Tryz.prog 44 #[tx s] w (BgR s.length w) := by
  have HS := hide hs
  clear hs
  go_enter Tryz.func44, Tryz.ntmps44
  go_wp2_with fail
  refine (lex_any s _ HS.out).mono ?_
  rintro e w2 ⟨A, c, l, p, code, rfl, hb2, hl⟩
  have hout : w2.heap[w.heap.size]? = some (.cells z5 69 (0, 0)) := by rw [hb2.block _ (by simp)]; exact heap_alloc_new w _
  have hsz : w.heap.size < w2.heap.size := lt_of_block hout
  have hbw : Below w.heap.size w w2 := ((Below.refl w.heap.size w).alloc (Nat.le_refl _) _).trans (hb2.mono (by simp))
  have HH := hide (And.intro hout (And.intro hsz hbw))
  have HL := hide hl
  clear hout hsz hbw hb2 hl
  by_cases hc : code = 0
  · subst hc
    obtain ⟨ht, hsl⟩ := HL.out rfl
    have HT := hide (And.intro ht hsl)
    clear ht hsl HL
    obtain ⟨n, hn⟩ : ∃ n, n = l.length := ⟨_, rfl⟩
    rw [← hn]
    have HN := hide hn
    clear hn
    go_wp2_with ((with_reducible show wpList _ _ _ ({ dst := _, op := .store 69 _ _, type := _, pos := _, after := _, guard := _ } :: _) _ _); refine wpList_store_row rfl 69 _ _ rfl w.heap.size (stc A n c 0 0 0 0) rfl rfl 69 _ HH.out.1 Tryz.sizeSt rfl (st_one _ _ _ _ _ _ _) ?_)
    have hne : ∀ b, (w.alloc (.cells z5 69)).heap.size ≤ b ∧ b < w2.heap.size → b ≠ w.heap.size := fun b hb => by have := hb.1; simp at this; omega
    refine bodyPost_ret (v := stv A n c 0 0 0 0) (results_cell_row Tryz.results44 _ _ w.heap.size 69 _ (0, 0) _ rfl (setRow_heap _ _ _ _ _ _ HH.out.1) Tryz.underlying69 rfl Tryz.sizeSt) rfl ⟨A, c, l, 0, 0, by rw [HN.out], ⟨HT.out.2.map (fun b hb => ⟨by have := hb.1; simp at this; omega, by simpa using hb.2⟩) (fun b hb => setRow_other _ _ _ _ (hne b hb)) (fun _ _ h => h), fun b hb => hb.2, HT.out.1⟩, below_setRow HH.out.2.2 (Nat.le_refl _) _⟩
  · have hb : (code != 0) = true := by simpa using hc
    clear hc HL
    have ho3 : (w2.alloc (.cells #[.int .i64 0, .string ⟨#[]⟩, .int .i64 0] 93)).heap[w.heap.size]? = some (.cells z5 69 (0, 0)) := by rw [heap_alloc_old _ _ HH.out.2.1]; exact HH.out.1
    have H3 := hide ho3
    clear ho3
    go_wp2_with ((with_reducible show wpList _ _ _ ({ dst := _, op := .store 69 _ _, type := _, pos := _, after := _, guard := _ } :: _) _ _); refine wpList_store_row rfl 69 _ _ rfl w.heap.size (stc (some ⟨w2.heap.size, 0, none⟩) 1 1 0 0 code p) rfl rfl 69 _ H3.out Tryz.sizeSt rfl (st_one _ _ _ _ _ _ _) ?_)
    refine bodyPost_ret (v := stv (some ⟨w2.heap.size, 0, none⟩) 1 1 0 0 code p) (results_cell_row Tryz.results44 _ _ w.heap.size 69 _ (0, 0) _ rfl (setRow_heap _ _ _ _ _ _ H3.out) Tryz.underlying69 rfl Tryz.sizeSt) rfl ⟨some ⟨w2.heap.size, 0, none⟩, 1, [⟨0, ⟨#[]⟩, 0⟩], code, p, rfl, ⟨?_, fun b hb => hb.2, ⟨by simp, by simp, by simp [TkOk], by simp⟩⟩, below_setRow (HH.out.2.2.alloc HH.out.2.2.size _) (Nat.le_refl _) _⟩
    intro j x hx
    match j with
    | 0 =>
      simp at hx
      subst hx
      refine ⟨w2.heap.size, 0, _, rfl, ⟨by have := HH.out.2.1; omega, by simp⟩, rfl, fun i u hu => ?_, rfl⟩
      rw [cell_of_row _ _ _ _ _ _ ((setRow_other _ _ _ _ (by have := HH.out.2.1; omega)).trans (heap_alloc_new w2 _))]
      simpa [Tk.cs] using hu
    | j + 1 => simp at hx
end Go.Proofs.YtlpmnnkijdbopaaGreatDoor
