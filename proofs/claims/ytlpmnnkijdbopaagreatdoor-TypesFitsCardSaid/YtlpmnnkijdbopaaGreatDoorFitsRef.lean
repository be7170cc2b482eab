/-
  The walks of the reference's Item, Has, Kind, Leaf, Composite, Input, Output.
-/
import Derived.Test.YtlpmnnkijdbopaaGreatDoorLexN
import Derived.Test.YtlpmnnkijdbopaaGreatDoorFindW
namespace Go.Proofs.YtlpmnnkijdbopaaGreatDoor
open Go.RowKit Go.Maps

theorem fnd_look {T : Ts} {k : Bs} {n : Nat} {S : Nat → Prop} {w' : World} {cs : List Value} (h1 : ∀ d, find T k = some d → RT w' S n d cs) (h2 : find T k = none → cs = zeroT) :
    ∃ A1 c1 A2 c2 A3 c3 A4 c4, cs = [.int .i64 (look T k).kind, tx (look T k).name, .slice A1 (look T k).impls.length c1, .slice A2 (look T k).fields.length c2, .slice A3 (look T k).members.length c3, .slice A4 (look T k).inputs.length c4, .int .i64 (look T k).pos] ∧ Sl w' S 1 A1 RS (look T k).impls ∧ Sl w' S 1 A3 RS (look T k).members := by
  unfold look
  cases hf : find T k with
  | none =>
    exact ⟨none, 0, none, 0, none, 0, none, 0, h2 hf, Sl.nil' _ _ _ _ _, Sl.nil' _ _ _ _ _⟩
  | some d =>
    obtain ⟨A1, c1, A2, c2, A3, c3, A4, c4, e, s1, _, s3, _⟩ := h1 d hf
    exact ⟨A1, c1, A2, c2, A3, c3, A4, c4, e, s1, s3⟩
/-- the types lie there -/
structure Lt (n : Nat) (w : World) (S : Nat → Prop) (A : Option Addr) (l : List Td) : Prop where
  sl : Sl w S 7 A (RT w S n) l
  lt : ∀ b, S b → b < w.heap.size
  few : FewL n l
theorem Lt.more {n : Nat} {w w' : World} {S : Nat → Prop} {A : Option Addr} {l : List Td} (h : Lt n w S A l) (hb : Below w.heap.size w w') : Lt n w' S A l :=
  ⟨h.sl.map (fun _ h => h) (fun b hS => hb.block b (h.lt b hS)) (fun _ _ h2 => RT.map (fun _ h => h) (fun b hS => hb.block b (h.lt b hS)) _ _ h2), fun b hS => Nat.lt_of_lt_of_le (h.lt b hS) hb.size, h.few⟩
theorem look_few {n : Nat} {l : List Td} (h : FewL n l) (k : Bs) : (look (mkT l) k).impls.length ≤ 60 ∧ (look (mkT l) k).members.length ≤ 60 := by
  unfold look
  cases hf : find (mkT l) k with
  | none => simp [noTd]
  | some d =>
    rw [find_mkT] at hf
    split at hf
    · injection hf with hf
      subst hf
      simp [scalar]
    · have hd := List.mem_of_find?_eq_some hf
      have := h.2 d hd
      exact ⟨this.impls.1, this.members.1⟩
set_option maxHeartbeats 800000 in
theorem rkind_any {n : Nat} {w : World} {S : Nat → Prop} {A : Option Addr} {l : List Td} {k : Bs} (c : Nat) (h : Lt n w S A l) : Calls Tryz.prog 34 #[.slice A l.length c, tx k] w fun e w' => e = .returned (.int .i64 (kind (mkT l) k)) ∧ Below w.heap.size w w' := by
  have H := hide h
  rw [kind_look]
  clear h
  go_enter Tryz.func34, Tryz.ntmps34
  go_wp2_with fail
  refine (find_any c H.out.sl H.out.lt (by have := H.out.few.1; omega)).mono ?_
  rintro e w1 ⟨cs, rfl, h1, h2, _, hb⟩
  obtain ⟨A1, c1, A2, c2, A3, c3, A4, c4, rfl, _, _⟩ := fnd_look h1 h2
  have HB := hide hb
  clear hb h1 h2
  go_wp2_with ((with_reducible show wpList _ _ _ ({ dst := _, op := .store 35 _ _, type := _, pos := _, after := _, guard := _ } :: _) _ _); refine wpList_store_new rfl rfl rfl Tryz.sizeT rfl rfl ?_)
  go_ret
  exact ⟨rfl, HB.out.alloc HB.out.size _⟩
set_option maxHeartbeats 800000 in
theorem has_any {w : World} {S : Nat → Prop} {A : Option Addr} {l : List Bs} {s : Bs} (c : Nat) (h : Sl w S 1 A RS l) (hl : l.length ≤ 1000000) : Calls Tryz.prog 30 #[.slice A l.length c, tx s] w fun e w' => e = .returned (.bool (decide (s ∈ l))) ∧ w = w' := by
  have i1 : (l.length : Int) ≤ 1000000 := by omega
  have H := hide h
  clear h hl
  go_enter Tryz.func30, Tryz.ntmps30
  go_wp2
  go_loop [8] (fun i => ∃ k : Nat, k ≤ l.length ∧ i = .int .i64 k ∧ Hid (∀ x ∈ l.take k, x ≠ s)) (fun i => l.length - (intOf i).toNat)
  case atStart => exact ⟨0, Nat.zero_le _, rfl, hide (by simp)⟩
  case round =>
    obtain ⟨k, hk, rfl, HR⟩ := hrel
    by_cases hlt : k < l.length
    · obtain ⟨b, o, hA, _, hc⟩ := rs_at H.out hlt
      obtain ⟨x, hx⟩ : ∃ x, x = l[k] := ⟨_, rfl⟩
      rw [← hx] at hc
      have HA := hide (And.intro hA hx)
      clear hA hx
      by_cases hq : x = s
      · have hin : s ∈ l := by rw [← hq, HA.out.2]; exact List.getElem_mem _
        have HI := hide hin
        have hb : (x == s) = true := by simp [hq]
        clear hq hin
        go_wp2_with ((with_reducible show wpList _ _ _ ({ dst := _, op := .indexAddr 31 _ _, type := _, pos := _, after := _, guard := _ } :: _) _ _); refine wpList_index Tryz.underlying31 Tryz.sizeS rfl rfl HA.out.1 hlt rfl ?_)
        go_ret
        exact ⟨ret_bl (by simp [HI.out]), rfl⟩
      · have hb : (x == s) = false := by simpa using hq
        have HQ := hide hq
        clear hq
        go_wp2_with ((with_reducible show wpList _ _ _ ({ dst := _, op := .indexAddr 31 _ _, type := _, pos := _, after := _, guard := _ } :: _) _ _); refine wpList_index Tryz.underlying31 Tryz.sizeS rfl rfl HA.out.1 hlt rfl ?_)
        go_round
        case rel => exact ⟨k + 1, by omega, by go_num, hide (ne_take hlt HR.out (by rw [← HA.out.2]; exact HQ.out))⟩
        case measure => simp [intOf]; omega
    · have hni : s ∉ l := not_mem_take HR.out (by omega)
      have HI := hide hni
      clear hni
      go_wp2
      go_ret
      exact ⟨ret_bl (by simp [HI.out]), rfl⟩
theorem isK_1 (T : Ts) (k : Bs) : isK T k [1, 5, 6] = ((decide (kind T k = 1) || decide (kind T k = 5)) || decide (kind T k = 6)) := by
  unfold isK
  rw [Bool.eq_iff_iff]
  simp
  omega
theorem isK_2 (T : Ts) (k : Bs) : isK T k [1, 5, 2, 3, 4] = ((decide (kind T k = 1) || decide (kind T k = 5)) || ((decide (kind T k = 2) || decide (kind T k = 3)) || decide (kind T k = 4))) := by
  unfold isK
  rw [Bool.eq_iff_iff]
  simp
  omega
set_option maxHeartbeats 800000 in
theorem rleaf_any {n : Nat} {w : World} {S : Nat → Prop} {A : Option Addr} {l : List Td} {k : Bs} (c : Nat) (h : Lt n w S A l) : Calls Tryz.prog 32 #[.slice A l.length c, tx k] w fun e w' => e = .returned (.bool (decide (kind (mkT l) k = 1) || decide (kind (mkT l) k = 5))) ∧ Below w.heap.size w w' := by
  have H := hide h
  clear h
  obtain ⟨x, hx⟩ : ∃ x, x = kind (mkT l) k := ⟨_, rfl⟩
  have HX := hide hx
  rw [← hx]
  clear hx
  go_enter Tryz.func32, Tryz.ntmps32
  go_wp2_with fail
  refine (rkind_any c H.out).mono ?_
  rw [← HX.out]
  rintro e w1 ⟨rfl, hb1⟩
  have HB := hide hb1
  clear hb1
  by_cases h1 : x = 1
  · subst h1
    go_wp2
    go_ret
    exact ⟨rfl, HB.out⟩
  · have hb : (x == 1) = false := by simpa using h1
    have H1 := hide h1
    clear h1
    go_wp2_with fail
    refine (rkind_any c (H.out.more HB.out)).mono ?_
    rw [← HX.out]
    rintro e w2 ⟨rfl, hb2⟩
    have HC := hide (HB.out.trans (hb2.mono HB.out.size))
    clear hb2
    by_cases h5 : x = 5
    · subst h5
      go_wp2
      go_ret
      exact ⟨rfl, HC.out⟩
    · have hb5 : (x == 5) = false := by simpa using h5
      have H5 := hide h5
      clear h5
      go_wp2
      go_ret
      exact ⟨ret_bl (by simp [H1.out, H5.out]), HC.out⟩
set_option maxHeartbeats 800000 in
theorem rcomp_any {n : Nat} {w : World} {S : Nat → Prop} {A : Option Addr} {l : List Td} {k : Bs} (c : Nat) (h : Lt n w S A l) : Calls Tryz.prog 35 #[.slice A l.length c, tx k] w fun e w' => e = .returned (.bool ((decide (kind (mkT l) k = 2) || decide (kind (mkT l) k = 3)) || decide (kind (mkT l) k = 4))) ∧ Below w.heap.size w w' := by
  have H := hide h
  clear h
  obtain ⟨x, hx⟩ : ∃ x, x = kind (mkT l) k := ⟨_, rfl⟩
  have HX := hide hx
  rw [← hx]
  clear hx
  go_enter Tryz.func35, Tryz.ntmps35
  go_wp2_with fail
  refine (rkind_any c H.out).mono ?_
  rw [← HX.out]
  rintro e w1 ⟨rfl, hb1⟩
  have HB := hide hb1
  clear hb1
  by_cases h2 : x = 2
  · subst h2
    go_wp2
    go_ret
    exact ⟨rfl, HB.out⟩
  · by_cases h3 : x = 3
    · subst h3
      go_wp2
      go_ret
      exact ⟨rfl, HB.out⟩
    · by_cases h4 : x = 4
      · subst h4
        go_wp2
        go_ret
        exact ⟨rfl, HB.out⟩
      · have b2 : (x == 2) = false := by simpa using h2
        have b3 : (x == 3) = false := by simpa using h3
        have b4 : (x == 4) = false := by simpa using h4
        have HN := hide (And.intro h2 (And.intro h3 h4))
        clear h2 h3 h4
        go_wp2
        go_ret
        exact ⟨ret_bl (by simp [HN.out.1, HN.out.2.1, HN.out.2.2]), HB.out⟩
set_option maxHeartbeats 800000 in
theorem rinput_any {n : Nat} {w : World} {S : Nat → Prop} {A : Option Addr} {l : List Td} {a : Bs} (c : Nat) (h : Lt n w S A l) (hl : a.length ≤ 1000) : Calls Tryz.prog 11 #[.slice A l.length c, tx a] w fun e w' => e = .returned (.bool (isK (mkT l) (base a) [1, 5, 6])) ∧ Below w.heap.size w w' := by
  have H := hide (And.intro h hl)
  rw [isK_1]
  clear h hl
  obtain ⟨q, hq⟩ : ∃ q, q = (decide (kind (mkT l) (base a) = 1) || decide (kind (mkT l) (base a) = 5)) := ⟨_, rfl⟩
  obtain ⟨x, hx⟩ : ∃ x, x = kind (mkT l) (base a) := ⟨_, rfl⟩
  have HQ := hide (And.intro hq hx)
  rw [← hq, ← hx]
  clear hq hx
  go_enter Tryz.func11, Tryz.ntmps11
  go_wp2_with fail
  refine (rbase_any a w (by have := H.out.2; omega)).mono ?_
  rintro e w1 ⟨rfl, rfl⟩
  go_wp2_with fail
  refine (rleaf_any c H.out.1).mono ?_
  rw [← HQ.out.1]
  rintro e w1 ⟨rfl, hb1⟩
  have HB := hide hb1
  clear hb1
  cases q with
  | true =>
    go_wp2
    go_ret
    exact ⟨ret_bl (by simp), HB.out⟩
  | false =>
    go_wp2_with fail
    refine (rbase_any a _ (by have := H.out.2; omega)).mono ?_
    rintro e w2 ⟨rfl, rfl⟩
    go_wp2_with fail
    refine (rkind_any c (H.out.1.more HB.out)).mono ?_
    rw [← HQ.out.2]
    rintro e w2 ⟨rfl, hb2⟩
    have HC := hide (HB.out.trans (hb2.mono HB.out.size))
    clear hb2
    go_wp2
    go_ret
    exact ⟨ret_bl (by rw [Bool.eq_iff_iff]; simp), HC.out⟩
set_option maxHeartbeats 800000 in
theorem routput_any {n : Nat} {w : World} {S : Nat → Prop} {A : Option Addr} {l : List Td} {a : Bs} (c : Nat) (h : Lt n w S A l) (hl : a.length ≤ 1000) : Calls Tryz.prog 13 #[.slice A l.length c, tx a] w fun e w' => e = .returned (.bool (isK (mkT l) (base a) [1, 5, 2, 3, 4])) ∧ Below w.heap.size w w' := by
  have H := hide (And.intro h hl)
  rw [isK_2]
  clear h hl
  obtain ⟨q, hq⟩ : ∃ q, q = (decide (kind (mkT l) (base a) = 1) || decide (kind (mkT l) (base a) = 5)) := ⟨_, rfl⟩
  obtain ⟨x, hx⟩ : ∃ x, x = ((decide (kind (mkT l) (base a) = 2) || decide (kind (mkT l) (base a) = 3)) || decide (kind (mkT l) (base a) = 4)) := ⟨_, rfl⟩
  have HQ := hide (And.intro hq hx)
  rw [← hq, ← hx]
  clear hq hx
  go_enter Tryz.func13, Tryz.ntmps13
  go_wp2_with fail
  refine (rbase_any a w (by have := H.out.2; omega)).mono ?_
  rintro e w1 ⟨rfl, rfl⟩
  go_wp2_with fail
  refine (rleaf_any c H.out.1).mono ?_
  rw [← HQ.out.1]
  rintro e w1 ⟨rfl, hb1⟩
  have HB := hide hb1
  clear hb1
  cases q with
  | true =>
    go_wp2
    go_ret
    exact ⟨ret_bl (by simp), HB.out⟩
  | false =>
    go_wp2_with fail
    refine (rbase_any a _ (by have := H.out.2; omega)).mono ?_
    rintro e w2 ⟨rfl, rfl⟩
    go_wp2_with fail
    refine (rcomp_any c (H.out.1.more HB.out)).mono ?_
    rw [← HQ.out.2]
    rintro e w2 ⟨rfl, hb2⟩
    have HC := hide (HB.out.trans (hb2.mono HB.out.size))
    clear hb2
    go_wp2
    go_ret
    exact ⟨ret_bl (by simp), HC.out⟩
set_option maxHeartbeats 800000 in
theorem ritem_any {a : Bs} (w : World) (h : WfT a) (hl : a.length ≤ 1000) : Calls Tryz.prog 28 #[tx a] w fun e w' => e = .returned (.tuple #[tx (it a), .bool (isL a)]) ∧ w = w' := by
  obtain ⟨_, h⟩ := h
  have hw := nu_wf h
  have hle := nu_le a
  have HC := hide (rnu_any a w (by omega))
  have hit : it a = if isL a then Lib.trimSuffix (Lib.trimPrefix (nu a) [91]) [93] else [] := rfl
  have hil : isL a = Lib.hasPrefix (nu a) [91] := rfl
  obtain ⟨u, hu⟩ : ∃ u, u = nu a := ⟨_, rfl⟩
  rw [← hu] at hw HC hit hil hle
  have i1 : (u.length : Int) ≤ 1000 := by omega
  cases hw with
  | name hg =>
    have hL : isL a = false := by
      rw [hil]
      have := isL_false hg
      unfold isL at this
      rwa [nu_same hg] at this
    rw [hL] at hit
    have HI := hide (And.intro hL hit)
    obtain ⟨x, r, rfl⟩ : ∃ x r, u = x :: r := by
      cases u with
      | nil => exact absurd rfl hg.1
      | cons x r => exact ⟨x, r, rfl⟩
    have hx : x ≠ 91 := fun e => (hg.2 91 (by rw [e]; simp)).2.1 rfl
    have hxb : ((x.toNat : Int) != 91) = true := (u8_ne (k := 91) (by omega)).2 hx
    obtain ⟨v, hv⟩ : ∃ v : Bs, v = x :: r := ⟨_, rfl⟩
    have h0 : 0 < v.length := by rw [hv]; simp
    have hsz : 0 < (ByteArray.mk v.toArray).size := by show 0 < v.toArray.size; simpa using h0
    have hb0 : ((((ByteArray.mk v.toArray)[0]).toNat : Int) != 91) = true := by
      have : (ByteArray.mk v.toArray)[0] = x := by subst hv; rfl
      rw [this]; exact hxb
    rw [← hv] at HC i1
    clear hg hx hxb hit hil hle hL hu hv
    go_enter Tryz.func28, Tryz.ntmps28
    go_wp2_with (with_reducible refine HC.out.mono ?_; rintro e w' ⟨rfl, rfl⟩)
    all_goals go_ret2
    all_goals exact ⟨by rw [HI.out.1, HI.out.2]; rfl, rfl⟩
  | list hg =>
    rename_i s
    have hL : isL a = true := by rw [hil]; rfl
    rw [hL] at hit
    have hit2 : it a = s := by
      rw [hit]
      show Lib.trimSuffix (s ++ [93]) [93] = s
      exact trimSuffix_end s 93
    have HI := hide (And.intro hL hit2)
    obtain ⟨v, hv⟩ : ∃ v : Bs, v = 91 :: (s ++ [93]) := ⟨_, rfl⟩
    have hvl : v.length = s.length + 2 := by rw [hv]; simp
    have h0 : 0 < v.length := by omega
    have h2 : ¬ ((v.length : Int) < 2) := by omega
    have hsz : 0 < (ByteArray.mk v.toArray).size := by show 0 < v.toArray.size; simpa using h0
    have hb0 : ((((ByteArray.mk v.toArray)[0]).toNat : Int) != 91) = false := by
      have : (ByteArray.mk v.toArray)[0] = 91 := by subst hv; rfl
      rw [this]; rfl
    have hex : (ByteArray.mk v.toArray).extract 1 (s.length + 2 - 1) = ⟨s.toArray⟩ := by
      apply bytes_inj
      rw [mid_extract]
      subst hv
      unfold mid
      simp
    have HE := hide hex
    rw [← hv] at HC i1
    have i2 : (v.length : Int) - 1 = ((s.length + 1 : Nat) : Int) := by omega
    have i3 : (s.length + 1 : Nat) ≤ v.length := by omega
    clear hg hit hit2 hil hle hL hu hv hex
    go_enter Tryz.func28, Tryz.ntmps28
    go_wp2_with (with_reducible refine HC.out.mono ?_; rintro e w' ⟨rfl, rfl⟩)
    go_ret2
    refine ⟨?_, rfl⟩
    rw [HI.out.1, HI.out.2]
    show Ending.returned (.tuple #[.string ((ByteArray.mk v.toArray).extract 1 (s.length + 2 - 1)), .bool true]) = _
    rw [HE.out]
end Go.Proofs.YtlpmnnkijdbopaaGreatDoor
