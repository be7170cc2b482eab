/-
  The walks of ParseType, typed; of the reference's NonNull, Nullable, Base.
-/
import Derived.Test.YtlpmnnkijdbopaaGreatDoorLexM
namespace Go.Proofs.YtlpmnnkijdbopaaGreatDoor
open Go.RowKit Go.Maps

def PtR (w : World) (e : Ending) (w' : World) : Prop := ∃ (b : ByteArray) (p k : Int), e = .returned (.tuple #[.string b, .int .i64 p, .int .i64 k]) ∧ (k = 0 → WfT b.data.toList) ∧ Below w.heap.size w w'
set_option maxRecDepth 20000 in
set_option maxHeartbeats 800000 in
theorem parseType_any (s : Bs) (w : World) (hs : s.length ≤ 1000) : Calls Tryz.prog 18 #[tx s] w (PtR w) := by
  have HS := hide hs
  clear hs
  go_enter Tryz.func18, Tryz.ntmps18
  go_wp2_with fail
  refine (begin_any s _ (by have := HS.out; omega)).mono ?_
  rintro e w1 ⟨A, c, l, k, p, rfl, hE, hb1⟩
  have H1 := hide (And.intro hE hb1)
  have hcnt := hE.tk.cnt
  have h0 : ∃ t, l[0]? = some t := ⟨_, List.getElem?_eq_getElem hE.tk.pos⟩
  obtain ⟨t, ht⟩ := h0
  have HT := hide (And.intro ht hcnt)
  clear hE hb1 hcnt ht
  go_wp2_with fail
  refine (type_any (m := s.length) (n := l.length) (c := c) rfl (by have := HS.out; omega) l.length w1 0 t 0 k p H1.out.1 HT.out.1 (fun _ => by omega) (by have := HT.out.2; omega) (by have := HT.out.2; omega)).mono ?_
  rintro e w2 ⟨j', d', k', p', b, rfl, hj', hd1, hd2, hbs, hk', hb2⟩
  have H2 := hide (And.intro hk' (And.intro (H1.out.1.more hb2) (H1.out.2.trans (hb2.mono H1.out.2.size))))
  clear hd1 hd2 hbs hk' hb2
  obtain ⟨n, hn⟩ : ∃ n, n = l.length := ⟨_, rfl⟩
  rw [← hn] at hj' ⊢
  have HN := hide hn
  clear hn
  have hr : (w2.alloc (.cells (stc A n c (j' : Int) d' k' p') 69)).rangeAt w2.heap.size 0 [.slice A n c, .int .i64 (j' : Int), .int .i64 d', .int .i64 k', .int .i64 p'] := fun j u hu => by
    rw [cell_of_row _ _ _ _ _ _ (heap_alloc_new w2 _), Nat.zero_add]
    simpa using hu
  go_wp2_with (first
    | ((with_reducible show wpList _ _ _ ({ dst := _, op := .store 69 _ _, type := _, pos := _, after := _, guard := _ } :: _) _ _); refine wpList_store_new rfl rfl rfl Tryz.sizeSt rfl rfl ?_)
    | ((with_reducible show wpList _ _ _ ({ dst := _, op := .load 69 _, type := _, pos := _, after := _, guard := _ } :: _) _ _); refine wpList_loadE rfl hr Tryz.underlying69 rfl Tryz.sizeSt rfl ?_))
  have htj : ∃ t, l[j']? = some t := ⟨_, List.getElem?_eq_getElem (by rw [← HN.out]; exact hj')⟩
  obtain ⟨t', ht'⟩ := htj
  have HT' := hide ht'
  clear ht'
  refine (end_any (H2.out.2.1.more ((Below.refl _ w2).alloc (Nat.le_refl _) _)) HN.out.symm HT'.out d' k' p').mono ?_
  rintro e w3 ⟨i5, d5, k5, p5, rfl, hk5, hb3⟩
  have hg : w3.heap[w2.heap.size]? = some (.cells #[.slice A n c, .int .i64 (j' : Int), .int .i64 d', .int .i64 k', .int .i64 p'] 69 (0, 0)) := by rw [hb3.block _ (by simp)]; exact heap_alloc_new w2 _
  have hbw : Below w.heap.size w w3 := (H2.out.2.2.alloc H2.out.2.2.size _).trans (hb3.mono (by have := H2.out.2.2.size; simp; omega))
  have H3 := hide (And.intro hg (And.intro hbw (And.intro hk5 (below_setRow hbw H2.out.2.2.size (stc A n c i5 d5 k5 p5)))))
  have h4 : (w3.setRow w2.heap.size (stc A n c i5 d5 k5 p5)).heap[w2.heap.size]? = some (.cells (stc A n c i5 d5 k5 p5) 69 (0, 0)) := setRow_heap _ _ _ _ _ _ hg
  have c3 : (w3.setRow w2.heap.size (stc A n c i5 d5 k5 p5)).cell? ⟨w2.heap.size, 3, none⟩ = some (.int .i64 k5) := by rw [cell_of_row _ _ _ _ _ _ h4]; rfl
  have c4 : (w3.setRow w2.heap.size (stc A n c i5 d5 k5 p5)).cell? ⟨w2.heap.size, 4, none⟩ = some (.int .i64 p5) := by rw [cell_of_row _ _ _ _ _ _ h4]; rfl
  clear hg hbw hk5 hb3 h4 hr
  by_cases hz : k5 = 0
  · have zb : (k5 != 0) = false := by simp [hz]
    have HW := hide ((H2.out.1 (H3.out.2.2.1 hz)).2)
    clear hz
    go_wp2_with ((with_reducible show wpList _ _ _ ({ dst := _, op := .store 69 _ _, type := _, pos := _, after := _, guard := _ } :: _) _ _); refine wpList_store_row rfl 69 _ _ rfl w2.heap.size (stc A n c i5 d5 k5 p5) rfl rfl 69 _ H3.out.1 Tryz.sizeSt rfl (st_one _ _ _ _ _ _ _) ?_)
    go_ret3
    exact ⟨b, 0, 0, rfl, fun _ => HW.out, H3.out.2.2.2⟩
  · have zb : (k5 != 0) = true := by simpa using hz
    have HZ := hide hz
    clear hz
    go_wp2_with ((with_reducible show wpList _ _ _ ({ dst := _, op := .store 69 _ _, type := _, pos := _, after := _, guard := _ } :: _) _ _); refine wpList_store_row rfl 69 _ _ rfl w2.heap.size (stc A n c i5 d5 k5 p5) rfl rfl 69 _ H3.out.1 Tryz.sizeSt rfl (st_one _ _ _ _ _ _ _) ?_)
    go_quiet (fail)
    go_wp2
    go_ret3
    exact ⟨⟨#[]⟩, p5, k5, rfl, fun h => absurd h HZ.out, H3.out.2.2.2.trans ⟨rfl, rfl, rfl, Nat.le_refl _, fun _ _ => rfl⟩⟩
def TdR (s : Bs) (w : World) (e : Ending) (w' : World) : Prop := ∃ q : Bool, e = .returned (.bool q) ∧ (q = true → WfT s) ∧ Below w.heap.size w w'
theorem list_of {b : ByteArray} {s : Bs} (h : b = ⟨s.toArray⟩) : b.data.toList = s := by rw [h]
set_option maxHeartbeats 800000 in
theorem typed_any (s : Bs) (w : World) (hs : s.length ≤ 1000) : Calls Tryz.prog 6 #[tx s] w (TdR s w) := by
  have HS := hide hs
  clear hs
  go_enter Tryz.func6, Tryz.ntmps6
  go_wp2_with fail
  refine (parseType_any s _ HS.out).mono ?_
  rintro e w1 ⟨b, p, k, rfl, hk, hb⟩
  have HB := hide (And.intro hb hk)
  clear hb hk
  by_cases hz : k = 0
  · have zb : (k == 0) = true := by simp [hz]
    have HW := hide (HB.out.2 hz)
    clear hz
    go_wp2
    go_ret
    refine ⟨_, rfl, fun h => ?_, HB.out.1⟩
    have e : b.data.toList = s := by rw [← ByteArray.toList_eq b]; simpa using h
    have := HW.out
    rw [e] at this
    exact this
  · have zb : (k == 0) = false := by simpa using hz
    clear hz
    go_wp2
    go_ret
    exact ⟨false, rfl, by simp, HB.out.1⟩
theorem nn_at {a : Bs} {n : Nat} (h : a.length = n + 1) : nn a = decide (a[n]'(by omega) = 33) := by
  rcases List.eq_nil_or_concat a with rfl | ⟨s, x, rfl⟩
  · simp at h
  · simp at h
    subst h
    simp only [List.concat_eq_append, List.getElem_append_right (Nat.le_refl _), Nat.sub_self, List.getElem_cons_zero]
    by_cases hx : x = 33
    · subst hx; rw [nn_end]; rfl
    · unfold nn; rw [hasSuffix_other s (fun e => hx e.symm)]; simp [hx]
theorem byte_eq (x : UInt8) : ((x.toNat : Int) == 33) = decide (x = 33) := by
  rw [Bool.eq_iff_iff]
  simp
  constructor
  · intro h
    have : x.toNat = 33 := by omega
    exact UInt8.toNat_inj.1 this
  · rintro rfl; rfl
theorem nn_nil : nn [] = false := by decide
set_option maxHeartbeats 800000 in
theorem rnn_any (a : Bs) (w : World) (h : a.length ≤ 100000) : Calls Tryz.prog 26 #[tx a] w fun e w' => e = .returned (.bool (nn a)) ∧ w = w' := by
  cases ha : a with
  | nil =>
    clear h ha
    go_enter Tryz.func26, Tryz.ntmps26
    go_wp2
    go_ret
    exact ⟨rfl, rfl⟩
  | cons x r =>
    rw [← ha]
    obtain ⟨n, hn⟩ : ∃ n, a.length = n + 1 := ⟨r.length, by rw [ha]; rfl⟩
    have hne : a.isEmpty = false := by rw [ha]; rfl
    have hnn := nn_at hn
    have hsz : n < (ByteArray.mk a.toArray).size := by show n < a.toArray.size; simp; omega
    have i1 : (a.length : Int) ≤ 100000 := by omega
    have i2 : (a.length : Int) - 1 = (n : Int) := by omega
    have i3 : 1 ≤ (a.length : Int) := by omega
    have hlt : n < a.length := by omega
    have HN := hide hnn
    clear hnn h ha
    go_enter Tryz.func26, Tryz.ntmps26
    go_wp2
    go_ret
    exact ⟨ret_bl (by rw [HN.out]; exact byte_eq _), rfl⟩
theorem nu_take {a : Bs} {n : Nat} (h : a.length = n + 1) (hn : nn a = true) : nu a = a.take n := by
  rcases List.eq_nil_or_concat a with rfl | ⟨s, x, rfl⟩
  · simp at h
  · simp at h
    subst h
    rw [List.concat_eq_append] at hn ⊢
    by_cases hx : x = 33
    · subst hx; rw [nu_end]; simp
    · unfold nn at hn; rw [hasSuffix_other s (fun e => hx e.symm)] at hn; cases hn
theorem bytes_inj {a b : ByteArray} (h : a.data.toList = b.data.toList) : a = b := by
  cases a with | mk x =>
  cases b with | mk y =>
  have : x = y := by simpa using h
  rw [this]
theorem extract_take (s : Bs) (n : Nat) : (ByteArray.mk s.toArray).extract 0 n = ⟨(s.take n).toArray⟩ := by
  apply bytes_inj
  rw [mid_extract]
  simp [mid]
set_option maxHeartbeats 800000 in
theorem rnu_any (a : Bs) (w : World) (h : a.length ≤ 100000) : Calls Tryz.prog 27 #[tx a] w fun e w' => e = .returned (tx (nu a)) ∧ w = w' := by
  have i1 : (a.length : Int) ≤ 100000 := by omega
  have HC := hide (rnn_any a w h)
  clear h
  cases hq : nn a with
  | true =>
    obtain ⟨n, hn⟩ : ∃ n, a.length = n + 1 := ⟨a.length - 1, by have := nu_lt hq; omega⟩
    have hnu := nu_take hn hq
    have i2 : (a.length : Int) - 1 = (n : Int) := by omega
    have i3 : 1 ≤ (a.length : Int) := by omega
    have hlt : n < a.length := by omega
    have HQ := hide (And.intro hq hnu)
    rw [hq] at HC
    clear hq hnu
    go_enter Tryz.func27, Tryz.ntmps27
    go_wp2_with (with_reducible refine HC.out.mono ?_; rintro e w' ⟨rfl, rfl⟩)
    go_ret
    refine ⟨?_, rfl⟩
    show Ending.returned (.string ((ByteArray.mk a.toArray).extract 0 n)) = _
    rw [HQ.out.2, extract_take]
  | false =>
    have hnu := nu_of_nn hq
    have HQ := hide hnu
    rw [hq] at HC
    clear hq hnu
    go_enter Tryz.func27, Tryz.ntmps27
    go_wp2_with (with_reducible refine HC.out.mono ?_; rintro e w' ⟨rfl, rfl⟩)
    go_ret
    exact ⟨by rw [HQ.out]; rfl, rfl⟩
theorem base_snoc {a : Bs} {m : Nat} (hm : m < a.length) : base (a.take (m + 1)) = base (a.take m) ++ if sgn a[m] then [] else [a[m]] := by
  unfold base
  rw [List.take_succ_eq_append_getElem hm, List.filter_append]
  congr 1
  cases h : sgn a[m] <;> simp [h]
theorem extract_one {s : Bs} {m : Nat} (hm : m < s.length) : (ByteArray.mk s.toArray).extract m (m + 1) = ⟨[s[m]].toArray⟩ := by
  apply bytes_inj
  rw [mid_extract]
  unfold mid
  rw [show m + 1 - m = 0 + 1 by omega, List.take_succ_eq_append_getElem (by simp; omega)]
  simp
theorem tx_app (a b : Bs) : ByteArray.mk a.toArray ++ ByteArray.mk b.toArray = ByteArray.mk (a ++ b).toArray := by
  apply bytes_inj
  rw [cat_list]
theorem u8_ne {x : UInt8} {k : Nat} (hk : k < 256) : (((x.toNat : Int) != (k : Int)) = true) ↔ x ≠ UInt8.ofNat k := by
  constructor
  · rintro h rfl
    simp at h
    omega
  · intro h
    simp
    intro e
    exact h (UInt8.toNat_inj.1 (by simp; omega))
set_option maxRecDepth 20000 in
set_option maxHeartbeats 800000 in
theorem rbase_any (a : Bs) (w : World) (h : a.length ≤ 100000) : Calls Tryz.prog 33 #[tx a] w fun e w' => e = .returned (tx (base a)) ∧ w = w' := by
  have i1 : (a.length : Int) ≤ 100000 := by omega
  clear h
  go_enter Tryz.func33, Tryz.ntmps33
  go_wp2
  go_loop [3, 4] (fun o i => ∃ (m : Nat) (b : Bs), m ≤ a.length ∧ i = .int .i64 m ∧ o = tx b ∧ Hid (b = base (a.take m) ∧ b.length ≤ m)) (fun _ i => a.length - (intOf i).toNat)
  case atStart => exact ⟨0, [], by omega, rfl, rfl, hide ⟨rfl, by simp⟩⟩
  case round =>
    obtain ⟨m, b, hm, rfl, rfl, HB⟩ := hrel
    by_cases hlt : m < a.length
    · have hsz : m < (ByteArray.mk a.toArray).size := by show m < a.toArray.size; simpa using hlt
      obtain ⟨x, hx⟩ : ∃ x, x = a[m] := ⟨_, rfl⟩
      have hsn := base_snoc hlt
      rw [← HB.out.1, ← hx] at hsn
      have HX := hide (And.intro hx (And.intro hsn HB.out.2))
      clear hsn
      by_cases hs : sgn x = true
      · have HS := hide hs
        have h3 : (x.toNat : Int) = 91 ∨ (x.toNat : Int) = 93 ∨ (x.toNat : Int) = 33 := by
          unfold sgn at hs
          simp at hs
          rcases hs with (rfl | rfl) | rfl
          · exact .inl rfl
          · exact .inr (.inl rfl)
          · exact .inr (.inr rfl)
        have hxe : (((ByteArray.mk a.toArray)[m]).toNat : Int) = (x.toNat : Int) := by rw [hx]; rfl
        clear hs hx
        rcases h3 with h3 | h3 | h3
        all_goals
          rw [h3] at hxe
          have b91 : ((((ByteArray.mk a.toArray)[m]).toNat : Int) != 91) = decide ((((ByteArray.mk a.toArray)[m]).toNat : Int) ≠ 91) := by rw [hxe]; rfl
          clear b91 h3
          go_wp2
          go_round
          case rel => exact ⟨m + 1, b, by omega, by go_num, rfl, hide ⟨by rw [HX.out.2.1, HS.out]; simp, by have := HB.out.2; omega⟩⟩
          case measure => simp [intOf]; omega
      · have HS := hide hs
        have n1 : x ≠ 91 := fun e => hs (by rw [e]; rfl)
        have n2 : x ≠ 93 := fun e => hs (by rw [e]; rfl)
        have n3 : x ≠ 33 := fun e => hs (by rw [e]; rfl)
        have e1 : ((((ByteArray.mk a.toArray)[m]).toNat : Int) != 91) = true := by
          show (((a[m]).toNat : Int) != ((91 : Nat) : Int)) = true
          rw [← hx]; exact (u8_ne (by omega)).2 n1
        have e2 : ((((ByteArray.mk a.toArray)[m]).toNat : Int) != 93) = true := by
          show (((a[m]).toNat : Int) != ((93 : Nat) : Int)) = true
          rw [← hx]; exact (u8_ne (by omega)).2 n2
        have e3 : ((((ByteArray.mk a.toArray)[m]).toNat : Int) != 33) = true := by
          show (((a[m]).toNat : Int) != ((33 : Nat) : Int)) = true
          rw [← hx]; exact (u8_ne (by omega)).2 n3
        have HE := hide (extract_one hlt)
        clear hs hx n1 n2 n3
        go_wp2_with ((with_reducible show wpList _ _ _ ({ dst := _, op := .binOp .add 9 _ _ 9, type := _, pos := _, after := _, guard := _ } :: _) _ _); refine wpList_catB rfl rfl (by have := HB.out.2; have := sz_tx b; have := extract_le ⟨a.toArray⟩ m (m + 1); omega) ?_)
        go_round
        case rel =>
          refine ⟨m + 1, b ++ [a[m]], by omega, by go_num, ?_, hide ⟨by rw [HX.out.2.1, if_neg HS.out, HX.out.1], by have := HB.out.2; simp; omega⟩⟩
          rw [HE.out, tx_app]
        case measure => simp [intOf]; omega
    · have he : b = base a := by have := HB.out.1; rwa [List.take_of_length_le (by omega)] at this
      have HE := hide he
      clear he
      go_wp2
      go_ret
      exact ⟨by rw [HE.out]; rfl, rfl⟩
end Go.Proofs.YtlpmnnkijdbopaaGreatDoor
