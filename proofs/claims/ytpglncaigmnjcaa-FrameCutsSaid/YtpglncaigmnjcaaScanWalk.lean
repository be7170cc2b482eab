/-
  The walk of frame.Scan.
-/
import Derived.Test.YtpglncaigmnjcaaScanLaw
namespace Go.Proofs.Ytpglncaigmnjcaa
open Go.RowKit

set_option maxRecDepth 100000 in
set_option maxHeartbeats 3200000 in
theorem scan_any {w : World} {B n : Nat} {A : Option Addr} {l : List UInt8} (c : Nat) (hr : Rb w B A n l) (hB : B ≤ w.heap.size) (hnc : n ≤ c) (hn : n ≤ 1000000) :
    Calls Try.prog 18 #[.slice A n c] w fun e w' => ∃ A' c' us, e = .returned (.tuple #[.slice A' (scan l 0).1.length c', .int .i64 ((scan l 0).2 : Int)]) ∧
      w'.ownsRow w.heap.size 40 2 (.slice A' (scan l 0).1.length c') (scan l 0).1.length us ∧ FrCells w' w.heap.size us (scan l 0).1 ∧ Below w.heap.size w w' := by
  have H := hide (And.intro (hr.more hB) (And.intro hnc (And.intro hn hr.len)))
  have i0 : (n : Int) ≤ 1000000 := by omega
  clear hr hB hnc hn
  go_enter Try.func18, Try.ntmps18
  go_wp2
  go_loopw [4, 5] (fun v i wr => ∃ (a : Nat) (A' : Option Addr) (c' : Nat) (us : List Value) (fs : List (Nat × List UInt8)), i = .int .i64 a ∧ a ≤ n ∧ v = .slice A' fs.length c' ∧
      wr.ownsRow w.heap.size 40 2 (.slice A' fs.length c') fs.length us ∧ FrCells wr w.heap.size us fs ∧ Below w.heap.size w wr ∧ Front l a fs) (fun _ i _ => n - (intOf i).toNat)
  case atStart => exact ⟨0, none, 0, [], [], rfl, Nat.zero_le _, rfl, World.ownsRow_nil _ _ _ _, trivial, Below.refl _ _, Front.start l⟩
  case round =>
    obtain ⟨a, A', c', us, fs, rfl, han, rfl, hown, hfc, hbel, hfr⟩ := hrel
    have HR := hide (And.intro hown (And.intro hfc (And.intro hbel hfr)))
    have hll := H.out.2.2.2
    have j0 : (a : Int) ≤ (n : Int) := by omega
    clear hown hfc hbel hfr han
    by_cases h9 : n < a + 9
    · have hs : step l a = none := by unfold step; rw [if_pos (by omega)]
      have hsc := HR.out.2.2.2.stop hs
      have j1 : (n : Int) - (a : Int) < 9 := by omega
      have HS := hide hsc
      clear h9 hs hsc hll
      go_wp2
      go_ret2
      rw [HS.out]
      exact ⟨A', c', us, rfl, HR.out.1, HR.out.2.1, HR.out.2.2.1⟩
    · have j1 : (9 : Int) ≤ (n : Int) - (a : Int) := by omega
      obtain ⟨b, o, _, rfl, _, _, _⟩ := H.out.1.at_ (j := 0) (by omega)
      have j2 : ¬ c = a := by have := H.out.2.1; omega
      have hrd : Rb wr w.heap.size (some ⟨b, o + a, none⟩) (n - a) (l.drop a) := (H.out.1.drop (m := a) (C := some ⟨b, o + a, none⟩) (fun _ => by rw [Option.map_some, Addr.add_lit])).below HR.out.2.2.1
      have h4 : 4 ≤ n - a := by omega
      have HN := hide (And.intro hrd h4)
      clear hrd h4
      obtain ⟨nn, hnn⟩ : ∃ nn, nn = num (l.drop a) := ⟨_, rfl⟩
      have hn32 : nn < 4294967296 := by rw [hnn]; exact num_lt _
      have HNN := hide hnn
      go_wp2_with fail
      refine (number_any _ HN.out.1 HN.out.2).mono ?_
      rintro e w' ⟨rfl, kn, rfl⟩
      rw [← hnn]
      clear hnn
      have hw2 : Below w.heap.size w (wr.drewN kn) := bl_drewN HR.out.2.2.1 kn
      have HW := hide hw2
      clear hw2
      by_cases hbad : 8192 < nn ∨ n < a + 9 + nn
      · have hs : step l a = none := by unfold step; rw [if_neg (by omega), if_pos (by rw [← HNN.out]; omega)]
        have hsc := HR.out.2.2.2.stop hs
        have HS := hide hsc
        clear hs hsc hll
        by_cases h8 : 8192 < nn
        all_goals
          first
            | have j3 : (8192 : Int) < (nn : Int) := by omega
            | (have j3 : (nn : Int) ≤ 8192 := by omega
               have j4 : (n : Int) - (a : Int) - 9 < (nn : Int) := by omega)
          have j5 : (nn : Int) < 4294967296 := by omega
          clear hbad h8 h9 hn32
          go_wp2
          go_ret2
          rw [HS.out]
          have hq : ∀ v n xs, wr.ownsRow w.heap.size 5 1 v n xs → (wr.drewN kn).ownsRow w.heap.size 5 1 v n xs := fun _ _ _ h => h
          have hfk : FrCells (wr.drewN kn) w.heap.size us fs := FrCells.imp hq HR.out.2.1
          exact ⟨A', c', us, rfl, HR.out.1, hfk, HW.out⟩
      · have j3 : (nn : Int) ≤ 8192 := by omega
        have j4 : (nn : Int) ≤ (n : Int) - (a : Int) - 9 := by omega
        have j6 : ((a : Int) + 9 + (nn : Int)).toNat = a + 9 + nn := by omega
        have j7 : (a : Int) + 9 + (nn : Int) ≤ (c : Int) := by have := H.out.2.1; omega
        have j8 : (a : Int) ≤ (a : Int) + 9 + (nn : Int) := by omega
        have j9 : a + 9 + nn - a = 9 + nn := by omega
        have hfit : a + 9 + nn ≤ n := by omega
        have hrd2 : Rb (wr.drewN kn) w.heap.size (some ⟨b, o + a, none⟩) (9 + nn) ((l.drop a).take (9 + nn)) := (HN.out.1.take (by omega)).drewN kn
        obtain ⟨cd, kd, pd, hd⟩ : ∃ cd kd pd, dec ((l.drop a).take (9 + nn)) = (cd, kd, pd) := ⟨_, _, _, rfl⟩
        have HD := hide (And.intro hd (And.intro hrd2 (And.intro hfit hbad)))
        clear hbad h9 hn32 hd hrd2 hfit
        go_wp2_with fail
        refine (decode_list _ HD.out.1 HD.out.2.1 HW.out.size (by have := HD.out.2.2.1; have := H.out.2.1; omega) (by have := HD.out.2.2.1; have := H.out.2.2.1; unfold maxLen; omega)).mono ?_
        rintro e w4 ⟨P, cP, rfl, hown4, hb4⟩
        by_cases hcd : cd = 0
        · subst hcd
          have hs : step l a = some (nn, kd, pd) := by
            unfold step
            rw [if_neg (by have := HD.out.2.2; omega), if_neg (by rw [← HNN.out]; have := HD.out.2.2; omega), ← HNN.out, if_neg (by rw [HD.out.1]; simp), HD.out.1]
          have hs4 : w.heap.size ≤ w4.heap.size := Nat.le_trans HW.out.size hb4.size
          have hkeep4 : ∀ {e : TypeId} {k n : Nat} {v : Value} {xs : List Value}, wr.ownsRow w.heap.size e k v n xs → w4.ownsRow w.heap.size e k v n xs := fun h =>
            owns_below (w := wr.drewN kn) h hb4 (fun g hg => (h.lt g hg).2)
          have hnew : w4.ownsRow w.heap.size 5 1 (.slice P pd.length cP) pd.length (u8s pd) := by
            refine ⟨hown4.1, ?_⟩
            rcases hown4.2 with h | ⟨g, cap, cur, hv, hg, r⟩
            · exact .inl h
            · exact .inr ⟨g, cap, cur, hv, by have := HW.out.size; omega, r⟩
          have hfl : fs.length ≤ 1000000 := by have := HR.out.2.2.2.2; have := HD.out.2.2; have := H.out.2.2.1; omega
          have HK := hide (And.intro (((hkeep4 HR.out.1).alloc (.cells #[.int .i64 (kd : Int), .slice P pd.length cP] 40)).alloc (.cells #[.int .i64 (kd : Int), .slice P pd.length cP] 40)) (And.intro (HR.out.2.1.imp fun v n xs h => hkeep4 h) (And.intro hnew (And.intro (HW.out.trans (hb4.mono HW.out.size)) (And.intro hs4 (And.intro hs hfl))))))
          have ht := Rd.two (w4.alloc (.cells #[.int .i64 (kd : Int), .slice P pd.length cP] 40)) (.int .i64 (kd : Int)) (.slice P pd.length cP) 40
          rw [World.size_alloc] at ht
          have HT := hide ht
          obtain ⟨ti, hi, hz0, hz1, hz2⟩ := info_parts Try.infoFr
          have HI := hide (And.intro hi (And.intro hz0 (And.intro hz1 hz2)))
          clear ht hs hs4 hkeep4 hnew hown4 hb4 hi hz0 hz1 hz2 hll hfl
          go_wp2_with ((with_reducible show wpList _ _ _ ({ dst := _, op := .call { callee := .builtin .append, args := #[_, _], argTypes := #[50, 50] }, type := _, pos := _, after := _, guard := _ } :: _) _ _); refine wpList_append_g Try.underlying50 HI.out.1 HI.out.2.1 HI.out.2.2.1 HI.out.2.2.2 rfl (by decide) rfl rfl HK.out.1 HT.out (by intro u hu; simp at hu; rcases hu with rfl | rfl <;> rfl) (by have := HK.out.2.2.2.2.2.2; unfold maxLen; omega) (by have := HK.out.2.2.2.2.2.2; omega) (by have := HK.out.2.2.2.2.1; simp; omega) ?_; intro A9 c9 w9 hown9 hg9)
          go_roundw
          case rel =>
            have hk9 : ∀ {n : Nat} {v : Value} {xs : List Value}, w4.ownsRow w.heap.size 5 1 v n xs → w9.ownsRow w.heap.size 5 1 v n xs := fun h =>
              owns_other ((h.alloc (.cells #[.int .i64 (kd : Int), .slice P pd.length cP] 40)).alloc (.cells #[.int .i64 (kd : Int), .slice P pd.length cP] 40)) HK.out.1 (by decide) hg9
            have hf9 := FrCells.snoc (f := (kd, pd)) ⟨rfl, P, cP, rfl, hk9 HK.out.2.2.1⟩ (HK.out.2.1.imp fun v n xs h => hk9 h)
            have hb9 : Below w.heap.size w w9 := ((HK.out.2.2.2.1.alloc HK.out.2.2.2.2.1 _).alloc (by have := HK.out.2.2.2.2.1; simp; omega) _).grown hg9 (by have := HK.out.2.2.2.2.1; simp; omega) (fun q hq => (HK.out.1.lt q hq).1)
            refine ⟨a + 9 + nn, A9, c9, us ++ [.int .i64 (kd : Int), .slice P pd.length cP], fs ++ [(kd, pd)], by go_num, by have := HD.out.2.2.1; omega, by rw [List.length_append]; rfl, ?_, hf9, hb9, HR.out.2.2.2.next HK.out.2.2.2.2.2.1⟩
            rw [List.length_append]
            exact hown9
          case measure => simp [intOf]; omega
        · have hs : step l a = none := by
            unfold step
            rw [if_neg (by have := HD.out.2.2; omega), if_neg (by rw [← HNN.out]; have := HD.out.2.2; omega), ← HNN.out, if_pos (by rw [HD.out.1]; exact hcd)]
          have hsc := HR.out.2.2.2.stop hs
          have HS := hide hsc
          have hne : ((cd : Int) != 0) = true := by rw [bne_iff_ne]; omega
          have hne2 : ((cd : Int) == 0) = false := by rw [beq_eq_false_iff_ne]; omega
          have hkeep : ∀ {e : TypeId} {k n : Nat} {v : Value} {xs : List Value}, wr.ownsRow w.heap.size e k v n xs → (w4.alloc (.cells #[.int .i64 (kd : Int), .slice P pd.length cP] 40)).ownsRow w.heap.size e k v n xs := fun h =>
            (owns_below (w := wr.drewN kn) h hb4 (fun g hg => (h.lt g hg).2)).alloc _
          have hbw : Below w.heap.size w (w4.alloc (.cells #[.int .i64 (kd : Int), .slice P pd.length cP] 40)) := (HW.out.trans (hb4.mono HW.out.size)).alloc (Nat.le_trans HW.out.size hb4.size) _
          have HK := hide (And.intro (hkeep HR.out.1) (And.intro (HR.out.2.1.imp fun v n xs h => hkeep h) hbw))
          clear hs hsc hll hcd hown4 hb4 hkeep hbw
          go_wp2
          go_ret2
          rw [HS.out]
          exact ⟨A', c', us, rfl, HK.out.1, HK.out.2.1, HK.out.2.2⟩
end Go.Proofs.Ytpglncaigmnjcaa
