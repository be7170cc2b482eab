/-
  The walk of the reference's Scan.
-/
import Derived.Test.YtpglncaigmnjcaaScanWalk
namespace Go.Proofs.Ytpglncaigmnjcaa
open Go.RowKit

def rcells (fs : List (Nat × List UInt8)) : List Value := fs.flatMap fun f => [.int .i64 (f.1 : Int), .string ⟨f.2.toArray⟩]
theorem rcells_snoc (fs : List (Nat × List UInt8)) (k : Nat) (p : List UInt8) : rcells (fs ++ [(k, p)]) = rcells fs ++ [.int .i64 (k : Int), .string ⟨p.toArray⟩] := by simp [rcells]
theorem rcells_get : ∀ {fs : List (Nat × List UInt8)} {j : Nat} {f : Nat × List UInt8}, fs[j]? = some f → (rcells fs)[2 * j]? = some (.int .i64 (f.1 : Int)) ∧ (rcells fs)[2 * j + 1]? = some (.string ⟨f.2.toArray⟩)
  | [], _, _, h => by simp at h
  | f' :: fs, 0, f, h => by
    simp at h
    subst h
    exact ⟨rfl, rfl⟩
  | f' :: fs, j + 1, f, h => by
    have hh := rcells_get (fs := fs) (j := j) (by simpa using h)
    have e : rcells (f' :: fs) = .int .i64 (f'.1 : Int) :: .string ⟨f'.2.toArray⟩ :: rcells fs := rfl
    rw [e, show 2 * (j + 1) = 2 * j + 1 + 1 from by omega, show 2 * j + 1 + 1 + 1 = (2 * j + 1) + 1 + 1 from by omega]
    simpa using hh

set_option maxRecDepth 100000 in
set_option maxHeartbeats 3200000 in
theorem refscan_any {w : World} (s : ByteArray) (hn : s.size ≤ 1000000) :
    Calls Try.prog 19 #[.string s] w fun e w' => ∃ A' c', e = .returned (.tuple #[.slice A' (scan s.data.toList 0).1.length c', .int .i64 ((scan s.data.toList 0).2 : Int)]) ∧
      w'.ownsRow w.heap.size 45 2 (.slice A' (scan s.data.toList 0).1.length c') (scan s.data.toList 0).1.length (rcells (scan s.data.toList 0).1) ∧ Below w.heap.size w w' := by
  obtain ⟨l, hl⟩ : ∃ l, l = s.data.toList := ⟨_, rfl⟩
  rw [← hl]
  have i0 : (s.size : Int) ≤ 1000000 := by omega
  have hls : l.length = s.size := by rw [hl]; simp
  have H := hide (And.intro hn (And.intro hls hl))
  clear hn hls hl
  go_enter Try.func19, Try.ntmps19
  go_wp2
  go_loopw [4, 5] (fun v i wr => ∃ (a : Nat) (A' : Option Addr) (c' : Nat) (fs : List (Nat × List UInt8)), i = .int .i64 a ∧ a ≤ s.size ∧ v = .slice A' fs.length c' ∧
      wr.ownsRow w.heap.size 45 2 (.slice A' fs.length c') fs.length (rcells fs) ∧ Below w.heap.size w wr ∧ Front l a fs) (fun _ i _ => s.size - (intOf i).toNat)
  case atStart => exact ⟨0, none, 0, [], rfl, Nat.zero_le _, rfl, World.ownsRow_nil _ _ _ _, Below.refl _ _, Front.start l⟩
  case round =>
    obtain ⟨a, A', c', fs, rfl, han, rfl, hown, hbel, hfr⟩ := hrel
    have HR := hide (And.intro hown (And.intro hbel hfr))
    have hll := H.out.2.1
    have j0 : (a : Int) ≤ (s.size : Int) := by omega
    clear hown hbel hfr
    by_cases h9 : s.size < a + 9
    · have hs : step l a = none := by unfold step; rw [if_pos (by omega)]
      have hsc := HR.out.2.2.stop hs
      have j1 : (s.size : Int) - (a : Int) < 9 := by omega
      have HS := hide hsc
      clear h9 hs hsc hll han
      go_wp2
      go_ret2
      rw [HS.out]
      exact ⟨A', c', rfl, HR.out.1, HR.out.2.1⟩
    · have j1 : (9 : Int) ≤ (s.size : Int) - (a : Int) := by omega
      have e1 : s.extract a s.size = ⟨(l.drop a).toArray⟩ := by
        rw [ba_ext, ← H.out.2.2, List.take_of_length_le (by rw [List.length_drop]; omega)]
      obtain ⟨nn, hnn⟩ : ∃ nn, nn = num (l.drop a) := ⟨_, rfl⟩
      have hn32 : nn < 4294967296 := by rw [hnn]; exact num_lt _
      have hdl : (l.drop a).length = s.size - a := by rw [List.length_drop]; omega
      have HNN := hide (And.intro hnn (And.intro hn32 hdl))
      have h9' := h9
      clear hnn hn32 hdl h9
      go_wp2_with fail
      refine (refnumber_any ⟨(l.drop a).toArray⟩ _ (by rw [ba_len, HNN.out.2.2]; omega) (by rw [ba_len, HNN.out.2.2]; have := H.out.1; unfold maxLen; omega)).mono ?_
      rintro e w' ⟨rfl, kn, rfl⟩
      rw [show (⟨(l.drop a).toArray⟩ : ByteArray).data.toList = l.drop a from by simp, ← HNN.out.1]
      have HW := hide (bl_drewN HR.out.2.1 kn)
      have j2 : (nn : Int) ≤ 4294967295 := by have := HNN.out.2.1; omega
      by_cases hbad : s.size < a + 9 + nn
      · have hs : step l a = none := by unfold step; rw [if_neg (by omega), if_pos (by rw [← HNN.out.1]; omega)]
        have hsc := HR.out.2.2.stop hs
        have HS := hide hsc
        have j4 : (s.size : Int) - (a : Int) < (nn : Int) + 9 := by omega
        clear hs hsc hll hbad h9' han
        go_wp2
        go_ret2
        rw [HS.out]
        exact ⟨A', c', rfl, HR.out.1, HW.out⟩
      · have j4 : (nn : Int) + 9 ≤ (s.size : Int) - (a : Int) := by omega
        have j6 : ((a : Int) + ((nn : Int) + 9)).toNat = a + (nn + 9) := by omega
        have j7 : (a : Int) + ((nn : Int) + 9) ≤ (s.size : Int) := by omega
        have j8 : (a : Int) ≤ (a : Int) + ((nn : Int) + 9) := by omega
        have e2 : s.extract a (a + (nn + 9)) = ⟨((l.drop a).take (9 + nn)).toArray⟩ := by
          rw [ba_ext, ← H.out.2.2, show a + (nn + 9) - a = 9 + nn from by omega]
        have hln : ((l.drop a).take (9 + nn)).length ≤ 1000000 := by rw [List.length_take]; have := H.out.1; have := HNN.out.2.2; omega
        obtain ⟨cd, kd, pd, hd⟩ : ∃ cd kd pd, dec ((l.drop a).take (9 + nn)) = (cd, kd, pd) := ⟨_, _, _, rfl⟩
        have HD := hide (And.intro hd (And.intro hln hbad))
        have HA := hide (And.intro h9' han)
        clear hbad hd hln h9' han
        go_wp2_with fail
        refine (refdecode_list _ HD.out.2.1 HD.out.1).mono ?_
        rintro e w4 ⟨rfl, hb4⟩
        have hs4 : w.heap.size ≤ w4.heap.size := Nat.le_trans HW.out.size hb4.size
        have hkeep4 : w4.ownsRow w.heap.size 45 2 (.slice A' fs.length c') fs.length (rcells fs) :=
          owns_below (w := wr.drewN kn) HR.out.1 hb4 (fun g hg => (HR.out.1.lt g hg).2)
        have hbw4 := HW.out.trans (hb4.mono HW.out.size)
        by_cases hgood : cd = 0
        · subst hgood
          have hp8 : nn ≤ 8192 := by
            have h := HD.out.1
            unfold dec at h
            split at h
            · cases h
            · rename_i hx
              have := HD.out.2.2
              have := HNN.out.2.2
              simp only [List.length_take] at hx
              omega
          have hs : step l a = some (nn, kd, pd) := by
            unfold step
            rw [if_neg (by have := HA.out.1; omega), if_neg (by rw [← HNN.out.1]; have := HD.out.2.2; omega), ← HNN.out.1, if_neg (by rw [HD.out.1]; simp), HD.out.1]
          have hfl : fs.length ≤ 1000000 := by have := HR.out.2.2.2; have := HA.out; have := H.out.1; omega
          have ht := Rd.two (w4.alloc (.cells #[.int .i64 (kd : Int), .string ⟨pd.toArray⟩] 45)) (.int .i64 (kd : Int)) (.string ⟨pd.toArray⟩) 45
          rw [World.size_alloc] at ht
          have HK := hide (And.intro ((hkeep4.alloc (.cells #[.int .i64 (kd : Int), .string ⟨pd.toArray⟩] 45)).alloc (.cells #[.int .i64 (kd : Int), .string ⟨pd.toArray⟩] 45)) (And.intro ht (And.intro hbw4 (And.intro hs4 (And.intro hs hfl)))))
          obtain ⟨ti, hi, hz0, hz1, hz2⟩ := info_parts Try.infoRf
          have HI := hide (And.intro hi (And.intro hz0 (And.intro hz1 hz2)))
          clear ht hs hs4 hkeep4 hbw4 hb4 hi hz0 hz1 hz2 hll hfl hp8
          go_wp2_with ((with_reducible show wpList _ _ _ ({ dst := _, op := .call { callee := .builtin .append, args := #[_, _], argTypes := #[53, 53] }, type := _, pos := _, after := _, guard := _ } :: _) _ _); refine wpList_append_g Try.underlying53 HI.out.1 HI.out.2.1 HI.out.2.2.1 HI.out.2.2.2 rfl (by decide) rfl rfl HK.out.1 HK.out.2.1 (by intro u hu; simp at hu; rcases hu with rfl | rfl <;> rfl) (by have := HK.out.2.2.2.2.2; unfold maxLen; omega) (by have := HK.out.2.2.2.2.2; omega) (by have := HK.out.2.2.2.1; simp; omega) ?_; intro A9 c9 w9 hown9 hg9)
          go_roundw
          case rel =>
            have hb9 : Below w.heap.size w w9 := ((HK.out.2.2.1.alloc HK.out.2.2.2.1 _).alloc (by have := HK.out.2.2.2.1; simp; omega) _).grown hg9 (by have := HK.out.2.2.2.1; simp; omega) (fun q hq => (HK.out.1.lt q hq).1)
            refine ⟨a + 9 + nn, A9, c9, fs ++ [(kd, pd)], by go_num, by have := HD.out.2.2; omega, by rw [List.length_append]; rfl, ?_, hb9, HR.out.2.2.next HK.out.2.2.2.2.1⟩
            rw [List.length_append, rcells_snoc]
            exact hown9
          case measure => simp [intOf]; omega
        · have hs : step l a = none := by
            unfold step
            rw [if_neg (by have := HA.out.1; omega)]
            by_cases h8 : 8192 < nn
            · rw [if_pos (by rw [← HNN.out.1]; omega)]
            · rw [if_neg (by rw [← HNN.out.1]; have := HD.out.2.2; omega), ← HNN.out.1, if_pos (by rw [HD.out.1]; exact hgood)]
          have hsc := HR.out.2.2.stop hs
          have hne : ((cd : Int) != 0) = true := by rw [bne_iff_ne]; omega
          have hne2 : ((cd : Int) == 0) = false := by rw [beq_eq_false_iff_ne]; omega
          have HK := hide (And.intro (hkeep4.alloc (.cells #[.int .i64 (kd : Int), .string ⟨pd.toArray⟩] 45)) (And.intro (hbw4.alloc hs4 (.cells #[.int .i64 (kd : Int), .string ⟨pd.toArray⟩] 45)) hsc))
          clear hs hsc hll hgood hkeep4 hbw4 hs4 hb4
          go_wp2
          go_ret2
          rw [HK.out.2.2]
          exact ⟨A', c', rfl, HK.out.1, HK.out.2.1⟩
end Go.Proofs.Ytpglncaigmnjcaa
