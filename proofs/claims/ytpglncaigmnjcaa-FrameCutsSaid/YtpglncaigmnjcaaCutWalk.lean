/-
  The walk of the law FrameCuts.
-/
import Derived.Test.YtpglncaigmnjcaaCutLaw
namespace Go.Proofs.Ytpglncaigmnjcaa
open Go.RowKit

set_option maxRecDepth 100000 in
set_option maxHeartbeats 800000 in
theorem framecuts_no {w : World} {B n : Nat} {A : Option Addr} {ps : List (List UInt8)} (c : Nat) (cut : Int) (hr : Rp w B A n ps) (hn : n ≤ maxLen) (hc : ¬ (n ≤ 50 ∧ (tot ps : Int) ≤ 3000)) :
    Calls Try.prog 9 #[.slice A n c, .int .i64 cut] w fun e w' => e = .returned (.bool true) ∧ Below w.heap.size w w' := by
  have H := hide (And.intro hr (And.intro hn hc))
  clear hr hn hc
  go_enter Try.func9, Try.ntmps9
  go_wp2_with fail
  refine (joined_no _ _ H.out.1 H.out.2.1 (by omega) (by omega) H.out.2.2).mono ?_
  rintro e w1 ⟨rfl, rfl⟩
  go_wp2_with fail
  refine (awake_any _).mono ?_
  rintro e w1 ⟨rfl, hb1⟩
  go_wp2_with fail
  refine (awake_any _).mono ?_
  rintro e w2 ⟨rfl, hb2⟩
  have H3 := hide (hb1.trans (hb2.mono hb1.size))
  clear hb1 hb2
  go_wp2_with fail
  go_ret
  exact ⟨rfl, H3.out⟩

def ints (l : List Nat) : List Value := l.map fun (x : Nat) => Value.int .i64 (x : Int)
theorem ints_append (a b : List Nat) : ints (a ++ b) = ints a ++ ints b := by simp [ints]
theorem Try.infoInt : (Try.prog.info? 3).map (fun i => (i.zero, i.size, i.bytes)) = some (some (.int .i64 0), 1, 8) := by kernel_rfl
theorem Rd.oneInt (w : World) (x : Int) (T : TypeId) : Rd (w.alloc (.cells #[.int .i64 x] T)) (w.heap.size + 1) 1 (some ⟨w.heap.size, 0, none⟩) 1 [.int .i64 x] := by
  refine ⟨rfl, fun j u hu => ⟨w.heap.size, 0, rfl, by omega, ?_⟩⟩
  rw [World.cell?_alloc_at _ _ _ _ rfl, Nat.zero_add]
  simpa using hu
theorem take_get {α : Type} {l : List α} {k : Nat} {x : α} (h : l[k]? = some x) : l.take (k + 1) = l.take k ++ [x] := by
  rw [List.take_add_one, h]; rfl

theorem foldE_step {k : Nat} {s : Nat × Nat} {es : List Nat} {j x : Nat} (h : es[j]? = some x) : foldE k s (es.take (j + 1)) = if x ≤ k then ((foldE k s (es.take j)).1 + 1, x) else foldE k s (es.take j) := by
  unfold foldE
  rw [take_get h, List.foldl_append]
  rfl
theorem foldE_count (k : Nat) : ∀ (es : List Nat) (s : Nat × Nat), (foldE k s es).1 ≤ s.1 + es.length
  | [], s => Nat.le_refl _
  | x :: es, s => by
    show (foldE k (if x ≤ k then (s.1 + 1, x) else s) es).1 ≤ _
    have h := foldE_count k es (if x ≤ k then (s.1 + 1, x) else s)
    split at h
    · rename_i hx
      rw [if_pos hx]
      simp only [List.length_cons] at h ⊢
      omega
    · rename_i hx
      rw [if_neg hx]
      simp only [List.length_cons]
      omega
theorem ints_get {l : List Nat} {j x : Nat} (h : l[j]? = some x) : (ints l)[j]? = some (.int .i64 (x : Int)) := by
  unfold ints
  rw [List.getElem?_map, h]; rfl

set_option maxRecDepth 100000 in
set_option maxHeartbeats 6400000 in
theorem framecuts_any {w : World} {B n : Nat} {A : Option Addr} {ps : List (List UInt8)} (c : Nat) (cut : Int) (hr : Rp w B A n ps) (hB : B ≤ w.heap.size) (hc : n ≤ 50 ∧ (tot ps : Int) ≤ 3000) :
    Calls Try.prog 9 #[.slice A n c, .int .i64 cut] w fun e w' => e = .returned (.bool true) ∧ Below w.heap.size w w' := by
  have H := hide (And.intro (hr.more hB) hc)
  have i1 : (n : Int) ≤ 50 := by omega
  obtain ⟨u0, hu0⟩ := wrap_nat cut
  clear hr hB hc
  go_enter Try.func9, Try.ntmps9
  go_wp2_with fail
  refine (joined_yes _ _ H.out.1 H.out.2.1 (by omega) H.out.2.2).mono ?_
  rintro e w1 ⟨rfl, rfl⟩
  obtain ⟨S, hS⟩ : ∃ S, S = ps.flatten := ⟨_, rfl⟩
  rw [← hS]
  have HSL := hide hS
  clear hS
  go_wp2_with fail
  refine (awake_any _).mono ?_
  rintro e w1 ⟨rfl, hb1⟩
  have H1 := hide (And.intro (H.out.1.below hb1) (And.intro hb1 hb1.size))
  clear hb1
  go_wp2_with fail
  go_loopw [7, 8, 35] (fun va ve i wr => ∃ (k : Nat) (A1 A2 : Option Addr) (c1 c2 : Nat), k ≤ n ∧ i = .int .i64 k ∧ va = .slice A1 (encs 0 (ps.take k)).length c1 ∧ ve = .slice A2 k c2 ∧
      wr.ownsRow w1.heap.size 5 1 (.slice A1 (encs 0 (ps.take k)).length c1) (encs 0 (ps.take k)).length (u8s (encs 0 (ps.take k))) ∧
      wr.ownsRow w1.heap.size 3 1 (.slice A2 k c2) k (ints (endsOf 0 (ps.take k))) ∧ Below w1.heap.size w1 wr) (fun _ _ i _ => n - (intOf i).toNat)
  case atStart => exact ⟨0, none, none, 0, 0, Nat.zero_le _, rfl, rfl, rfl, World.ownsRow_nil _ _ _ _, World.ownsRow_nil _ _ _ _, Below.refl _ _⟩
  case round =>
    obtain ⟨k, A1, A2, c1, c2, hkn, rfl, rfl, rfl, hoa, hoe, hbel⟩ := hrel
    by_cases hlt : k < n
    · obtain ⟨p, hp⟩ : ∃ p, ps[k]? = some p := ⟨_, List.getElem?_eq_getElem (by rw [H.out.1.len]; exact hlt)⟩
      have hbw : Below w.heap.size w wr := H1.out.2.1.trans (hbel.mono H1.out.2.2)
      have hrp := H.out.1.below hbw
      obtain ⟨b, o, A', n', c', rfl, hbB, hcell, hrb, hn'⟩ := hrp.at_ k p hp
      have hpl : n' ≤ 3000 := by have h1 := part_le hp; have h2 := H.out.2.2; rw [hrb.len] at h1; omega
      have htk := take_get hp
      have htl := tot_le ps k
      obtain ⟨na, hna⟩ : ∃ na, na = (encs 0 (ps.take k)).length := ⟨_, rfl⟩
      have hnal : na ≤ 5000 := by rw [hna, encs_len]; have := H.out.2.2; have := List.length_take_le k ps; omega
      rw [← hna] at hoa ⊢
      have hk9 : (k : Int) % 9 + 1 = ((k % 9 + 1 : Nat) : Int) := by omega
      have i2 : (n' : Int) ≤ 3000 := by omega
      have i3 : (na : Int) ≤ 5000 := by omega
      have HR := hide (And.intro hoa (And.intro hoe (And.intro hbel (And.intro hrb (And.intro hbw (And.intro htk hk9))))))
      have HN := hide (And.intro hna (And.intro hpl (And.intro hnal hp)))
      clear hoa hoe hbel hrb hbw htk hk9 hna hpl hnal hp hrp hn' htl
      go_wp2_with fail
      refine (encode_one c' _ (k % 9 + 1) HR.out.2.2.2.2.2.2 (by omega) (by omega) HR.out.2.2.2.1 HR.out.2.2.2.2.1.size (by have := HN.out.2.1; omega)).mono ?_
      rintro e w2 ⟨X, cX, rfl, hx2, hb2⟩
      have hk : ∀ {e : TypeId} {k n : Nat} {v : Value} {xs : List Value}, wr.ownsRow w1.heap.size e k v n xs → w2.ownsRow w1.heap.size e k v n xs := fun h => owns_below h hb2 (fun g hg => (h.lt g hg).2)
      have H2 := hide (And.intro (hk HR.out.1) (And.intro (hk HR.out.2.1) (And.intro (Rb.of_own hx2) (HR.out.2.2.1.trans (hb2.mono HR.out.2.2.1.size)))))
      have hs2 := Nat.le_trans HR.out.2.2.1.size hb2.size
      clear hk hx2 hb2
      obtain ⟨ti, hi, hz0, hz1, hz2⟩ := info_parts Try.infoInt
      have HI := hide (And.intro hi (And.intro hz0 (And.intro hz1 hz2)))
      clear hi hz0 hz1 hz2
      have hki : (k : Int) < (n : Int) := by omega
      go_wp2_with (first
        | ((with_reducible show wpList _ _ _ ({ dst := _, op := .call { callee := .builtin .append, args := #[_, _], argTypes := #[30, 30] }, type := _, pos := _, after := _, guard := _ } :: _) _ _); refine wpList_append_u8g rfl rfl H2.out.1 H2.out.2.2.1 (by have := HN.out; omega) hs2 ?_; intro A3 c3 w3 hown3 hg3; have hs3 := Nat.le_succ_of_le (Nat.le_trans hs2 hg3.size); have H3 := hide (And.intro (hown3.alloc (.cells #[.int .i64 ((na : Int) + ((n' : Int) + 9))] 3)) (And.intro ((owns_other H2.out.2.1 H2.out.1 (by decide) hg3).alloc (.cells #[.int .i64 ((na : Int) + ((n' : Int) + 9))] 3)) (And.intro (Rd.oneInt w3 ((na : Int) + ((n' : Int) + 9)) 3) (And.intro hg3 hs3)))); clear hown3 hg3 hs3)
        | ((with_reducible show wpList _ _ _ ({ dst := _, op := .call { callee := .builtin .append, args := #[_, _], argTypes := #[56, 56] }, type := _, pos := _, after := _, guard := _ } :: _) _ _); refine wpList_append_g Try.underlying56 HI.out.1 HI.out.2.1 HI.out.2.2.1 HI.out.2.2.2 rfl (by decide) rfl rfl H3.out.2.1 H3.out.2.2.1 (by intro u hu; simp at hu; subst hu; rfl) (by unfold maxLen; omega) (by omega) (by rw [World.size_alloc]; exact H3.out.2.2.2.2) ?_; intro A4 c4 w4 hown4 hg4))
      go_roundw
      case rel =>
        have hkl : (ps.take k).length = k := by rw [List.length_take, H.out.1.len]; omega
        have ea : encs 0 (ps.take (k + 1)) = encs 0 (ps.take k) ++ enc (k % 9 + 1) p := by rw [HR.out.2.2.2.2.2.1, encs_snoc, hkl, Nat.zero_add]
        have ela : (encs 0 (ps.take (k + 1))).length = na + (n' + 9) := by rw [ea, List.length_append, ← HN.out.1, enc_length, HR.out.2.2.2.1.len]
        have ee : ints (endsOf 0 (ps.take (k + 1))) = ints (endsOf 0 (ps.take k)) ++ [.int .i64 ((na : Int) + ((n' : Int) + 9))] := by
          rw [HR.out.2.2.2.2.2.1, endsOf_snoc, ints_append, ← HR.out.2.2.2.2.2.1, hkl]
          have h1 := encs_len (ps.take (k + 1)) 0
          rw [ela, List.length_take, H.out.1.len] at h1
          unfold ints
          simp only [List.map_cons, List.map_nil]
          congr 3
          omega
        refine ⟨k + 1, A3, A4, c3, c4, by omega, by go_num, by rw [ela], rfl, ?_, ?_, ?_⟩
        · rw [ela, ea, u8s_append]
          exact owns_other H3.out.1 H3.out.2.1 (by decide) hg4
        · rw [ee]
          exact hown4
        · exact ((H2.out.2.2.2.grown H3.out.2.2.2.1 hs2 (fun q hq => (H2.out.1.lt q hq).1)).alloc (by have := H3.out.2.2.2.1.size; omega) _).grown hg4 (by rw [World.size_alloc]; exact H3.out.2.2.2.2) (fun q hq => (H3.out.2.1.lt q hq).1)
      case measure => simp [intOf]; omega
    · have hkn2 : k = n := by omega
      subst hkn2
      have hall : ps.take k = ps := List.take_of_length_le (by rw [H.out.1.len]; omega)
      rw [hall] at hoa hoe ⊢
      obtain ⟨E, hE⟩ : ∃ E, E = encs 0 ps := ⟨_, rfl⟩
      rw [← hE] at hoa ⊢
      obtain ⟨na, hna⟩ : ∃ na, na = E.length := ⟨_, rfl⟩
      rw [← hna] at hoa ⊢
      have hnae : na = tot ps + 9 * k := by rw [hna, hE, encs_len, H.out.1.len]
      have hna5 : na ≤ 5000 := by have := H.out.2; omega
      have i3 : (na : Int) ≤ 5000 := by omega
      obtain ⟨q, hq⟩ : ∃ q, q = u0 % (na + 1) := ⟨_, rfl⟩
      have hqn : q ≤ na := by rw [hq]; have := Nat.mod_lt u0 (show 0 < na + 1 by omega); omega
      have hq1 : (u0 : Int) % ((na : Int) + 1) = (q : Int) := by rw [hq]; simp
      have hq2 : (u0 : Int).tmod ((na : Int) + 1) = (q : Int) := by rw [Int.tmod_eq_emod_of_nonneg (by omega)]; exact hq1
      have hcap := owns_cap hoa
      have i4 : (q : Int) ≤ (na : Int) := by omega
      have i5 : (q : Int) ≤ (c1 : Int) := by omega
      have hsz : S.length ≤ na := by rw [HSL.out]; show tot ps ≤ na; omega
      have i6 : (S.length : Int) ≤ (na : Int) := by omega
      have hpp : ∀ p ∈ ps, p.length ≤ 8192 := fun p hp => by
        obtain ⟨j, hj⟩ := List.mem_iff_getElem?.1 hp
        have h1 := part_le hj
        have h2 := H.out.2
        omega
      have hsc : scan (E.take q) 0 = ((whole 0 ps q).1, (whole 0 ps q).2) := by
        have h := cut_scan ps 0 [] q (by rw [← hE, ← hna]; exact hqn) hpp
        rw [List.nil_append, List.length_nil, Nat.zero_add, Nat.zero_add, ← hE] at h
        exact h
      have hwl := whole_len ps 0 q
      rw [H.out.1.len] at hwl
      have hfold := foldE_whole q ps 0 0 0 (Nat.zero_le _)
      rw [Nat.zero_add, Nat.zero_add, Nat.sub_zero] at hfold
      have hget : ∀ j f, (whole 0 ps q).1[j]? = some f → ∃ p, ps[j]? = some p ∧ f = (j % 9 + 1, p) := fun j f h => by
        obtain ⟨p, h1, h2⟩ := whole_get ps 0 q j h
        exact ⟨p, h1, by rw [h2, Nat.zero_add]⟩
      have hel : ∀ j x, (endsOf 0 ps)[j]? = some x → x ≤ 5000 := fun j x h => by
        have h1 := endsOf_le ps 0 x (List.mem_of_getElem? h)
        rw [H.out.1.len] at h1
        have h2 := H.out.2
        omega
      have hll := endsOf_length ps 0
      rw [H.out.1.len] at hll
      obtain ⟨fs, hfs⟩ : ∃ fs, fs = (whole 0 ps q).1 := ⟨_, rfl⟩
      obtain ⟨la, hla⟩ : ∃ la, la = (whole 0 ps q).2 := ⟨_, rfl⟩
      rw [← hfs, ← hla] at hsc
      rw [← hfs, ← hla] at hfold
      rw [← hfs] at hwl hget
      obtain ⟨EN, hEN⟩ : ∃ EN, EN = endsOf 0 ps := ⟨_, rfl⟩
      rw [← hEN] at hoe hfold hel hll
      have HP := hide (And.intro hoa (And.intro hoe (And.intro hbel (And.intro hcap (And.intro hqn hsc)))))
      have HQ := hide (And.intro hfold (And.intro hget (And.intro hel (And.intro hll (And.intro hwl hna5)))))
      have i7 : (fs.length : Int) ≤ 50 := by omega
      clear hoa hoe hbel hcap hqn hsc hfold hget hel hll hwl hna5 hna hnae hE hq hsz hpp hfs hla hEN hall hkn hlt
      go_wp2_with fail
      refine (scan_list c1 ((Rb.of_own HP.out.1).take HP.out.2.2.2.2.1) (Nat.le_refl _) (by have := HP.out.2.2.2; omega) (by have := HP.out.2.2.2; have := HQ.out.2.2.2.2.2; omega) HP.out.2.2.2.2.2).mono ?_
      rintro e w5 ⟨A5, c5, us, rfl, hown5, hf5, hb5⟩
      have H5 := hide (And.intro hown5 (And.intro hf5 (And.intro (owns_below HP.out.2.1 hb5 (fun g hg => (HP.out.2.1.lt g hg).2)) (HP.out.2.2.1.trans (hb5.mono HP.out.2.2.1.size)))))
      clear hown5 hf5 hb5 hq1 hq2 hu0
      go_wp2_with fail
      go_loop [16, 17, 77] (fun vw vl i => ∃ j : Nat, j ≤ k ∧ i = .int .i64 j ∧ vw = .int .i64 ((foldE q (0, 0) (EN.take j)).1 : Int) ∧ vl = .int .i64 ((foldE q (0, 0) (EN.take j)).2 : Int)) (fun _ _ i => k - (intOf i).toNat)
      case atStart => exact ⟨0, Nat.zero_le _, rfl, rfl, rfl⟩
      case round =>
        obtain ⟨j, hj, rfl, rfl, rfl⟩ := hrel
        by_cases hjk : j < k
        · obtain ⟨x, hx⟩ : ∃ x, EN[j]? = some x := ⟨_, List.getElem?_eq_getElem (by rw [HQ.out.2.2.2.1]; exact hjk)⟩
          obtain ⟨g2, cap2, hg2, _, _⟩ := H5.out.2.2.1.form (by omega)
          cases hg2
          have hcx : w5.cell? ⟨g2, j, none⟩ = some (.int .i64 (x : Int)) := by
            rw [H5.out.2.2.1.cellAt _ (by omega)]; exact ints_get hx
          have hx5 := HQ.out.2.2.1 j x hx
          have hfs := foldE_step (k := q) (s := (0, 0)) hx
          have hcnt := foldE_count q (EN.take j) (0, 0)
          rw [List.length_take] at hcnt
          obtain ⟨sw, hsw⟩ : ∃ sw, sw = foldE q (0, 0) (EN.take j) := ⟨_, rfl⟩
          rw [← hsw] at hfs hcnt ⊢
          have hsi : (sw.1 : Int) ≤ 50 := by simp only [Nat.zero_add] at hcnt; omega
          have hji : (j : Int) < (k : Int) := by omega
          have HF := hide hfs
          clear hfs hsw hx hcnt hx5
          by_cases hxq : x ≤ q
          · have hxi : (x : Int) ≤ (q : Int) := by omega
            have HX := hide hxq
            clear hxq hjk
            go_wp2_with fail
            go_round
            case rel => exact ⟨j + 1, by omega, by go_num, by rw [HF.out, if_pos HX.out]; go_num, by rw [HF.out, if_pos HX.out]⟩
            case measure => simp [intOf]; omega
          · have hxi : ¬ (x : Int) ≤ (q : Int) := by omega
            have HX := hide hxq
            clear hxq hjk
            go_wp2_with fail
            go_round
            case rel => exact ⟨j + 1, by omega, by go_num, by rw [HF.out, if_neg HX.out], by rw [HF.out, if_neg HX.out]⟩
            case measure => simp [intOf]; omega
        · have hjk2 : EN.take j = EN := List.take_of_length_le (by rw [HQ.out.2.2.2.1]; omega)
          rw [hjk2, HQ.out.1]
          have hji : ¬ (j : Int) < (k : Int) := by omega
          clear hjk hjk2 hj
          go_wp2_with fail
          have hbw5 : Below w.heap.size w w5 := H1.out.2.1.trans (H5.out.2.2.2.mono H1.out.2.2)
          have HB5 := hide hbw5
          clear hbw5
          go_loopw [20, 106] (fun _ i wx => ∃ j r : Nat, j ≤ fs.length ∧ i = .int .i64 j ∧ wx = w5.drewN r) (fun _ i _ => fs.length - (intOf i).toNat)
          case atStart => exact ⟨0, 0, Nat.zero_le _, rfl, rfl⟩
          case round =>
            obtain ⟨j2, r, hj2, rfl, rfl⟩ := hrel
            by_cases hlt2 : j2 < fs.length
            · obtain ⟨f, hf⟩ : ∃ f, fs[j2]? = some f := ⟨_, List.getElem?_eq_getElem hlt2⟩
              obtain ⟨p, hp, rfl⟩ := HQ.out.2.1 j2 f hf
              obtain ⟨u0, u1, hu0, hu1, rfl, P, cP, rfl, hop⟩ := H5.out.2.1.get hf
              rw [Nat.mul_comm] at hu0 hu1
              obtain ⟨g1, cap1, hg1, _, _⟩ := H5.out.1.form (by omega)
              cases hg1
              obtain ⟨b, o, A', n', c', rfl, hbB, hcell, hrb, hn'⟩ := (H.out.1.below HB5.out).at_ j2 p hp
              have hc0 : w5.cell? ⟨g1, j2 * 2, none⟩ = some (.int .i64 ((j2 : Int) % 9 + 1)) := by
                rw [H5.out.1.cellAt _ (by omega), hu0]
                congr 2
              have hc1 : w5.cell? ⟨g1, j2 * 2 + 1, none⟩ = some (.slice P p.length cP) := by rw [H5.out.1.cellAt _ (by omega)]; exact hu1
              have hki : (j2 : Int) < (fs.length : Int) := by omega
              have hkk : (j2 : Int) < (k : Int) := by
                have h1 := HQ.out.2.2.2.2.1
                omega
              have hcv : ∀ q', (convert 30 9 (.slice P p.length cP)).run Try.prog (w5.drewN q') = .ok (.string ⟨p.toArray⟩) (w5.drewN q') := fun q' =>
                run_bytes_string Try.underlying30 Try.underlying5 Try.underlying9 cP ((Rb.of_own hop).drewN q')
              have hcv2 : ∀ q', (convert 30 9 (.slice A' n' c')).run Try.prog (w5.drewN q') = .ok (.string ⟨p.toArray⟩) (w5.drewN q') := fun q' =>
                run_bytes_string Try.underlying30 Try.underlying5 Try.underlying9 c' (hrb.drewN q')
              have s1 : (j2 : Int).tmod 9 = (j2 : Int) % 9 := Int.tmod_eq_emod_of_nonneg (by omega)
              have s2 : IntKind.i64.wrap ((j2 : Int) % 9 + 1) = (j2 : Int) % 9 + 1 := IntWalk.i64_in _ (by omega)
              have s3 : IntKind.i64.wrap ((j2 : Int) % 9) = (j2 : Int) % 9 := IntWalk.i64_in _ (by omega)
              clear hu0 hu1 hop hf hp hrb
              go_wp2_with fail
              go_quiet (fail)
              go_wp2_with fail
              go_roundw
              case rel => exact ⟨j2 + 1, _, by omega, by go_num, rfl⟩
              case measure => simp [intOf]; omega
            · go_wp2_with fail
              go_ret
              exact ⟨rfl, bl_drewN HB5.out r⟩
end Go.Proofs.Ytpglncaigmnjcaa
