/-
  The walk of frame.Encode.
-/
import Derived.Test.YtpglncaigmnjcaaJoin
namespace Go.Proofs.Ytpglncaigmnjcaa
open Go.RowKit

/-- A frame's bytes. -/
def inner (kind : Nat) (l : List UInt8) : List UInt8 := UInt8.ofNat kind :: l
def enc (kind : Nat) (l : List UInt8) : List UInt8 := four (BitVec.ofNat 32 l.length) ++ inner kind l ++ four (crc.sum (inner kind l))
theorem enc_length (kind : Nat) (l : List UInt8) : (enc kind l).length = l.length + 9 := by
  simp only [enc, inner, List.length_append, four_length, List.length_cons]; omega

theorem Rp.one {w : World} {B n c : Nat} {A : Option Addr} {l : List UInt8} (T : TypeId) (hr : Rb w B A n l) (hB : B ≤ w.heap.size) (hn : n ≤ maxLen) :
    Rp (w.alloc (.cells #[.slice A n c] T)) (w.heap.size + 1) (some ⟨w.heap.size, 0, none⟩) 1 [l] := by
  refine ⟨rfl, fun j m hm => ?_⟩
  match j, hm with
  | 0, hm =>
    simp at hm
    subst hm
    exact ⟨w.heap.size, 0, A, n, c, rfl, by omega, by rw [World.cell?_alloc_at _ _ _ _ rfl]; rfl, (hr.alloc hB _).more (by omega), hn⟩
  | j + 1, hm => simp at hm
theorem Rp.three {w : World} {B n1 c1 n2 c2 n3 c3 : Nat} {A1 A2 A3 : Option Addr} {l1 l2 l3 : List UInt8} (T : TypeId) (hr1 : Rb w B A1 n1 l1) (hr2 : Rb w B A2 n2 l2) (hr3 : Rb w B A3 n3 l3) (hB : B ≤ w.heap.size) (hn1 : n1 ≤ maxLen) (hn2 : n2 ≤ maxLen) (hn3 : n3 ≤ maxLen) :
    Rp (w.alloc (.cells #[.slice A1 n1 c1, .slice A2 n2 c2, .slice A3 n3 c3] T)) (w.heap.size + 1) (some ⟨w.heap.size, 0, none⟩) 3 [l1, l2, l3] := by
  refine ⟨rfl, fun j m hm => ?_⟩
  match j, hm with
  | 0, hm =>
    simp at hm
    subst hm
    exact ⟨w.heap.size, 0, A1, n1, c1, rfl, by omega, by rw [World.cell?_alloc_at _ _ _ _ rfl]; rfl, (hr1.alloc hB _).more (by omega), hn1⟩
  | 1, hm =>
    simp at hm
    subst hm
    exact ⟨w.heap.size, 0, A2, n2, c2, rfl, by omega, by rw [World.cell?_alloc_at _ _ _ _ rfl]; rfl, (hr2.alloc hB _).more (by omega), hn2⟩
  | 2, hm =>
    simp at hm
    subst hm
    exact ⟨w.heap.size, 0, A3, n3, c3, rfl, by omega, by rw [World.cell?_alloc_at _ _ _ _ rfl]; rfl, (hr3.alloc hB _).more (by omega), hn3⟩
  | j + 3, hm => simp at hm

theorem owns_below {w w' : World} {base B k n : Nat} {e : TypeId} {v : Value} {xs : List Value} (h : w.ownsRow base e k v n xs) (hb : Below B w w') (hlt : ∀ g, v.ownBlock = some g → g < B) : w'.ownsRow base e k v n xs := by
  refine ⟨h.1, ?_⟩
  rcases h.2 with hn | ⟨g, cap, cur, rfl, hbg, hgg, rest⟩
  · exact .inl hn
  · exact .inr ⟨g, cap, cur, rfl, hbg, by rw [hb.block g (hlt g rfl)]; exact hgg, rest⟩
theorem four_ownx (x : BitVec 32) (w : World) :
    Calls Try.prog 22 #[.int .u32 (x.toNat : Int)] w fun e w' => e = .returned (.slice (some ⟨w.heap.size, 0, none⟩) 4 4) ∧ Rb w' w'.heap.size (some ⟨w.heap.size, 0, none⟩) 4 (four x) ∧ Below w.heap.size w w' := by
  refine (four_any _ w).mono ?_
  rintro e w' ⟨rfl, rfl⟩
  refine ⟨rfl, ?_, (Below.refl _ _).alloc (Nat.le_refl _) _⟩
  exact Rb.of_own (World.ownsRow_lit (base := w.heap.size) w _ 4 (Nat.le_refl _) (by unfold maxLen; omega) (by simp [u8s_length, four_length]))
theorem four_own (m : Nat) (hm : m < 4294967296) (w : World) :
    Calls Try.prog 22 #[.int .u32 (m : Int)] w fun e w' => e = .returned (.slice (some ⟨w.heap.size, 0, none⟩) 4 4) ∧ Rb w' w'.heap.size (some ⟨w.heap.size, 0, none⟩) 4 (four (BitVec.ofNat 32 m)) ∧ Below w.heap.size w w' := by
  have e : (m : Int) = ((BitVec.ofNat 32 m).toNat : Int) := by rw [BitVec.toNat_ofNat]; omega
  rw [e]
  exact four_ownx _ w

set_option maxHeartbeats 400000 in
theorem encode_range {w : World} {n : Nat} {A : Option Addr} (c : Nat) (kind : Int) (hk : kind < 1 ∨ 9 < kind) :
    Calls Try.prog 14 #[.int .i64 kind, .slice A n c] w fun e w' => e = .returned (.tuple #[.slice none 0 0, .int .i64 1]) ∧ w = w' := by
  rcases hk with hk | hk
  · go_enter Try.func14, Try.ntmps14
    go_wp2
    go_ret2
    exact ⟨rfl, rfl⟩
  · have h2 : ¬ kind < 1 := by omega
    go_enter Try.func14, Try.ntmps14
    go_wp2
    go_ret2
    exact ⟨rfl, rfl⟩

set_option maxHeartbeats 800000 in
theorem encode_long {w : World} {B n : Nat} {A : Option Addr} {ps : List (List UInt8)} (c : Nat) (kind : Int) (hk1 : 1 ≤ kind) (hk9 : kind ≤ 9) (hr : Rp w B A n ps) (hn : n ≤ maxLen) (ht : 8192 < tot ps) :
    Calls Try.prog 14 #[.int .i64 kind, .slice A n c] w fun e w' => e = .returned (.tuple #[.slice none 0 0, .int .i64 5]) ∧ w = w' := by
  unfold maxLen at hn
  have HT := hide ht
  clear ht
  have hk1' : ¬ kind < 1 := by omega
  have hk9' : ¬ 9 < kind := by omega
  go_enter Try.func14, Try.ntmps14
  go_wp2
  go_loop [6, 18] (fun s i => ∃ k : Nat, k ≤ n ∧ i = .int .i64 k ∧ s = .int .i64 (tot (ps.take k) : Int) ∧ tot (ps.take k) ≤ 8192) (fun _ i => n - (intOf i).toNat)
  case atStart => exact ⟨0, Nat.zero_le _, rfl, rfl, by simp [tot]⟩
  case round =>
    obtain ⟨k, hk, rfl, rfl, htk⟩ := hrel
    by_cases hlt : k < n
    · obtain ⟨l, hl⟩ : ∃ l, ps[k]? = some l := ⟨_, List.getElem?_eq_getElem (by rw [hr.len]; exact hlt)⟩
      obtain ⟨b, o, A', n', c', rfl, hbB, hcell, hrb, hn'⟩ := hr.at_ k l hl
      have hs1 := tot_snoc hl
      rw [hrb.len] at hs1
      obtain ⟨t, ht⟩ : ∃ t, t = tot (ps.take k) := ⟨_, rfl⟩
      rw [← ht] at hs1 htk ⊢
      have HL := hide (And.intro ht hs1)
      have ht8 : (t : Int) ≤ 8192 := by omega
      have hn8 : (n' : Int) ≤ 9223372036854775807 := by unfold maxLen at hn'; omega
      clear ht htk hs1 hl hrb hn' hr
      by_cases hs3 : (n' : Int) ≤ 8192 - (t : Int)
      · go_wp2
        go_round
        case rel => exact ⟨k + 1, by omega, by go_num, by rw [HL.out.2]; go_num, by rw [HL.out.2]; omega⟩
        case measure => simp [intOf]; omega
      · have hs4 : 8192 - (t : Int) < (n' : Int) := by omega
        clear hs3
        go_wp2
        go_ret2
        exact ⟨rfl, rfl⟩
    · have hall : ps.take k = ps := List.take_of_length_le (by rw [hr.len]; omega)
      rw [hall] at htk
      have := HT.out
      omega

set_option maxRecDepth 100000 in
set_option maxHeartbeats 800000 in
theorem encode_ok {w : World} {B n : Nat} {A : Option Addr} {ps : List (List UInt8)} (c : Nat) (kind : Nat) (hk1 : 1 ≤ kind) (hk9 : kind ≤ 9) (hr : Rp w B A n ps) (hB : B ≤ w.heap.size) (hn : n ≤ maxLen) (ht : tot ps ≤ 8192) :
    Calls Try.prog 14 #[.int .i64 (kind : Int), .slice A n c] w fun e w' => ∃ A' c', e = .returned (.tuple #[.slice A' (tot ps + 9) c', .int .i64 0]) ∧ w'.ownsRow w.heap.size 5 1 (.slice A' (tot ps + 9) c') (tot ps + 9) (u8s (enc kind ps.flatten)) ∧ Below w.heap.size w w' := by
  unfold maxLen at hn
  have HT := hide ht
  clear ht
  have hk1' : ¬ (kind : Int) < 1 := by omega
  have hk9' : ¬ 9 < (kind : Int) := by omega
  have hk10 : (kind : Int) ≤ 9 := by omega
  clear hk1 hk9
  go_enter Try.func14, Try.ntmps14
  go_wp2
  go_loop [6, 18] (fun s i => ∃ k : Nat, k ≤ n ∧ i = .int .i64 k ∧ s = .int .i64 (tot (ps.take k) : Int)) (fun _ i => n - (intOf i).toNat)
  case atStart => exact ⟨0, Nat.zero_le _, rfl, rfl⟩
  case round =>
    obtain ⟨k, hk, rfl, rfl⟩ := hrel
    have htk : tot (ps.take k) ≤ 8192 := Nat.le_trans (tot_le ps k) HT.out
    by_cases hlt : k < n
    · obtain ⟨l, hl⟩ : ∃ l, ps[k]? = some l := ⟨_, List.getElem?_eq_getElem (by rw [hr.len]; exact hlt)⟩
      obtain ⟨b, o, A', n', c', rfl, hbB, hcell, hrb, hn'⟩ := hr.at_ k l hl
      have hs1 := tot_snoc hl
      rw [hrb.len] at hs1
      have hs2 : tot (ps.take (k + 1)) ≤ 8192 := Nat.le_trans (tot_le ps _) HT.out
      obtain ⟨t, ht⟩ : ∃ t, t = tot (ps.take k) := ⟨_, rfl⟩
      rw [← ht] at hs1 htk ⊢
      have HL := hide (And.intro ht hs1)
      have ht8 : (t : Int) ≤ 8192 := by omega
      have hs3 : (n' : Int) ≤ 8192 - (t : Int) := by omega
      have HR := hide hr
      clear ht htk hs1 hl hrb hn' hr hs2 hB
      go_wp2
      go_round
      case rel => exact ⟨k + 1, by omega, by go_num, by rw [HL.out.2]; go_num⟩
      case measure => simp [intOf]; omega
    · have hrl : tot (ps.take k) = tot ps := by rw [List.take_of_length_le (by rw [hr.len]; omega)]
      rw [hrl] at htk ⊢
      have HR := hide (And.intro hr hB)
      have ht8 : (tot ps : Int) ≤ 8192 := by omega
      clear hrl hr hB
      go_wp2_with fail
      refine (concat_any _ (HR.out.1.alloc HR.out.2 _) (by have := HR.out.2; simp; omega) (by unfold maxLen; omega) (by omega)).mono ?_
      rintro e w1 ⟨A1, c1, rfl, hown1, hb1⟩
      rw [World.size_alloc] at hown1 hb1
      have hown0 : w1.ownsRow w.heap.size 5 1 (.slice (some ⟨w.heap.size, 0, none⟩) 1 1) 1 (u8s [UInt8.ofNat kind]) := by
        refine owns_below ?_ hb1 (fun g hg => by cases hg; exact Nat.lt_succ_self _)
        have h := World.ownsRow_lit (e := 5) (size := 1) (base := w.heap.size) w #[.int .u8 (kind : Int)] 1 (Nat.le_refl _) (by unfold maxLen; omega) rfl
        have e1 : u8s [UInt8.ofNat kind] = [.int .u8 (kind : Int)] := by simp [u8s]; omega
        rw [e1]
        exact h
      have hbw1 : Below w.heap.size w w1 := ((Below.refl _ _).alloc (Nat.le_refl _) _).trans (hb1.mono (by omega))
      have H1 := hide (And.intro hown0 (And.intro (Rb.of_own hown1) hbw1))
      clear hown1 hb1 hown0 hbw1
      go_wp2_with ((with_reducible show wpList _ _ _ ({ dst := _, op := .call { callee := .builtin .append, args := #[_, _], argTypes := #[30, 30] }, type := _, pos := _, after := _, guard := _ } :: _) _ _); refine wpList_append_u8 rfl rfl H1.out.1 H1.out.2.1 (by omega) H1.out.2.2.size ?_; intro A2 c2 w2 hown2 hb2)
      have hI : u8s [UInt8.ofNat kind] ++ u8s ps.flatten = u8s (inner kind ps.flatten) := by rw [← u8s_append]; rfl
      rw [hI] at hown2
      have hi2 := Rb.of_own hown2
      have hbw2 := H1.out.2.2.trans hb2
      clear hI hown2 hb2 H1
      have h2 := hbw2.size
      have H2 := hide (And.intro hi2 hbw2)
      clear hi2 hbw2
      refine (four_own _ (by omega) _).mono ?_
      rintro e w3 ⟨rfl, hf3, hb3⟩
      have h3 := hb3.size
      have hi3 := (H2.out.1.below hb3).more h3
      have hbw3 := H2.out.2.trans (hb3.mono h2)
      have H3 := hide (And.intro hf3 (And.intro hi3 hbw3))
      clear hf3 hb3 hi3 hbw3 H2
      go_wp2_with fail
      refine (sum_any _ (Rp.one _ H3.out.2.1 (Nat.le_refl _) (by unfold maxLen; omega)) (by simp) (by unfold maxLen; omega)).mono ?_
      rintro e w4 ⟨rfl, hb4⟩
      rw [World.size_alloc] at hb4
      have h4 := hb4.size
      rw [World.size_alloc] at h4
      have hb34 : Below w3.heap.size w3 w4 := ((Below.refl _ _).alloc (Nat.le_refl _) _).trans (hb4.mono (by omega))
      have hi4 := (H3.out.2.1.below hb34).more (Nat.le_trans (Nat.le_succ _) h4)
      have hf4 := (H3.out.1.below hb34).more (Nat.le_trans (Nat.le_succ _) h4)
      have hbw4 := H3.out.2.2.trans (hb34.mono (Nat.le_trans h2 h3))
      have H4 := hide (And.intro hf4 (And.intro hi4 hbw4))
      clear hb4 hb34 hi4 hf4 hbw4 H3
      rw [show ([inner kind ps.flatten] : List (List UInt8)).flatten = inner kind ps.flatten from by simp]
      go_wp2_with fail
      refine (four_ownx _ _).mono ?_
      rintro e w5 ⟨rfl, hf5, hb5⟩
      have h5 := hb5.size
      have hi5 := (H4.out.2.1.below hb5).more h5
      have hg5 := (H4.out.1.below hb5).more h5
      have hbw5 := H4.out.2.2.trans (hb5.mono (by omega))
      have H5 := hide (And.intro hf5 (And.intro hg5 (And.intro hi5 hbw5)))
      clear hf5 hb5 hi5 hg5 hbw5 H4
      have et : tot [four (BitVec.ofNat 32 (tot ps)), inner kind ps.flatten, four (crc.sum (inner kind ps.flatten))] = tot ps + 9 := by
        unfold tot inner
        simp only [List.flatten_cons, List.flatten_nil, List.length_append, List.length_cons, List.length_nil, four_length]
        omega
      have HE := hide et
      clear et
      go_wp2_with fail
      refine (concat_any _ (Rp.three _ H5.out.2.1 H5.out.2.2.1 H5.out.1 (Nat.le_refl _) (by unfold maxLen; omega) (by unfold maxLen; omega) (by unfold maxLen; omega)) (by simp) (by unfold maxLen; omega) (by rw [HE.out]; omega)).mono ?_
      rintro e w6 ⟨A6, c6, rfl, hown6, hb6⟩
      rw [World.size_alloc] at hown6 hb6
      rw [HE.out] at hown6 ⊢
      have hbw6 : Below w.heap.size w w6 := (H5.out.2.2.2.alloc (by omega) _).trans (hb6.mono (by omega))
      have ee : u8s ([four (BitVec.ofNat 32 (tot ps)), inner kind ps.flatten, four (crc.sum (inner kind ps.flatten))] : List (List UInt8)).flatten = u8s (enc kind ps.flatten) := by
        simp [enc, tot]
      rw [ee] at hown6
      have hown7 : w6.ownsRow w.heap.size 5 1 (.slice A6 (tot ps + 9) c6) (tot ps + 9) (u8s (enc kind ps.flatten)) := by
        refine ⟨hown6.1, ?_⟩
        rcases hown6.2 with h | ⟨g, cap, cur, hv, hg, r⟩
        · exact .inl h
        · exact .inr ⟨g, cap, cur, hv, by omega, r⟩
      have H6 := hide (And.intro hown7 hbw6)
      clear hown6 hb6 hown7 hbw6 ee H5
      go_wp2_with fail
      go_ret2
      exact ⟨A6, c6, rfl, H6.out.1, H6.out.2⟩
end Go.Proofs.Ytpglncaigmnjcaa
