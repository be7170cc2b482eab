/-
  The walk of the law FrameReads.
-/
import Derived.Test.YtpglncaigmnjcaaDecs
namespace Go.Proofs.Ytpglncaigmnjcaa
open Go.RowKit

theorem owns_cap {w : World} {base k n c : Nat} {e : TypeId} {A : Option Addr} {xs : List Value} (h : w.ownsRow base e k (.slice A n c) n xs) : n ≤ c ∧ c ≤ maxLen := by
  rcases h.2 with ⟨hv, h0⟩ | ⟨g, cap, cur, hv, _, _, hnc, hcm, _⟩
  · cases hv; exact ⟨Nat.le_refl _, by unfold maxLen; omega⟩
  · cases hv; exact ⟨hnc, hcm⟩

theorem refdecode_list {w : World} (l : List UInt8) (hn : l.length ≤ 1000000) {cd kd : Nat} {pd : List UInt8} (hd : dec l = (cd, kd, pd)) :
    Calls Try.prog 17 #[.string ⟨l.toArray⟩] w fun e w' => e = .returned (.tuple #[.agg #[.int .i64 (kd : Int), .string ⟨pd.toArray⟩], .int .i64 (cd : Int)]) ∧ Below w.heap.size w w' := by
  have h := refdecode_any (w := w) ⟨l.toArray⟩ (by rw [ba_len]; exact hn)
  rw [show (⟨l.toArray⟩ : ByteArray).data.toList = l from by simp, hd] at h
  exact h
theorem decode_list {w : World} {B n : Nat} {A : Option Addr} {l : List UInt8} (c : Nat) {cd kd : Nat} {pd : List UInt8} (hd : dec l = (cd, kd, pd)) (hr : Rb w B A n l) (hB : B ≤ w.heap.size) (hnc : n ≤ c) (hn : n ≤ maxLen) :
    Calls Try.prog 16 #[.slice A n c] w fun e w' => ∃ A' c', e = .returned (.tuple #[.agg #[.int .i64 (kd : Int), .slice A' pd.length c'], .int .i64 (cd : Int)]) ∧
      w'.ownsRow w.heap.size 5 1 (.slice A' pd.length c') pd.length (u8s pd) ∧ Below w.heap.size w w' := by
  have h := decode_any c hr hB hnc hn
  rw [hd] at h
  exact h

set_option maxRecDepth 100000 in
set_option maxHeartbeats 800000 in
theorem framereads_any {w : World} {B n : Nat} {A : Option Addr} {l : List UInt8} (c : Nat) (hr : Rb w B A n l) (hB : B ≤ w.heap.size) (hn : n ≤ 9000) :
    Calls Try.prog 6 #[.slice A n c] w fun e w' => e = .returned (.bool true) ∧ Below w.heap.size w w' := by
  have i1 : (n : Int) ≤ 9000 := by omega
  have H := hide (And.intro (hr.more hB) hn)
  clear hr hB hn
  go_enter Try.func6, Try.ntmps6
  go_wp2_with fail
  refine (awake_any _).mono ?_
  rintro e w1 ⟨rfl, hb1⟩
  have hs1 := hb1.size
  have H1 := hide (And.intro (H.out.1.below hb1) (And.intro hb1 (World.ownsRow_made (e := 5) (size := 1) (base := w.heap.size) w1 #[] 0 hs1 (by unfold maxLen; omega) rfl)))
  have HA1 := hide (H1.out.1.alloc hs1 (.cells #[] 5))
  have HN := hide H.out.2
  clear hb1 H
  go_wp2_with ((with_reducible show wpList _ _ _ ({ dst := _, op := .call { callee := .builtin .append, args := #[_, _], argTypes := #[30, 30] }, type := _, pos := _, after := _, guard := _ } :: _) _ _); refine wpList_append_u8 rfl rfl H1.out.2.2 HA1.out (by have := HN.out; omega) (by simp; omega) ?_; intro I cI w2 hown2 hb2)
  simp only [Nat.zero_add, List.nil_append] at hown2 ⊢
  have hcap := owns_cap hown2
  have hbw2 : Below w.heap.size w w2 := (H1.out.2.1.alloc hs1 _).trans hb2
  have hs2 := hbw2.size
  have hrb2 := HA1.out.below hb2
  have hri2 := Rb.of_own hown2
  have H2 := hide (And.intro hrb2 (And.intro hri2 (And.intro hbw2 hcap)))
  clear hcap hbw2 hrb2 hri2 hown2 hb2 H1 HA1
  obtain ⟨cd, kd, pd, hd⟩ : ∃ cd kd pd, dec l = (cd, kd, pd) := ⟨_, _, _, rfl⟩
  have HD := hide hd
  clear hd
  refine (decode_list cI HD.out H2.out.2.1 (Nat.le_refl _) H2.out.2.2.2.1 (by have := HN.out; unfold maxLen; omega)).mono ?_
  rintro e w3 ⟨P, cP, rfl, hown3, hb3⟩
  have hs3 := hb3.size
  have hbw3 := H2.out.2.2.1.trans (hb3.mono hs2)
  have hr3 := (H2.out.1.below (hb3.mono hs2))
  have hi3 := ((H2.out.2.1.below hb3).more hs3)
  have hs3w := Nat.le_trans hs2 hs3
  have hr3' := hr3.alloc hs3w (.cells #[.int .i64 (kd : Int), .slice P pd.length cP] 40)
  have H3 := hide (And.intro hr3' (And.intro hi3 (And.intro hbw3 (Rb.of_own hown3))))
  clear hr3 hr3' hi3 hbw3 hown3 hb3 H2
  go_wp2_with ((with_reducible show wpList _ _ _ ({ dst := _, op := .convert 30 9 _, type := _, pos := _, after := _, guard := _ } :: _) _ _); refine wpList_bytes_string_g Try.underlying30 Try.underlying5 Try.underlying9 rfl rfl H3.out.1 ?_)
  have hll : l.length ≤ 1000000 := by have := H3.out.1.len; have := HN.out; omega
  refine (refdecode_list l hll HD.out).mono ?_
  rintro e w4 ⟨rfl, hb4⟩
  rw [World.size_alloc] at hb4
  have hs4 := hb4.size
  rw [World.size_alloc] at hs4
  have hb34 : Below w3.heap.size w3 w4 := ((Below.refl _ _).alloc (Nat.le_refl _) _).trans (hb4.mono (Nat.le_succ _))
  have hlt : w3.heap.size < w4.heap.size := hs4
  have hk4 : KeepC 40 #[.int .i64 (kd : Int), .slice P pd.length cP] w3 w4 :=
    (KeepC.start _ _ w3).after (by rw [World.size_alloc]; exact hb4)
  have z0 := hk4.cell 0
  have z1 := hk4.cell 1
  have hi4 := ((H3.out.2.1.below hb34).alloc hb34.size (.cells #[.int .i64 (kd : Int), .string ⟨pd.toArray⟩] 45))
  have hp4 := ((H3.out.2.2.2.below hb34).alloc hb34.size (.cells #[.int .i64 (kd : Int), .string ⟨pd.toArray⟩] 45))
  have hr4 := (((H3.out.1.below (hb4.mono (by omega))))).alloc (Nat.le_trans hs3w hb34.size) (.cells #[.int .i64 (kd : Int), .string ⟨pd.toArray⟩] 45)
  have HB := hide ((H3.out.2.2.1.trans (hb34.mono hs3w)).alloc (Nat.le_trans hs3w hb34.size) (.cells #[.int .i64 (kd : Int), .string ⟨pd.toArray⟩] 45))
  clear hb4 hb34 hk4 H3 hs4
  go_wp2_with ((with_reducible show wpList _ _ _ ({ dst := _, op := .convert 30 9 _, type := _, pos := _, after := _, guard := _ } :: _) _ _); refine wpList_bytes_string_g Try.underlying30 Try.underlying5 Try.underlying9 rfl rfl (by assumption) ?_)
  go_ret
  exact ⟨rfl, HB.out⟩

set_option maxRecDepth 100000 in
set_option maxHeartbeats 800000 in
theorem framereads_long {w : World} {n : Nat} {A : Option Addr} (c : Nat) (hn : 9000 < n) :
    Calls Try.prog 6 #[.slice A n c] w fun e w' => e = .returned (.bool true) ∧ Below w.heap.size w w' := by
  have i1 : (9000 : Int) < (n : Int) := by omega
  clear hn
  go_enter Try.func6, Try.ntmps6
  go_wp2_with fail
  refine (awake_any _).mono ?_
  rintro e w1 ⟨rfl, hb1⟩
  have H := hide hb1
  clear hb1
  go_wp2_with fail
  refine (awake_any _).mono ?_
  rintro e w2 ⟨rfl, hb2⟩
  have H2 := hide (H.out.trans (hb2.mono H.out.size))
  clear hb2 H
  go_wp2_with fail
  go_ret
  exact ⟨rfl, H2.out⟩
end Go.Proofs.Ytpglncaigmnjcaa
