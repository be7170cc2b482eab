/-
  The walk of the law FrameTurned, where a bit of the sum is turned.
-/
import Derived.Test.YtpglncaigmnjcaaTurnWalk
namespace Go.Proofs.Ytpglncaigmnjcaa
open Go.RowKit

theorem turn_bit (x : UInt8) (j : Nat) (hj : j ≤ 7) : ∃ y : UInt8, bits .xor .u8 (x.toNat : Int) ((2 : Int) ^ j % 256) = (y.toNat : Int) ∧ y ≠ x := by
  have hx := x.toNat_lt
  have hp : 2 ^ j < 256 := Nat.lt_of_le_of_lt (Nat.pow_le_pow_right (by decide) hj) (by decide)
  have hp0 : 0 < 2 ^ j := Nat.two_pow_pos j
  have e : ((2 : Int) ^ j % 256) = ((2 ^ j : Nat) : Int) := by
    rw [show (2 : Int) ^ j = ((2 ^ j : Nat) : Int) from by simp]
    omega
  have hlt : x.toNat ^^^ 2 ^ j < 2 ^ 8 := Nat.xor_lt_two_pow (by omega) (by omega)
  refine ⟨UInt8.ofNat (x.toNat ^^^ 2 ^ j), ?_, ?_⟩
  · rw [e, xor8 _ _ (by omega) hp, UInt8.toNat_ofNat', Nat.mod_eq_of_lt (by omega)]
  · intro h
    have h1 := congrArg UInt8.toNat h
    rw [UInt8.toNat_ofNat', Nat.mod_eq_of_lt (by omega)] at h1
    have h2 : x.toNat ^^^ (x.toNat ^^^ 2 ^ j) = x.toNat ^^^ x.toNat := by rw [h1]
    rw [← Nat.xor_assoc, Nat.xor_self, Nat.zero_xor] at h2
    omega

set_option maxRecDepth 100000 in
set_option maxHeartbeats 1600000 in
theorem frameturned_high {w : World} {B m : Nat} {A : Option Addr} {l : List UInt8} (c : Nat) (kind a0 a1 : Int) (hr : Rb w B A m l) (hB : B ≤ w.heap.size) (hm : m ≤ 3000) {u0 : Nat} (hu : IntKind.u64.wrap a0 = (u0 : Int)) (hk : m + 1 ≤ u0 % (m + 5)) :
    Calls Try.prog 7 #[.int .i64 kind, .slice A m c, .agg #[.int .i64 a0, .int .i64 a1]] w fun e w' => e = .returned (.bool true) ∧ Below w.heap.size w w' := by
  obtain ⟨uk, huk⟩ := wrap_nat kind
  obtain ⟨r, hr9, hr8⟩ : ∃ r : Nat, (uk : Int) % 9 = (r : Int) ∧ r ≤ 8 := ⟨uk % 9, by omega, by omega⟩
  have i1 : (m : Int) ≤ 3000 := by omega
  have i2 : (r : Int) ≤ 8 := by omega
  obtain ⟨q, hq⟩ : ∃ q, q = u0 % (m + 5) := ⟨_, rfl⟩
  have hq1 : (u0 : Int) % ((m : Int) + 9 - 4) = (q : Int) := by rw [hq, show (m : Int) + 9 - 4 = ((m + 5 : Nat) : Int) from by omega]; simp
  have hq2 : (u0 : Int).tmod ((m : Int) + 9 - 4) = (q : Int) := by rw [Int.tmod_eq_emod_of_nonneg (by omega)]; exact hq1
  have hqm : q < m + 5 := by rw [hq]; exact Nat.mod_lt _ (by omega)
  rw [← hq] at hk
  have i3 : (q : Int) ≤ (m : Int) + 4 := by omega
  have i4 : (4 + (q : Int)).toNat = 4 + q := by omega
  have i5 : 4 + (q : Int) < (m : Int) + 9 := by omega
  have i6 : (0 : Int) ≤ 4 + (q : Int) := by omega
  have i7 : ¬ 4 + (q : Int) < 5 + (m : Int) := by omega
  obtain ⟨u1, hu1⟩ := wrap_nat a1
  obtain ⟨j, hj1, hj7⟩ : ∃ j : Nat, (u1 : Int) % 8 = (j : Int) ∧ j ≤ 7 := ⟨u1 % 8, by omega, by omega⟩
  have hj2 : (u1 : Int).tmod 8 = (j : Int) := by rw [Int.tmod_eq_emod_of_nonneg (by omega)]; exact hj1
  have hj3 : (j : Int) ≤ 7 := by omega
  have H := hide (And.intro (hr.more hB) (And.intro hm (And.intro hr8 (And.intro hk (And.intro hqm hj7)))))
  clear hr hB hm hr8 hk hq hqm
  go_enter Try.func7, Try.ntmps7
  go_wp2_with fail
  refine (awake_any _).mono ?_
  rintro e w1 ⟨rfl, hb1⟩
  rw [World.size_alloc] at hb1
  have hs1 := hb1.size
  have hk1 : KeepC 31 #[.int .i64 a0, .int .i64 a1] w w1 := (KeepC.start _ _ w).after (by rw [World.size_alloc]; exact hb1)
  have hr1 := H.out.1.below hk1.below
  have H1 := hide (And.intro hk1 (And.intro hr1 H.out.2))
  have hs1w := hk1.below.size
  clear hb1 hk1 hr1 H hs1
  go_wp2_with fail
  refine (encode_one c _ (r + 1) (by omega) (by omega) (by have := H1.out.2.2.2.1; omega) H1.out.2.1 hs1w (by have := H1.out.2.2.1; omega)).mono ?_
  rintro e w2 ⟨Bv, cb, rfl, hown2, hb2⟩
  have hk2 := H1.out.1.after hb2
  have z0 : w2.cell? ⟨w.heap.size, 0, none⟩ = some (.int .i64 a0) := hk2.cell 0
  have z1 : w2.cell? ⟨w.heap.size, 1, none⟩ = some (.int .i64 a1) := hk2.cell 1
  obtain ⟨g, cap, hv, hg, hgl⟩ := hown2.form (by omega)
  cases hv
  have hcap := owns_cap hown2
  obtain ⟨x, hx⟩ : ∃ x, (enc (r + 1) l)[4 + q]? = some x := ⟨_, List.getElem?_eq_getElem (by rw [enc_length, H1.out.2.1.len]; omega)⟩
  have hcx : w2.cell? ⟨g, 4 + q, none⟩ = some (.int .u8 (x.toNat : Int)) := by
    rw [hown2.cellAt _ (by omega)]
    unfold u8s
    rw [List.getElem?_map, hx]; rfl
  have hfx := hown2.frozenAt (4 + q)
  go_wp2_with fail
  go_region
  obtain ⟨y, hy, hyx⟩ := turn_bit x j H1.out.2.2.2.2.2.2
  rw [hy]
  have hst := (hown2.stored (4 + q) (.int .u8 (y.toNat : Int))).1
  have hset : (u8s (enc (r + 1) l)).set (4 + q) (.int .u8 (y.toNat : Int)) = u8s ((enc (r + 1) l).set (4 + q) y) := by
    unfold u8s; rw [List.map_set]
  rw [hset] at hst
  have hst2 : (w2.setCell ⟨g, 4 + q, none⟩ (.int .u8 (y.toNat : Int))).drew.ownsRow w1.heap.size 5 1 (.slice (some ⟨g, 0, none⟩) (m + 9) cb) (m + 9) (u8s ((enc (r + 1) l).set (4 + q) y)) := hst
  have hb3 : Below w.heap.size w (w2.setCell ⟨g, 4 + q, none⟩ (.int .u8 (y.toNat : Int))).drew := (hk2.below.setCell (by show w.heap.size ≤ g; omega) _).drew
  have hr8 := H1.out.2.2.2.1
  have hll : l.length ≤ 8192 := by rw [H1.out.2.1.len]; have := H1.out.2.2.1; omega
  have HH := hide (And.intro hst2 (And.intro hb3 (And.intro hcap hgl)))
  have HP := hide (And.intro hx (And.intro hr8 hll))
  have HM := hide H1.out.2.2
  obtain ⟨W3, hW3⟩ : ∃ W, W = (w2.setCell ⟨g, 4 + q, none⟩ (.int .u8 (y.toNat : Int))).drew := ⟨_, rfl⟩
  have hcy : W3.cell? ⟨g, 4 + q, none⟩ = some (.int .u8 (y.toNat : Int)) := by rw [hW3]; exact World.cell?_setCell_same _ _ _ hcx
  rw [← hW3] at HH ⊢
  have hg3 : g < W3.heap.size := by rw [hW3]; show g < (w2.setCell _ _).heap.size; simp [World.setCell]; exact HH.out.2.2.2
  have HC := hide (And.intro hcy hg3)
  clear hk2 hown2 H1 hg hgl hb2 hst hst2 hb3 hcap hset hx hr8 hll
  clear hW3 hcx hfx z0 z1 hcy hg3 hu huk hr9 hq1 hq2 i5 i7 hy hu1 hj1 hj2
  have hyb : ((y.toNat : Int) == (x.toNat : Int)) = false := by
    rw [beq_eq_false_iff_ne]
    intro e
    exact hyx (UInt8.toNat_inj.1 (by omega))
  have i8 : 4 + (q : Int) < (m : Int) + 9 := by omega
  rcases dec_turned (r + 1) l (by omega) (by have := HP.out.2.1; omega) HP.out.2.2 (by omega) HP.out.1 hyx with hd | ⟨hk4, hd⟩
  · go_wp2_with fail
    refine (decode_list cb hd (Rb.of_own HH.out.1) (Nat.le_refl _) HH.out.2.2.1.1 (by have := HM.out.1; unfold maxLen; omega)).mono ?_
    rintro e w4 ⟨P, cP, rfl, hown4, hb4⟩
    have hc4 : w4.cell? ⟨g, 4 + q, none⟩ = some (.int .u8 (y.toNat : Int)) := (hb4.cell HC.out.2).trans HC.out.1
    have hg4 : g < w4.heap.size := Nat.lt_of_lt_of_le HC.out.2 hb4.size
    have hbw := HH.out.2.1.trans (hb4.mono HH.out.2.1.size)
    have HB := hide (And.intro hbw hbw.size)
    clear hbw hb4 hown4 hd hyx
    go_wp2_with fail
    go_ret
    exact ⟨rfl, HB.out.1.alloc HB.out.2 _⟩
  · have hq4 : ((4 + (q : Int)) == 4) = true := by rw [beq_iff_eq]; omega
    go_wp2_with fail
    refine (decode_list cb hd (Rb.of_own HH.out.1) (Nat.le_refl _) HH.out.2.2.1.1 (by have := HM.out.1; unfold maxLen; omega)).mono ?_
    rintro e w4 ⟨P, cP, rfl, hown4, hb4⟩
    have hc4 : w4.cell? ⟨g, 4 + q, none⟩ = some (.int .u8 (y.toNat : Int)) := (hb4.cell HC.out.2).trans HC.out.1
    have hg4 : g < w4.heap.size := Nat.lt_of_lt_of_le HC.out.2 hb4.size
    have hbw := HH.out.2.1.trans (hb4.mono HH.out.2.1.size)
    have HB := hide (And.intro hbw hbw.size)
    clear hbw hb4 hown4 hd hyx hk4
    go_wp2_with fail
    go_ret
    exact ⟨rfl, HB.out.1.alloc HB.out.2 _⟩
end Go.Proofs.Ytpglncaigmnjcaa
