/-
  The plain law of a frame that is turned in one byte.
-/
import Derived.Test.YtpglncaigmnjcaaReadsWalk
namespace Go.Proofs.Ytpglncaigmnjcaa
open Go.RowKit

theorem num_four_app (x : BitVec 32) (t : List UInt8) : num (four x ++ t) = x.toNat := by
  have h : num (four x ++ t) = num (four x) := by
    simp only [num, four, List.cons_append, List.getElem?_cons_zero, List.getElem?_cons_succ]
  rw [h, four_num]
theorem enc_parts (kk : Nat) (l : List UInt8) : (enc kk l).drop 4 = inner kk l ++ four (crc.sum (inner kk l)) := by
  unfold enc
  rw [List.append_assoc, List.drop_left' (four_length _)]
theorem inner_length (kk : Nat) (l : List UInt8) : (inner kk l).length = l.length + 1 := rfl
theorem enc_four (kk : Nat) (l : List UInt8) (hk : 1 ≤ kk) (hk9 : kk ≤ 9) : ∃ x : UInt8, (enc kk l)[4]? = some x ∧ x.toNat = kk := by
  refine ⟨UInt8.ofNat kk, ?_, by simp; omega⟩
  have h : ((enc kk l).drop 4)[0]? = some (UInt8.ofNat kk) := by rw [enc_parts]; rfl
  rw [List.getElem?_drop] at h
  exact h

/-- what a list with a frame's shape decodes to -/
theorem dec_shape {L i t : List UInt8} {m : Nat} (hm : m ≤ 8192) (hn : num L = m) (h4 : L.drop 4 = i ++ t) (hi : i.length = m + 1) (ht : t.length = 4) {x : UInt8} (hx : i[0]? = some x) :
    dec L = if x.toNat < 1 ∨ 9 < x.toNat then (1, 0, []) else if (crc.sum i).toNat ≠ num t then (6, 0, []) else (0, x.toNat, i.drop 1) := by
  have hl : L.length = m + 9 := by
    have := congrArg List.length h4
    rw [List.length_drop, List.length_append] at this
    omega
  have hx4 : L[4]? = some x := by
    have h : (L.drop 4)[0]? = some x := by rw [h4, List.getElem?_append_left (by omega)]; exact hx
    rw [List.getElem?_drop] at h
    exact h
  have e1 : (L.drop 4).take (L.length - 8) = i := by rw [h4, hl, List.take_append_of_le_length (by omega), List.take_of_length_le (by omega)]
  have e2 : L.drop (L.length - 4) = t := by
    rw [hl, show m + 9 - 4 = 4 + (m + 1) from by omega, ← List.drop_drop, h4, List.drop_left' hi]
  have e3 : (L.drop 5).take (L.length - 9) = i.drop 1 := by
    rw [hl, show (5 : Nat) = 4 + 1 from rfl, ← List.drop_drop, h4, List.drop_append_of_le_length (by omega), List.take_append_of_le_length (by rw [List.length_drop]; omega), List.take_of_length_le (by rw [List.length_drop]; omega)]
  unfold dec
  rw [if_neg (by omega), hx4, Option.getD_some, e1, e2, e3]

theorem dec_enc (kk : Nat) (l : List UInt8) (hk : 1 ≤ kk) (hk9 : kk ≤ 9) (hl : l.length ≤ 8192) : dec (enc kk l) = (0, kk, l) := by
  have hx : (inner kk l)[0]? = some (UInt8.ofNat kk) := rfl
  have hkk : (UInt8.ofNat kk).toNat = kk := by simp; omega
  have hn : num (enc kk l) = l.length := by
    unfold enc
    rw [List.append_assoc, num_four_app, BitVec.toNat_ofNat]; omega
  rw [dec_shape hl hn (enc_parts kk l) (inner_length kk l) (four_length _) hx, hkk, if_neg (by omega), if_neg (by rw [four_num]; simp)]
  rfl

theorem set_split {l : List UInt8} {k : Nat} {x y : UInt8} (h : l[k]? = some x) : l = l.take k ++ x :: l.drop (k + 1) ∧ l.set k y = l.take k ++ y :: l.drop (k + 1) := by
  obtain ⟨hk, rfl⟩ := List.getElem?_eq_some_iff.1 h
  constructor
  · conv => lhs; rw [← List.take_append_drop k l]
    rw [List.drop_eq_getElem_cons hk]
  · rw [List.set_eq_take_append_cons_drop, if_pos hk]

theorem dec_turned (kk : Nat) (l : List UInt8) (hk : 1 ≤ kk) (hk9 : kk ≤ 9) (hl : l.length ≤ 8192) {k : Nat} {x y : UInt8} (h4 : 4 ≤ k) (hx : (enc kk l)[k]? = some x) (hne : y ≠ x) :
    dec ((enc kk l).set k y) = (6, 0, []) ∨ (k = 4 ∧ dec ((enc kk l).set k y) = (1, 0, [])) := by
  have hkl : k < l.length + 9 := by rw [← enc_length kk l]; exact (List.getElem?_eq_some_iff.1 hx).1
  have hn : num ((enc kk l).set k y) = l.length := by
    have e : (enc kk l).set k y = four (BitVec.ofNat 32 l.length) ++ (inner kk l ++ four (crc.sum (inner kk l))).set (k - 4) y := by
      unfold enc
      rw [List.append_assoc, List.set_append_right _ _ (by rw [four_length]; omega), four_length]
    rw [e, num_four_app, BitVec.toNat_ofNat]; omega
  have hd : ((enc kk l).set k y).drop 4 = (inner kk l ++ four (crc.sum (inner kk l))).set (k - 4) y := by
    rw [List.drop_set, if_neg (by omega), enc_parts]
  have hx' : (inner kk l ++ four (crc.sum (inner kk l)))[k - 4]? = some x := by
    rw [← enc_parts, List.getElem?_drop, show 4 + (k - 4) = k from by omega]
    exact hx
  by_cases hin : k - 4 < l.length + 1
  · -- inside kind and payload
    rw [List.set_append_left _ _ (by rw [inner_length]; omega)] at hd
    rw [List.getElem?_append_left (by rw [inner_length]; omega)] at hx'
    obtain ⟨s1, s2⟩ := set_split (y := y) hx'
    have hsum : crc.sum ((inner kk l).set (k - 4) y) ≠ crc.sum (inner kk l) := by
      intro e
      rw [s2] at e
      conv at e => rhs; rw [s1]
      exact hne (crc.sum_changed _ _ e)
    have hnum : (crc.sum ((inner kk l).set (k - 4) y)).toNat ≠ num (four (crc.sum (inner kk l))) := by
      rw [four_num]
      intro e
      exact hsum (BitVec.eq_of_toNat_eq e)
    have hlen : ((inner kk l).set (k - 4) y).length = l.length + 1 := by rw [List.length_set]; rfl
    by_cases hk4 : k = 4
    · have hx0 : ((inner kk l).set (k - 4) y)[0]? = some y := by rw [hk4]; rfl
      rw [dec_shape hl hn hd hlen (four_length _) hx0]
      by_cases hr : y.toNat < 1 ∨ 9 < y.toNat
      · rw [if_pos hr]; exact .inr ⟨hk4, rfl⟩
      · rw [if_neg hr, if_pos hnum]; exact .inl rfl
    · have hx0 : ((inner kk l).set (k - 4) y)[0]? = some (UInt8.ofNat kk) := by
        rw [List.getElem?_set_ne (by omega)]; rfl
      have hkk : (UInt8.ofNat kk).toNat = kk := by simp; omega
      rw [dec_shape hl hn hd hlen (four_length _) hx0, hkk, if_neg (by omega), if_pos hnum]
      exact .inl rfl
  · -- inside the sum
    rw [List.set_append_right _ _ (by rw [inner_length]; omega), inner_length] at hd
    rw [List.getElem?_append_right (by rw [inner_length]; omega), inner_length] at hx'
    have hx0 : (inner kk l)[0]? = some (UInt8.ofNat kk) := rfl
    have hkk : (UInt8.ofNat kk).toNat = kk := by simp; omega
    have hlen : ((four (crc.sum (inner kk l))).set (k - 4 - (l.length + 1)) y).length = 4 := by rw [List.length_set]; rfl
    have hnum : (crc.sum (inner kk l)).toNat ≠ num ((four (crc.sum (inner kk l))).set (k - 4 - (l.length + 1)) y) := by
      rw [← four_num]
      intro e
      have e2 := num_inj (four_length _) hlen e
      have e3 := congrArg (fun t => t[k - 4 - (l.length + 1)]?) e2
      rw [hx', List.getElem?_set_self (by rw [four_length]; omega)] at e3
      injection e3 with e3
      exact hne e3.symm
    rw [dec_shape hl hn hd (inner_length kk l) hlen hx0, hkk, if_neg (by omega), if_pos hnum]
    exact .inl rfl
end Go.Proofs.Ytpglncaigmnjcaa
