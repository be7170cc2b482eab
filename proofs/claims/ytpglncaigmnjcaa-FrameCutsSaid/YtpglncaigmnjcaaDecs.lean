/-
  Both Decodes, each said by one plain function.
-/
import Derived.Test.YtpglncaigmnjcaaRefDec2
namespace Go.Proofs.Ytpglncaigmnjcaa
open Go.RowKit

/-- Whose frame bytes are: code, kind, payload. -/
def dec (l : List UInt8) : Nat × Nat × List UInt8 :=
  if l.length < 9 ∨ 8201 < l.length ∨ num l + 9 ≠ l.length then (2, 0, [])
  else if (l[4]?.getD 0).toNat < 1 ∨ 9 < (l[4]?.getD 0).toNat then (1, 0, [])
  else if (crc.sum ((l.drop 4).take (l.length - 8))).toNat ≠ num (l.drop (l.length - 4)) then (6, 0, [])
  else (0, (l[4]?.getD 0).toNat, (l.drop 5).take (l.length - 9))

theorem four_num (x : BitVec 32) : num (four x) = x.toNat := by
  have h := x.isLt
  simp only [num, four, List.getElem?_cons_zero, List.getElem?_cons_succ, Option.getD_some, UInt8.toNat_ofNat']
  omega
theorem num_inj {l l' : List UInt8} (hl : l.length = 4) (hl' : l'.length = 4) (h : num l = num l') : l = l' := by
  match l, hl, l', hl' with
  | [a, b, c, d], _, [a', b', c', d'], _ =>
    simp only [num, List.getElem?_cons_zero, List.getElem?_cons_succ, Option.getD_some] at h
    have := a.toNat_lt
    have := b.toNat_lt
    have := c.toNat_lt
    have := d.toNat_lt
    have := a'.toNat_lt
    have := b'.toNat_lt
    have := c'.toNat_lt
    have := d'.toNat_lt
    have ha : a = a' := UInt8.toNat_inj.1 (by omega)
    have hb : b = b' := UInt8.toNat_inj.1 (by omega)
    have hc : c = c' := UInt8.toNat_inj.1 (by omega)
    have hd : d = d' := UInt8.toNat_inj.1 (by omega)
    subst ha; subst hb; subst hc; subst hd; rfl
theorem four_iff {x : BitVec 32} {t : List UInt8} (h : t.length = 4) : four x = t ↔ x.toNat = num t :=
  ⟨fun e => by rw [← e, four_num], fun e => num_inj (four_length x) h (by rw [four_num, e])⟩

theorem decode_any {w : World} {B n : Nat} {A : Option Addr} {l : List UInt8} (c : Nat) (hr : Rb w B A n l) (hB : B ≤ w.heap.size) (hnc : n ≤ c) (hn : n ≤ maxLen) :
    Calls Try.prog 16 #[.slice A n c] w fun e w' => ∃ A' c', e = .returned (.tuple #[.agg #[.int .i64 ((dec l).2.1 : Int), .slice A' (dec l).2.2.length c'], .int .i64 ((dec l).1 : Int)]) ∧
      w'.ownsRow w.heap.size 5 1 (.slice A' (dec l).2.2.length c') (dec l).2.2.length (u8s (dec l).2.2) ∧ Below w.heap.size w w' := by
  have hl := hr.len
  by_cases h1 : l.length < 9 ∨ 8201 < l.length ∨ num l + 9 ≠ l.length
  · have hd : dec l = (2, 0, []) := by unfold dec; rw [if_pos h1]
    rw [hd]
    refine (decode_form c hr hB hn (by rw [hl] at h1; exact h1)).mono ?_
    rintro e w' ⟨rfl, hb⟩
    exact ⟨none, 0, rfl, World.ownsRow_nil _ _ _ _, hb⟩
  · obtain ⟨m, rfl⟩ : ∃ m, n = m + 9 := ⟨n - 9, by omega⟩
    obtain ⟨x, hx⟩ : ∃ x, l[4]? = some x := ⟨_, List.getElem?_eq_getElem (by omega)⟩
    by_cases h2 : x.toNat < 1 ∨ 9 < x.toNat
    · have hd : dec l = (1, 0, []) := by unfold dec; rw [if_neg h1, hx, Option.getD_some, if_pos h2]
      rw [hd]
      refine (decode_range c hr hB (by omega) (by omega) hx h2).mono ?_
      rintro e w' ⟨rfl, hb⟩
      exact ⟨none, 0, rfl, World.ownsRow_nil _ _ _ _, hb⟩
    · by_cases h3 : (crc.sum ((l.drop 4).take (l.length - 8))).toNat ≠ num (l.drop (l.length - 4))
      · have hd : dec l = (6, 0, []) := by unfold dec; rw [if_neg h1, hx, Option.getD_some, if_neg h2, if_pos h3]
        rw [hd]
        refine (decode_sum c hr hB hnc (by omega) (by omega) hx (by omega) (by omega) (by rw [hl, show m + 9 - 8 = m + 1 from by omega, show m + 9 - 4 = m + 5 from by omega] at h3; exact h3)).mono ?_
        rintro e w' ⟨rfl, hb⟩
        exact ⟨none, 0, rfl, World.ownsRow_nil _ _ _ _, hb⟩
      · have hd : dec l = (0, x.toNat, (l.drop 5).take (l.length - 9)) := by unfold dec; rw [if_neg h1, hx, Option.getD_some, if_neg h2, if_neg h3]
        have hpl : ((l.drop 5).take (l.length - 9)).length = m := by simp; omega
        have h3' := Classical.not_not.1 h3
        rw [hl, show m + 9 - 8 = m + 1 from by omega, show m + 9 - 4 = m + 5 from by omega] at h3'
        rw [hd]
        simp only [hpl]
        refine (decode_ok c hr hB hnc (by omega) (by omega) hx (by omega) (by omega) h3').mono ?_
        rintro e w' ⟨A', c', rfl, hown, hb⟩
        exact ⟨A', c', rfl, by rw [hl, show m + 9 - 9 = m from by omega]; exact hown, hb⟩

theorem refdecode_any {w : World} (s : ByteArray) (hn : s.size ≤ 1000000) :
    Calls Try.prog 17 #[.string s] w fun e w' => e = .returned (.tuple #[.agg #[.int .i64 ((dec s.data.toList).2.1 : Int), .string ⟨(dec s.data.toList).2.2.toArray⟩], .int .i64 ((dec s.data.toList).1 : Int)]) ∧ Below w.heap.size w w' := by
  have hl : s.data.toList.length = s.size := by simp
  by_cases h1 : s.data.toList.length < 9 ∨ 8201 < s.data.toList.length ∨ num s.data.toList + 9 ≠ s.data.toList.length
  · have hd : dec s.data.toList = (2, 0, []) := by unfold dec; rw [if_pos h1]
    rw [hd]
    rw [hl] at h1
    exact refdecode_form s hn h1
  · obtain ⟨x, hx⟩ : ∃ x, s.data.toList[4]? = some x := ⟨_, List.getElem?_eq_getElem (by omega)⟩
    by_cases h2 : x.toNat < 1 ∨ 9 < x.toNat
    · have hd : dec s.data.toList = (1, 0, []) := by unfold dec; rw [if_neg h1, hx, Option.getD_some, if_pos h2]
      rw [hd]
      exact refdecode_range s (by omega) (by omega) (by omega) hx h2
    · have h4 : (s.data.toList.drop (s.data.toList.length - 4)).length = 4 := by rw [List.length_drop]; omega
      by_cases h3 : (crc.sum ((s.data.toList.drop 4).take (s.data.toList.length - 8))).toNat ≠ num (s.data.toList.drop (s.data.toList.length - 4))
      · have hd : dec s.data.toList = (6, 0, []) := by unfold dec; rw [if_neg h1, hx, Option.getD_some, if_neg h2, if_pos h3]
        rw [hd]
        refine refdecode_sum s (by omega) (by omega) (by omega) hx (by omega) (by omega) ?_
        rw [← hl]
        intro e
        exact h3 ((four_iff h4).1 e)
      · have hd : dec s.data.toList = (0, x.toNat, (s.data.toList.drop 5).take (s.data.toList.length - 9)) := by unfold dec; rw [if_neg h1, hx, Option.getD_some, if_neg h2, if_neg h3]
        rw [hd, hl]
        refine refdecode_ok s (by omega) (by omega) (by omega) hx (by omega) (by omega) ?_
        rw [← hl]
        exact (four_iff h4).2 (Classical.not_not.1 h3)
end Go.Proofs.Ytpglncaigmnjcaa
