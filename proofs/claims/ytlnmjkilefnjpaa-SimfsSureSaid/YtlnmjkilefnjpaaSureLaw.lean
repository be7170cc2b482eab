/-
  The plain states of the law of what is sure.
-/
import Derived.Test.YtlnmjkilefnjpaaSwapsAll
namespace Go.Proofs.Ytlnmjkilefnjpaa
open Go.RowKit Go.Maps

abbrev nk : Bs := [107, 101, 112, 116]
abbrev nl : Bs := [108, 97, 116, 101, 114]
abbrev nz : Bs := [108, 97, 115, 116]
def su1 : St := { steps := 1, left := -1, room := 2000, files := [([], 0)], dir := [(nk, 0)], sure := [], chg := [[(nk, 0)]] }
def su2 (O : Bs) : St := { steps := 2, left := -1, room := 2000, files := [(O, 0)], dir := [(nk, 0)], sure := [], chg := [[(nk, 0)]] }
def su3 (O : Bs) : St := { steps := 3, left := -1, room := 2000, files := [(O, O.length)], dir := [(nk, 0)], sure := [], chg := [[(nk, 0)]] }
def su4 (O : Bs) : St := { steps := 4, left := -1, room := 2000, files := [(O, O.length)], dir := [(nk, 0)], sure := [(nk, 0)], chg := [] }
def su5 (O M : Bs) : St := { steps := 5, left := -1, room := 2000, files := [(O ++ M, O.length)], dir := [(nk, 0)], sure := [(nk, 0)], chg := [] }
def su6 (O M : Bs) : St := { steps := 6, left := -1, room := 2000, files := [(O ++ M, O.length), ([], 0)], dir := [(nk, 0), (nl, 1)], sure := [(nk, 0)], chg := [[(nl, 1)]] }
def su7 (O M : Bs) : St := { steps := 7, left := -1, room := 2000, files := [(O ++ M, O.length), (M, 0)], dir := [(nk, 0), (nl, 1)], sure := [(nk, 0)], chg := [[(nl, 1)]] }
def su8 (O M : Bs) : St := { steps := 8, left := -1, room := 2000, files := [(O ++ M, O.length), (M, M.length)], dir := [(nk, 0), (nl, 1)], sure := [(nk, 0)], chg := [[(nl, 1)]] }
def su9 (O M : Bs) : St := { steps := 9, left := -1, room := 2000, files := [(O ++ M, O.length), (M, M.length)], dir := [(nk, 0), (nz, 1)], sure := [(nk, 0)], chg := [[(nl, 1)], [(nl, -1), (nz, 1)]] }
theorem su1_eq : (newS 2000).create nk = su1 := rfl
theorem su2_eq (O : Bs) : su1.append 0 O = su2 O := rfl
theorem su3_eq (O : Bs) : (su2 O).sync 0 = su3 O := rfl
theorem su4_eq (O : Bs) : (su3 O).syncDir = su4 O := rfl
theorem su5_eq (O M : Bs) : (su4 O).append 0 M = su5 O M := rfl
theorem su6_eq (O M : Bs) : (su5 O M).create nl = su6 O M := rfl
theorem su7_eq (O M : Bs) : (su6 O M).append 1 M = su7 O M := rfl
theorem su8_eq (O M : Bs) : (su7 O M).sync 1 = su8 O M := rfl
theorem su9_eq (O M : Bs) : (su8 O M).rename nl nz 1 = su9 O M := rfl
theorem su4_used (O : Bs) : (su4 O).used = O.length := by show ([O.length] : List Nat).sum = _; simp
theorem su6_used (O M : Bs) : (su6 O M).used = O.length + M.length := by show ([(O ++ M).length, 0] : List Nat).sum = _; simp
theorem okc_su (O M : Bs) : ∀ c ∈ (su9 O M).chg, Okc c := by
  show ∀ c ∈ ([[(nl, 1)], [(nl, -1), (nz, 1)]] : List Chg), Okc c
  unfold Okc
  decide
/-- how many bytes are kept beside the sure ones -/
def sut (M : Bs) (y : Int) : Nat := (max 0 (min y (M.length : Int))).toNat
def suk (O M : Bs) (y : Int) : Bs := (O ++ M).take (O.length + sut M y)
theorem suk_eq (O M : Bs) (y : Int) : keep [y, 5] 0 (O ++ M, O.length) = suk O M y := by
  show (O ++ M).take (O.length + (max 0 (min y (((O ++ M).length : Int) - O.length))).toNat) = _
  unfold suk sut
  rw [List.length_append, show (((O.length + M.length : Nat) : Int) - (O.length : Int)) = (M.length : Int) from by omega]
theorem suk_len (O M : Bs) (y : Int) : (suk O M y).length = O.length + sut M y := by
  unfold suk sut
  rw [List.length_take, List.length_append]
  omega
theorem sul_eq (M : Bs) (y : Int) : keep [y, 5] 1 (M, M.length) = M := by
  show M.take (M.length + (max 0 (min 5 ((M.length : Int) - M.length))).toNat) = _
  rw [List.take_of_length_le]
  omega
theorem cr_su (O M : Bs) (d y : Int) : (d ≤ 0 → ((su9 O M).crash d [y, 5]).files = [(suk O M y, (suk O M y).length)] ∧ ((su9 O M).crash d [y, 5]).dir = [(nk, 0)]) ∧
    (d = 1 → ((su9 O M).crash d [y, 5]).files = [(suk O M y, (suk O M y).length), (M, M.length)] ∧ ((su9 O M).crash d [y, 5]).dir = [(nk, 0), (nl, 1)]) ∧
    (2 ≤ d → ((su9 O M).crash d [y, 5]).files = [(suk O M y, (suk O M y).length), (M, M.length)] ∧ ((su9 O M).crash d [y, 5]).dir = [(nk, 0), (nz, 1)]) := by
  have hc : (su9 O M).chg = [[(nl, 1)], [(nl, -1), (nz, 1)]] := rfl
  refine ⟨fun h => ?_, fun h => ?_, fun h => ?_⟩
  · have e : crashDir (su9 O M) d = [(nk, 0)] := by
      unfold crashDir
      rw [hc, show (max 0 (min d (([[(nl, 1)], [(nl, -1), (nz, 1)]] : List Chg).length : Int))).toNat = 0 from by simp; omega]
      rfl
    unfold St.crash
    rw [e]
    refine ⟨?_, rfl⟩
    show [(keep [y, 5] 0 (O ++ M, O.length), (keep [y, 5] 0 (O ++ M, O.length)).length)] = _
    rw [suk_eq]
  · have e : crashDir (su9 O M) d = [(nk, 0), (nl, 1)] := by
      unfold crashDir
      rw [hc, show (max 0 (min d (([[(nl, 1)], [(nl, -1), (nz, 1)]] : List Chg).length : Int))).toNat = 1 from by simp; omega]
      rfl
    unfold St.crash
    rw [e]
    refine ⟨?_, rfl⟩
    show [(keep [y, 5] 0 (O ++ M, O.length), (keep [y, 5] 0 (O ++ M, O.length)).length), (keep [y, 5] 1 (M, M.length), (keep [y, 5] 1 (M, M.length)).length)] = _
    rw [suk_eq, sul_eq]
  · have e : crashDir (su9 O M) d = [(nk, 0), (nz, 1)] := by
      unfold crashDir
      rw [hc, show (max 0 (min d (([[(nl, 1)], [(nl, -1), (nz, 1)]] : List Chg).length : Int))).toNat = 2 from by simp; omega]
      rfl
    unfold St.crash
    rw [e]
    refine ⟨?_, rfl⟩
    show [(keep [y, 5] 0 (O ++ M, O.length), (keep [y, 5] 0 (O ++ M, O.length)).length), (keep [y, 5] 1 (M, M.length), (keep [y, 5] 1 (M, M.length)).length)] = _
    rw [suk_eq, sul_eq]
end Go.Proofs.Ytlnmjkilefnjpaa
