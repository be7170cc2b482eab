/-
  The law of the room: how its arguments are opened.
-/
import Derived.Test.YtlnmjkilefnjpaaFullWalk
import Derived.Test.YtlnmjkilefnjpaaLaw
namespace Go.Proofs.Ytlnmjkilefnjpaa
open Go.ChangeShapes Go.WideShapes Go.ChangeAt Go.RowKit Go.Deep

/-- numbers that came in -/
theorem open_nums {H : Type} {enc : TypeId × Value → H} {w : World} {base : Nat} {spare : Nat → Bool} {held : Bool} {fuel : Nat} {v : Value} {x : DataW H × List MemPlace}
    (hx : DataW.trod enc Try.prog w base spare held fuel 22 [v] = some x) :
    ∃ A n c l, v = .slice A n c ∧ Ri w w.heap.size A n l ∧ n ≤ c ∧ c ≤ maxLen := by
  rcases open_ints Try.underlying22 Try.underlying3 (by kernel_rfl) hx with ⟨hcs, _⟩ | ⟨a, len, cap, zs, hcs, _, hl, hm, hz, hxx, hcell, hwf⟩
  · exact ⟨none, 0, 0, [], by simpa using hcs, Rd.nil' _ _ _ _, by omega, by unfold maxLen; omega⟩
  · have hv : v = .slice (some a) len cap := by simpa using hcs
    have hlz : len ≤ zs.length := by rw [hz]; split <;> omega
    refine ⟨some a, len, cap, zs.take len, hv, ?_, hl, hm⟩
    have hbl : zs.length = 0 ∨ a.block < w.heap.size := by
      rcases Nat.eq_zero_or_pos zs.length with h | h
      · exact .inl h
      · refine .inr (World.block_lt_of_cell? w (a.add 0) (hcell 0 h))
    unfold Ri
    rcases hbl with h0 | hbl
    · have : len = 0 := by omega
      subst this
      exact Rd.nil' _ _ _ _
    · refine Rd.of_adds (by simp; omega) hbl (fun j u hu => ?_)
      rw [List.getElem?_map, List.getElem?_take] at hu
      split at hu
      · rename_i hj
        rw [hcell j (by omega)]
        have hjz : j < zs.length := by omega
        rw [List.getElem?_eq_getElem hjz] at hu
        simp at hu
        simp [List.getD, List.getElem?_eq_getElem hjz, hu]
      · cases hu
end Go.Proofs.Ytlnmjkilefnjpaa
