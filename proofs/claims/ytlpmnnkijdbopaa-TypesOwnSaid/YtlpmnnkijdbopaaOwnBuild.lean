/-
  A slice of one type, built.
-/
import Derived.Test.YtlpmnnkijdbopaaOwnRows3
import Derived.Great.BuildSlice
namespace Go.Proofs.Ytlpmnnkijdbopaa
open Go.RowKit Go.Maps

theorem Try.infoTd : (Try.prog.info? 35).map (fun i => (i.zero, i.size, i.bytes)) = some (some (.agg zeroT.toArray), 7, 128) := by kernel_rfl
theorem seven {cs : List Value} (h : cs.length = 7) : ∃ a0 a1 a2 a3 a4 a5 a6, cs = [a0, a1, a2, a3, a4, a5, a6] := by
  match cs, h with
  | [a0, a1, a2, a3, a4, a5, a6], _ => exact ⟨a0, a1, a2, a3, a4, a5, a6, rfl⟩
theorem fill_one (a0 a1 a2 a3 a4 a5 a6 : Value) : Instr.fill (fun i => some (i * 7, 7)) ((Array.range (1 * 7)).map ((Value.agg zeroT.toArray).cells[· % (Value.agg zeroT.toArray).cells.size]!)) [(0, .agg #[a0, a1, a2, a3, a4, a5, a6])] = some #[a0, a1, a2, a3, a4, a5, a6] := by
  first | rfl | kernel_rfl | (simp [Instr.fill])
set_option maxRecDepth 20000 in
theorem wpList_one {ops : Array Oper} {rest : List Oper} {a : Act} {Q : Exit → Act → World → Prop} {w : World} {dst : Option Tmp} {ty : TypeId} {pos : String} {af : Array Edge} {x : Operand} {g : Option (Nat × Bool)} {cs : List Value}
    (hx : a.eval x = .agg cs.toArray) (hlen : cs.length = 7)
    (hw : Region.wanted { dst := dst, op := .buildSlice 22 1 #[(0, x)], type := ty, pos := pos, after := af, guard := g } (yielded ops a.tmps) = true)
    (h : wpList Try.prog ops Q rest (a.put dst (.slice (some ⟨w.heap.size, 0, none⟩) 1 1)) (w.alloc (.cells cs.toArray 35))) :
    wpList Try.prog ops Q ({ dst := dst, op := .buildSlice 22 1 #[(0, x)], type := ty, pos := pos, after := af, guard := g } :: rest) a w :=
  wpList_step fun _ hK => by
    rw [if_pos hw]
    obtain ⟨i0, hi, hz0, hz1, hz2⟩ := info_parts Try.infoTd
    obtain ⟨a0, a1, a2, a3, a4, a5, a6, rfl⟩ := seven hlen
    refine wp_buildSlice 22 35 1 #[(0, x)] rfl #[a0, a1, a2, a3, a4, a5, a6] i0 _ Try.underlying22 hi hz0 (by rw [hz1]; decide) (by rw [hz1]; decide) ?_ (hK _ _ h)
    rw [hz1]
    simp only [List.map_toArray, List.map_cons, List.map_nil]
    rw [hx]
    exact fill_one a0 a1 a2 a3 a4 a5 a6
end Go.Proofs.Ytlpmnnkijdbopaa
