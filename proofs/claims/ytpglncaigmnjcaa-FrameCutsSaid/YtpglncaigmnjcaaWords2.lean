/-
  More words: a conversion of bytes under a guard.
-/
import Derived.Test.YtpglncaigmnjcaaAwake
import Derived.Deep.QuietTactic
import Derived.BigQuiet
import Derived.StillTailTactics
import Derived.Deep.RegionWith
namespace Go.Proofs.Ytpglncaigmnjcaa
open Go.RowKit
section
variable {P : Program} {ops : Array Oper} {rest : List Oper} {a : Act} {Q : Exit → Act → World → Prop} {w : World} {dst : Option Tmp} {ty : TypeId} {pos : String} {af : Array Edge} {g : Option (Nat × Bool)}
theorem wpList_bytes_string_g {s d e : TypeId} {x : Operand} (hs : P.underlying s = some (.slice e)) (he : P.underlying e = some (.int .u8)) (hd : P.underlying d = some .string)
    (hw : Region.wanted { dst := dst, op := .convert s d x, type := ty, pos := pos, after := af, guard := g } (yielded ops a.tmps) = true)
    {B n c : Nat} {A : Option Addr} {l : List UInt8} (hx : a.eval x = .slice A n c) (hr : Rb w B A n l)
    (h : wpList P ops Q rest (a.put dst (.string ⟨l.toArray⟩)) w) : wpList P ops Q ({ dst := dst, op := .convert s d x, type := ty, pos := pos, after := af, guard := g } :: rest) a w :=
  wpList_step fun _ hK => by
    rw [if_pos hw]
    unfold Oper.wp execOp
    simp only [hx, Sem.run_bind, run_bytes_string hs he hd c hr, Result.andThen_ok, Sem.run_pure]
    exact hK _ _ h
end
end Go.Proofs.Ytpglncaigmnjcaa
