/-
  The walks of Letter, Digit, Name: what is a name has no sign in it.
-/
import Derived.Test.YtlpmnnkijdbopaaDoorArms
namespace Go.Proofs.YtlpmnnkijdbopaaDoor
open Go.RowKit Go.Maps

/-- none of ! [ ] -/
def okc (c : Int) : Prop := c ≠ 33 ∧ c ≠ 91 ∧ c ≠ 93
def ChPost (c : Int) (w : World) (e : Ending) (w' : World) : Prop := ∃ r, e = .returned (.bool r) ∧ (r = true → okc c) ∧ w = w'
/-- a text of at least one byte without signs -/
def good (s : Bs) : Prop := s ≠ [] ∧ ∀ c ∈ s, okc (c.toNat : Int)
def NmPost (s : Bs) (w : World) (e : Ending) (w' : World) : Prop := ∃ r, e = .returned (.bool r) ∧ (r = true → good s) ∧ w = w'
end Go.Proofs.YtlpmnnkijdbopaaDoor
