/-
  NARROWER THAN 'FOR EVERY INPUT', by the rows' own cells (each row's printed sentence says how): TypesSelf: loops · TypesOverlaps: loops · TypesOwn: loops.
  DERIVED. THE GIVEN ROWS OF THIS SEAT. 3 by the template 'for every input the law returns true; each argument reads behind the call as it read before'; 0 by the template 'total and deterministic' (their statements: YtlpmnnkijdbopaaTotals.lean).
  GIVEN WITH THE SEED: the statements are not yours to turn. If you find one false, say at which input.
  Laid BY PROGRAM, IN A SANDBOX (cutbox-rows.mjs): the forced cells as the released guide's own fill.sh prints them over the translation 45822436ddf53aa7… (all of the seat's roots in one cut). By AI agents, Wed Nov 11 2026. No macro, syntax, notation, axiom, sorry.
-/
import Derived.Test.YtlpmnnkijdbopaaChecked
import GoSem.Claim
import GoSem.ClaimJoined
import GoSem.ClaimMapViews
import Derived.JoinedTies
import Derived.KernelRfl
namespace Go.Proofs.Ytlpmnnkijdbopaa
/- THE CELL 'sum', in the pinned program and in every row, IS THE sha256 OF THE DUMP (.gsa) THAT YtlpmnnkijdbopaaProg.lean LOADS. Nothing in Lean hashes anything: it is a label: what it is worth is what the hold of that sum in a sandbox is worth. -/
noncomputable def Try.pinned : Pinned := { name := "ytlpmnnkijdbopaa", sum := "45822436ddf53aa7b13ec404a26c8c0987953a6cd2b3cb8faaf81e51836c4dcb", checked := Try.checked }
namespace Rows
def none {H : Type} : Left H := { results := [], args := [] }

/-- 'rubriclaw12.TypesSelf': WHATEVER THE INPUT: true; the input reads as it did. -/
def typesSelfSpec : ChangeSpec := { name := "typesSelf", fn := fun _ => fun
  | [d1, d2, d3] => { results := [.lit (.bool true)], args := [d1, d2, d3] }
  | _ => none }
def typesSelfRow : OpenClaim := { program := "ytlpmnnkijdbopaa", sum := "45822436ddf53aa7b13ec404a26c8c0987953a6cd2b3cb8faaf81e51836c4dcb", func := "rubric/rubriclaw12.TypesSelf", spec := "typesSelf", unfollowed := true, recurses := true, loops := true, apart := false }
def TypesSelfSaid : Prop := typesSelfRow.holds Try.pinned (OpenSpec.ofChange typesSelfSpec)

/-- ITS FALSE NEIGHBOUR: 'it returns false'. Refute it at one input. -/
def typesSelfWrong : ChangeSpec := { name := "typesSelf", fn := fun _ => fun
  | [d1, d2, d3] => { results := [.lit (.bool false)], args := [d1, d2, d3] }
  | _ => none }
def TypesSelfWrongFalsely : Prop := typesSelfRow.holds Try.pinned (OpenSpec.ofChange typesSelfWrong)

/-- 'rubriclaw12.TypesOverlaps': WHATEVER THE INPUT: true; the input reads as it did. -/
def typesOverlapsSpec : ChangeSpec := { name := "typesOverlaps", fn := fun _ => fun
  | [d1, d2, d3] => { results := [.lit (.bool true)], args := [d1, d2, d3] }
  | _ => none }
def typesOverlapsRow : OpenClaim := { program := "ytlpmnnkijdbopaa", sum := "45822436ddf53aa7b13ec404a26c8c0987953a6cd2b3cb8faaf81e51836c4dcb", func := "rubric/rubriclaw12.TypesOverlaps", spec := "typesOverlaps", unfollowed := true, recurses := true, loops := true, apart := false }
def TypesOverlapsSaid : Prop := typesOverlapsRow.holds Try.pinned (OpenSpec.ofChange typesOverlapsSpec)

/-- ITS FALSE NEIGHBOUR: 'it returns false'. Refute it at one input. -/
def typesOverlapsWrong : ChangeSpec := { name := "typesOverlaps", fn := fun _ => fun
  | [d1, d2, d3] => { results := [.lit (.bool false)], args := [d1, d2, d3] }
  | _ => none }
def TypesOverlapsWrongFalsely : Prop := typesOverlapsRow.holds Try.pinned (OpenSpec.ofChange typesOverlapsWrong)

/-- 'rubriclaw12.TypesOwn': WHATEVER THE INPUT: true; the input reads as it did. -/
def typesOwnSpec : ChangeSpec := { name := "typesOwn", fn := fun _ => fun
  | [d1, d2] => { results := [.lit (.bool true)], args := [d1, d2] }
  | _ => none }
def typesOwnRow : OpenClaim := { program := "ytlpmnnkijdbopaa", sum := "45822436ddf53aa7b13ec404a26c8c0987953a6cd2b3cb8faaf81e51836c4dcb", func := "rubric/rubriclaw12.TypesOwn", spec := "typesOwn", unfollowed := true, recurses := true, loops := true, apart := false }
def TypesOwnSaid : Prop := typesOwnRow.holds Try.pinned (OpenSpec.ofChange typesOwnSpec)

/-- ITS FALSE NEIGHBOUR: 'it returns false'. Refute it at one input. -/
def typesOwnWrong : ChangeSpec := { name := "typesOwn", fn := fun _ => fun
  | [d1, d2] => { results := [.lit (.bool false)], args := [d1, d2] }
  | _ => none }
def TypesOwnWrongFalsely : Prop := typesOwnRow.holds Try.pinned (OpenSpec.ofChange typesOwnWrong)

/- THE SECOND FORM. 'bulk': how many values and letters a reading holds, each counted each time it is reached (what is shared counts as often as it is met; a slice's spare places count too). A statement '..UptoSaid' is the law's where the arguments, and the package variables that the reading takes, are together of bulk at most 1048576: NARROWER than '..Said'. Prove '..Said' where nothing that the law and all that it calls make is longer than what came in: it says more and counts as full. Else prove '..UptoSaid'. A law counts once. -/
mutual
def uptoBulk {H : Type} : DataW H → Nat
  | .lit (.string bytes) => bytes.length + 1
  | .lit _ => 1
  | .nil => 1
  | .ptr d => uptoBulk d + 1
  | .slice elems spare => uptoBulkAll elems + uptoBulkAll spare + 1
  | .agg parts => uptoBulkAll parts + 1
  | .iface _ d => uptoBulk d + 1
  | .map entries => uptoBulkEntries entries + 1
  | .held _ => 1
def uptoBulkAll {H : Type} : List (DataW H) → Nat
  | [] => 0
  | d :: r => uptoBulk d + uptoBulkAll r
def uptoBulkEntries {H : Type} : List (Lit × DataW H) → Nat
  | [] => 0
  | x :: r => uptoBulkEntry x + uptoBulkEntries r
def uptoBulkEntry {H : Type} : Lit × DataW H → Nat
  | (.string bytes, d) => bytes.length + uptoBulk d + 1
  | (_, d) => uptoBulk d + 1
 end
def uptoSmall : (H : Type) → List (DataW H) → Bool := fun _ ds => decide (uptoBulkAll ds ≤ 1048576)
def OpenSpec.upto (s : _root_.Go.ChangeSpec) : _root_.Go.OpenSpec := { _root_.Go.OpenSpec.ofChange s with cond := some uptoSmall }

/-- 'rubriclaw12.TypesSelf', WHERE WHAT IT READS IS OF BULK AT MOST 1048576: true; the input reads as it did. -/
def typesSelfUptoRow : OpenClaim := { program := "ytlpmnnkijdbopaa", sum := "45822436ddf53aa7b13ec404a26c8c0987953a6cd2b3cb8faaf81e51836c4dcb", func := "rubric/rubriclaw12.TypesSelf", spec := "typesSelf", unfollowed := true, recurses := true, loops := true, apart := false, narrowed := true }
def TypesSelfUptoSaid : Prop := typesSelfUptoRow.holds Try.pinned (OpenSpec.upto typesSelfSpec)

/-- 'rubriclaw12.TypesOverlaps', WHERE WHAT IT READS IS OF BULK AT MOST 1048576: true; the input reads as it did. -/
def typesOverlapsUptoRow : OpenClaim := { program := "ytlpmnnkijdbopaa", sum := "45822436ddf53aa7b13ec404a26c8c0987953a6cd2b3cb8faaf81e51836c4dcb", func := "rubric/rubriclaw12.TypesOverlaps", spec := "typesOverlaps", unfollowed := true, recurses := true, loops := true, apart := false, narrowed := true }
def TypesOverlapsUptoSaid : Prop := typesOverlapsUptoRow.holds Try.pinned (OpenSpec.upto typesOverlapsSpec)

/-- 'rubriclaw12.TypesOwn', WHERE WHAT IT READS IS OF BULK AT MOST 1048576: true; the input reads as it did. -/
def typesOwnUptoRow : OpenClaim := { program := "ytlpmnnkijdbopaa", sum := "45822436ddf53aa7b13ec404a26c8c0987953a6cd2b3cb8faaf81e51836c4dcb", func := "rubric/rubriclaw12.TypesOwn", spec := "typesOwn", unfollowed := true, recurses := true, loops := true, apart := false, narrowed := true }
def TypesOwnUptoSaid : Prop := typesOwnUptoRow.holds Try.pinned (OpenSpec.upto typesOwnSpec)

end Rows
end Go.Proofs.Ytlpmnnkijdbopaa
