/-
  No cell of these rows narrows 'for every input' (looked for: loops, veiled, ifaces, maps, wideKeys, modest, calm, conditions, laid).
  DERIVED. THE GIVEN ROWS OF THIS SEAT. 6 by the template 'for every input the law returns true; each argument reads behind the call as it read before'; 0 by the template 'total and deterministic' (their statements: YtmeilpehlkpofaaTotals.lean).
  GIVEN WITH THE SEED: the statements are not yours to turn. If you find one false, say at which input.
  Laid BY PROGRAM, IN A SANDBOX (cutbox-rows.mjs): the forced cells as the released guide's own fill.sh prints them over the translation 42b80d3762c3969e… (all of the seat's roots in one cut). By AI agents, Wed Nov 11 2026. No macro, syntax, notation, axiom, sorry.
-/
import Derived.Test.YtmeilpehlkpofaaChecked
import GoSem.Claim
import GoSem.ClaimJoined
import GoSem.ClaimMapViews
import Derived.JoinedTies
import Derived.KernelRfl
namespace Go.Proofs.Ytmeilpehlkpofaa
/- THE CELL 'sum', in the pinned program and in every row, IS THE sha256 OF THE DUMP (.gsa) THAT YtmeilpehlkpofaaProg.lean LOADS. Nothing in Lean hashes anything: it is a label: what it is worth is what the hold of that sum in a sandbox is worth. -/
noncomputable def Try.pinned : Pinned := { name := "ytmeilpehlkpofaa", sum := "42b80d3762c3969eeb8f2d5438e4fd375547dcfe1cb34346fa55fa95c8e12a27", checked := Try.checked }
namespace Rows
def none {H : Type} : Left H := { results := [], args := [] }

/-- 'rubriclaw01.DigestSums': WHATEVER THE INPUT: true; the input reads as it did. -/
def digestSumsSpec : ChangeSpec := { name := "digestSums", fn := fun _ => fun
  | [d] => { results := [.lit (.bool true)], args := [d] }
  | _ => none }
def digestSumsRow : OpenClaim := { program := "ytmeilpehlkpofaa", sum := "42b80d3762c3969eeb8f2d5438e4fd375547dcfe1cb34346fa55fa95c8e12a27", func := "rubric/rubriclaw01.DigestSums", spec := "digestSums", apart := false }
def DigestSumsSaid : Prop := digestSumsRow.holds Try.pinned (OpenSpec.ofChange digestSumsSpec)

/-- ITS FALSE NEIGHBOUR: 'it returns false'. Refute it at one input. -/
def digestSumsWrong : ChangeSpec := { name := "digestSums", fn := fun _ => fun
  | [d] => { results := [.lit (.bool false)], args := [d] }
  | _ => none }
def DigestSumsWrongFalsely : Prop := digestSumsRow.holds Try.pinned (OpenSpec.ofChange digestSumsWrong)

/-- 'rubriclaw01.DigestJoins': WHATEVER THE INPUT: true; the input reads as it did. -/
def digestJoinsSpec : ChangeSpec := { name := "digestJoins", fn := fun _ => fun
  | [d] => { results := [.lit (.bool true)], args := [d] }
  | _ => none }
def digestJoinsRow : OpenClaim := { program := "ytmeilpehlkpofaa", sum := "42b80d3762c3969eeb8f2d5438e4fd375547dcfe1cb34346fa55fa95c8e12a27", func := "rubric/rubriclaw01.DigestJoins", spec := "digestJoins", apart := false }
def DigestJoinsSaid : Prop := digestJoinsRow.holds Try.pinned (OpenSpec.ofChange digestJoinsSpec)

/-- ITS FALSE NEIGHBOUR: 'it returns false'. Refute it at one input. -/
def digestJoinsWrong : ChangeSpec := { name := "digestJoins", fn := fun _ => fun
  | [d] => { results := [.lit (.bool false)], args := [d] }
  | _ => none }
def DigestJoinsWrongFalsely : Prop := digestJoinsRow.holds Try.pinned (OpenSpec.ofChange digestJoinsWrong)

/-- 'rubriclaw01.DigestEnds': WHATEVER THE INPUT: true; the input reads as it did. -/
def digestEndsSpec : ChangeSpec := { name := "digestEnds", fn := fun _ => fun
  | [d1, d2] => { results := [.lit (.bool true)], args := [d1, d2] }
  | _ => none }
def digestEndsRow : OpenClaim := { program := "ytmeilpehlkpofaa", sum := "42b80d3762c3969eeb8f2d5438e4fd375547dcfe1cb34346fa55fa95c8e12a27", func := "rubric/rubriclaw01.DigestEnds", spec := "digestEnds", apart := false }
def DigestEndsSaid : Prop := digestEndsRow.holds Try.pinned (OpenSpec.ofChange digestEndsSpec)

/-- ITS FALSE NEIGHBOUR: 'it returns false'. Refute it at one input. -/
def digestEndsWrong : ChangeSpec := { name := "digestEnds", fn := fun _ => fun
  | [d1, d2] => { results := [.lit (.bool false)], args := [d1, d2] }
  | _ => none }
def DigestEndsWrongFalsely : Prop := digestEndsRow.holds Try.pinned (OpenSpec.ofChange digestEndsWrong)

/-- 'rubriclaw01.DigestOrders': WHATEVER THE INPUT: true; the input reads as it did. -/
def digestOrdersSpec : ChangeSpec := { name := "digestOrders", fn := fun _ => fun
  | [d1, d2, d3] => { results := [.lit (.bool true)], args := [d1, d2, d3] }
  | _ => none }
def digestOrdersRow : OpenClaim := { program := "ytmeilpehlkpofaa", sum := "42b80d3762c3969eeb8f2d5438e4fd375547dcfe1cb34346fa55fa95c8e12a27", func := "rubric/rubriclaw01.DigestOrders", spec := "digestOrders", inPlace := ["internal/bytealg.Compare"], apart := false }
def DigestOrdersSaid : Prop := digestOrdersRow.holds Try.pinned (OpenSpec.ofChange digestOrdersSpec)

/-- ITS FALSE NEIGHBOUR: 'it returns false'. Refute it at one input. -/
def digestOrdersWrong : ChangeSpec := { name := "digestOrders", fn := fun _ => fun
  | [d1, d2, d3] => { results := [.lit (.bool false)], args := [d1, d2, d3] }
  | _ => none }
def DigestOrdersWrongFalsely : Prop := digestOrdersRow.holds Try.pinned (OpenSpec.ofChange digestOrdersWrong)

/-- 'rubriclaw01.DigestTexts': WHATEVER THE INPUT: true; the input reads as it did. -/
def digestTextsSpec : ChangeSpec := { name := "digestTexts", fn := fun _ => fun
  | [d] => { results := [.lit (.bool true)], args := [d] }
  | _ => none }
def digestTextsRow : OpenClaim := { program := "ytmeilpehlkpofaa", sum := "42b80d3762c3969eeb8f2d5438e4fd375547dcfe1cb34346fa55fa95c8e12a27", func := "rubric/rubriclaw01.DigestTexts", spec := "digestTexts", inPlace := ["internal/bytealg.IndexByte"], apart := false }
def DigestTextsSaid : Prop := digestTextsRow.holds Try.pinned (OpenSpec.ofChange digestTextsSpec)

/-- ITS FALSE NEIGHBOUR: 'it returns false'. Refute it at one input. -/
def digestTextsWrong : ChangeSpec := { name := "digestTexts", fn := fun _ => fun
  | [d] => { results := [.lit (.bool false)], args := [d] }
  | _ => none }
def DigestTextsWrongFalsely : Prop := digestTextsRow.holds Try.pinned (OpenSpec.ofChange digestTextsWrong)

/-- 'rubriclaw01.DigestParses': WHATEVER THE INPUT: true; the input reads as it did. -/
def digestParsesSpec : ChangeSpec := { name := "digestParses", fn := fun _ => fun
  | [d] => { results := [.lit (.bool true)], args := [d] }
  | _ => none }
def digestParsesRow : OpenClaim := { program := "ytmeilpehlkpofaa", sum := "42b80d3762c3969eeb8f2d5438e4fd375547dcfe1cb34346fa55fa95c8e12a27", func := "rubric/rubriclaw01.DigestParses", spec := "digestParses", inPlace := ["internal/bytealg.IndexByte"], apart := false }
def DigestParsesSaid : Prop := digestParsesRow.holds Try.pinned (OpenSpec.ofChange digestParsesSpec)

/-- ITS FALSE NEIGHBOUR: 'it returns false'. Refute it at one input. -/
def digestParsesWrong : ChangeSpec := { name := "digestParses", fn := fun _ => fun
  | [d] => { results := [.lit (.bool false)], args := [d] }
  | _ => none }
def DigestParsesWrongFalsely : Prop := digestParsesRow.holds Try.pinned (OpenSpec.ofChange digestParsesWrong)

/- THE SECOND FORM. 'bulk': how many values and letters a reading holds, each counted each time it is reached (what is shared counts as often as it is met; a slice's spare places count too). A statement '..UptoSaid' is the law's where the arguments, and the package variables that the reading takes, are together of bulk at most 1048576: NARROWER than '..Said'. Prove '..Said' where nothing that the law and all that it calls make is longer than what came in: it says more and counts as full. Else prove '..UptoSaid'. A law counts once. -/
mutual
def uptoBulk {H : Type} : DataW H → Nat
  | .lit (.string bytes) => bytes.length + 1
  | .lit _ => 1
  | .nil => 1
  | .ptr d => uptoBulk d + 1
  | .slice elems spare => uptoBulkAll elems + uptoBulkAll spare + 1
  | .agg parts => uptoBulkAll parts + 1
  | .iface _ d => uptoBulk d + 1
  | .map entries => uptoBulkEntries entries + 1
  | .held _ => 1
def uptoBulkAll {H : Type} : List (DataW H) → Nat
  | [] => 0
  | d :: r => uptoBulk d + uptoBulkAll r
def uptoBulkEntries {H : Type} : List (Lit × DataW H) → Nat
  | [] => 0
  | x :: r => uptoBulkEntry x + uptoBulkEntries r
def uptoBulkEntry {H : Type} : Lit × DataW H → Nat
  | (.string bytes, d) => bytes.length + uptoBulk d + 1
  | (_, d) => uptoBulk d + 1
 end
def uptoSmall : (H : Type) → List (DataW H) → Bool := fun _ ds => decide (uptoBulkAll ds ≤ 1048576)
def OpenSpec.upto (s : _root_.Go.ChangeSpec) : _root_.Go.OpenSpec := { _root_.Go.OpenSpec.ofChange s with cond := some uptoSmall }

/-- 'rubriclaw01.DigestSums', WHERE WHAT IT READS IS OF BULK AT MOST 1048576: true; the input reads as it did. -/
def digestSumsUptoRow : OpenClaim := { program := "ytmeilpehlkpofaa", sum := "42b80d3762c3969eeb8f2d5438e4fd375547dcfe1cb34346fa55fa95c8e12a27", func := "rubric/rubriclaw01.DigestSums", spec := "digestSums", apart := false, narrowed := true }
def DigestSumsUptoSaid : Prop := digestSumsUptoRow.holds Try.pinned (OpenSpec.upto digestSumsSpec)

/-- 'rubriclaw01.DigestJoins', WHERE WHAT IT READS IS OF BULK AT MOST 1048576: true; the input reads as it did. -/
def digestJoinsUptoRow : OpenClaim := { program := "ytmeilpehlkpofaa", sum := "42b80d3762c3969eeb8f2d5438e4fd375547dcfe1cb34346fa55fa95c8e12a27", func := "rubric/rubriclaw01.DigestJoins", spec := "digestJoins", apart := false, narrowed := true }
def DigestJoinsUptoSaid : Prop := digestJoinsUptoRow.holds Try.pinned (OpenSpec.upto digestJoinsSpec)

/-- 'rubriclaw01.DigestEnds', WHERE WHAT IT READS IS OF BULK AT MOST 1048576: true; the input reads as it did. -/
def digestEndsUptoRow : OpenClaim := { program := "ytmeilpehlkpofaa", sum := "42b80d3762c3969eeb8f2d5438e4fd375547dcfe1cb34346fa55fa95c8e12a27", func := "rubric/rubriclaw01.DigestEnds", spec := "digestEnds", apart := false, narrowed := true }
def DigestEndsUptoSaid : Prop := digestEndsUptoRow.holds Try.pinned (OpenSpec.upto digestEndsSpec)

/-- 'rubriclaw01.DigestOrders', WHERE WHAT IT READS IS OF BULK AT MOST 1048576: true; the input reads as it did. -/
def digestOrdersUptoRow : OpenClaim := { program := "ytmeilpehlkpofaa", sum := "42b80d3762c3969eeb8f2d5438e4fd375547dcfe1cb34346fa55fa95c8e12a27", func := "rubric/rubriclaw01.DigestOrders", spec := "digestOrders", inPlace := ["internal/bytealg.Compare"], apart := false, narrowed := true }
def DigestOrdersUptoSaid : Prop := digestOrdersUptoRow.holds Try.pinned (OpenSpec.upto digestOrdersSpec)

/-- 'rubriclaw01.DigestTexts', WHERE WHAT IT READS IS OF BULK AT MOST 1048576: true; the input reads as it did. -/
def digestTextsUptoRow : OpenClaim := { program := "ytmeilpehlkpofaa", sum := "42b80d3762c3969eeb8f2d5438e4fd375547dcfe1cb34346fa55fa95c8e12a27", func := "rubric/rubriclaw01.DigestTexts", spec := "digestTexts", inPlace := ["internal/bytealg.IndexByte"], apart := false, narrowed := true }
def DigestTextsUptoSaid : Prop := digestTextsUptoRow.holds Try.pinned (OpenSpec.upto digestTextsSpec)

/-- 'rubriclaw01.DigestParses', WHERE WHAT IT READS IS OF BULK AT MOST 1048576: true; the input reads as it did. -/
def digestParsesUptoRow : OpenClaim := { program := "ytmeilpehlkpofaa", sum := "42b80d3762c3969eeb8f2d5438e4fd375547dcfe1cb34346fa55fa95c8e12a27", func := "rubric/rubriclaw01.DigestParses", spec := "digestParses", inPlace := ["internal/bytealg.IndexByte"], apart := false, narrowed := true }
def DigestParsesUptoSaid : Prop := digestParsesUptoRow.holds Try.pinned (OpenSpec.upto digestParsesSpec)

end Rows
end Go.Proofs.Ytmeilpehlkpofaa
