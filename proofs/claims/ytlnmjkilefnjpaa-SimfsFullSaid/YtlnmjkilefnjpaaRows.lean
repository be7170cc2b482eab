/-
  No cell of these rows narrows 'for every input' (looked for: loops, veiled, ifaces, maps, wideKeys, modest, calm, conditions, laid).
  DERIVED. THE GIVEN ROWS OF THIS SEAT. 5 by the template 'for every input the law returns true; each argument reads behind the call as it read before'; 0 by the template 'total and deterministic' (their statements: YtlnmjkilefnjpaaTotals.lean).
  GIVEN WITH THE SEED: the statements are not yours to turn. If you find one false, say at which input.
  Laid BY PROGRAM, IN A SANDBOX (cutbox-rows.mjs): the forced cells as the released guide's own fill.sh prints them over the translation 0f2fe4d8b3c3a065… (all of the seat's roots in one cut). By AI agents, Wed Nov 11 2026. No macro, syntax, notation, axiom, sorry.
-/
import Derived.Test.YtlnmjkilefnjpaaChecked
import GoSem.Claim
import GoSem.ClaimJoined
import GoSem.ClaimMapViews
import Derived.JoinedTies
import Derived.KernelRfl
namespace Go.Proofs.Ytlnmjkilefnjpaa
/- THE CELL 'sum', in the pinned program and in every row, IS THE sha256 OF THE DUMP (.gsa) THAT YtlnmjkilefnjpaaProg.lean LOADS. Nothing in Lean hashes anything: it is a label: what it is worth is what the hold of that sum in a sandbox is worth. -/
noncomputable def Try.pinned : Pinned := { name := "ytlnmjkilefnjpaa", sum := "0f2fe4d8b3c3a065c75279936243b828aeb70c40f432df6e2521c69ffa482e2a", checked := Try.checked }
namespace Rows
def none {H : Type} : Left H := { results := [], args := [] }

/-- 'rubriclaw02.SimfsFull': WHATEVER THE INPUT: true; the input reads as it did. -/
def simfsFullSpec : ChangeSpec := { name := "simfsFull", fn := fun _ => fun
  | [d1, d2] => { results := [.lit (.bool true)], args := [d1, d2] }
  | _ => none }
def simfsFullRow : OpenClaim := { program := "ytlnmjkilefnjpaa", sum := "0f2fe4d8b3c3a065c75279936243b828aeb70c40f432df6e2521c69ffa482e2a", func := "rubric/rubriclaw02.SimfsFull", spec := "simfsFull", inPlace := ["maps.clone"], unfollowed := true, recurses := true, apart := false }
def SimfsFullSaid : Prop := simfsFullRow.holds Try.pinned (OpenSpec.ofChange simfsFullSpec)

/-- ITS FALSE NEIGHBOUR: 'it returns false'. Refute it at one input. -/
def simfsFullWrong : ChangeSpec := { name := "simfsFull", fn := fun _ => fun
  | [d1, d2] => { results := [.lit (.bool false)], args := [d1, d2] }
  | _ => none }
def SimfsFullWrongFalsely : Prop := simfsFullRow.holds Try.pinned (OpenSpec.ofChange simfsFullWrong)

/-- 'rubriclaw02.SimfsSure': WHATEVER THE INPUT: true; the input reads as it did. -/
def simfsSureSpec : ChangeSpec := { name := "simfsSure", fn := fun _ => fun
  | [d1, d2, d3] => { results := [.lit (.bool true)], args := [d1, d2, d3] }
  | _ => none }
def simfsSureRow : OpenClaim := { program := "ytlnmjkilefnjpaa", sum := "0f2fe4d8b3c3a065c75279936243b828aeb70c40f432df6e2521c69ffa482e2a", func := "rubric/rubriclaw02.SimfsSure", spec := "simfsSure", inPlace := ["maps.clone"], unfollowed := true, recurses := true, apart := false }
def SimfsSureSaid : Prop := simfsSureRow.holds Try.pinned (OpenSpec.ofChange simfsSureSpec)

/-- ITS FALSE NEIGHBOUR: 'it returns false'. Refute it at one input. -/
def simfsSureWrong : ChangeSpec := { name := "simfsSure", fn := fun _ => fun
  | [d1, d2, d3] => { results := [.lit (.bool false)], args := [d1, d2, d3] }
  | _ => none }
def SimfsSureWrongFalsely : Prop := simfsSureRow.holds Try.pinned (OpenSpec.ofChange simfsSureWrong)

/-- 'rubriclaw02.SimfsSwaps': WHATEVER THE INPUT: true; the input reads as it did. -/
def simfsSwapsSpec : ChangeSpec := { name := "simfsSwaps", fn := fun _ => fun
  | [d1, d2, d3] => { results := [.lit (.bool true)], args := [d1, d2, d3] }
  | _ => none }
def simfsSwapsRow : OpenClaim := { program := "ytlnmjkilefnjpaa", sum := "0f2fe4d8b3c3a065c75279936243b828aeb70c40f432df6e2521c69ffa482e2a", func := "rubric/rubriclaw02.SimfsSwaps", spec := "simfsSwaps", inPlace := ["maps.clone"], unfollowed := true, recurses := true, apart := false }
def SimfsSwapsSaid : Prop := simfsSwapsRow.holds Try.pinned (OpenSpec.ofChange simfsSwapsSpec)

/-- ITS FALSE NEIGHBOUR: 'it returns false'. Refute it at one input. -/
def simfsSwapsWrong : ChangeSpec := { name := "simfsSwaps", fn := fun _ => fun
  | [d1, d2, d3] => { results := [.lit (.bool false)], args := [d1, d2, d3] }
  | _ => none }
def SimfsSwapsWrongFalsely : Prop := simfsSwapsRow.holds Try.pinned (OpenSpec.ofChange simfsSwapsWrong)

/-- 'rubriclaw02.SimfsNames': WHATEVER THE INPUT: true; the input reads as it did. -/
def simfsNamesSpec : ChangeSpec := { name := "simfsNames", fn := fun _ => fun
  | [d] => { results := [.lit (.bool true)], args := [d] }
  | _ => none }
def simfsNamesRow : OpenClaim := { program := "ytlnmjkilefnjpaa", sum := "0f2fe4d8b3c3a065c75279936243b828aeb70c40f432df6e2521c69ffa482e2a", func := "rubric/rubriclaw02.SimfsNames", spec := "simfsNames", inPlace := ["maps.clone"], unfollowed := true, recurses := true, apart := false }
def SimfsNamesSaid : Prop := simfsNamesRow.holds Try.pinned (OpenSpec.ofChange simfsNamesSpec)

/-- ITS FALSE NEIGHBOUR: 'it returns false'. Refute it at one input. -/
def simfsNamesWrong : ChangeSpec := { name := "simfsNames", fn := fun _ => fun
  | [d] => { results := [.lit (.bool false)], args := [d] }
  | _ => none }
def SimfsNamesWrongFalsely : Prop := simfsNamesRow.holds Try.pinned (OpenSpec.ofChange simfsNamesWrong)

/-- 'rubriclaw02.SimfsDead': WHATEVER THE INPUT: true; the input reads as it did. -/
def simfsDeadSpec : ChangeSpec := { name := "simfsDead", fn := fun _ => fun
  | [d1, d2] => { results := [.lit (.bool true)], args := [d1, d2] }
  | _ => none }
def simfsDeadRow : OpenClaim := { program := "ytlnmjkilefnjpaa", sum := "0f2fe4d8b3c3a065c75279936243b828aeb70c40f432df6e2521c69ffa482e2a", func := "rubric/rubriclaw02.SimfsDead", spec := "simfsDead", inPlace := ["maps.clone"], unfollowed := true, recurses := true, apart := false }
def SimfsDeadSaid : Prop := simfsDeadRow.holds Try.pinned (OpenSpec.ofChange simfsDeadSpec)

/-- ITS FALSE NEIGHBOUR: 'it returns false'. Refute it at one input. -/
def simfsDeadWrong : ChangeSpec := { name := "simfsDead", fn := fun _ => fun
  | [d1, d2] => { results := [.lit (.bool false)], args := [d1, d2] }
  | _ => none }
def SimfsDeadWrongFalsely : Prop := simfsDeadRow.holds Try.pinned (OpenSpec.ofChange simfsDeadWrong)

/- THE SECOND FORM. 'bulk': how many values and letters a reading holds, each counted each time it is reached (what is shared counts as often as it is met; a slice's spare places count too). A statement '..UptoSaid' is the law's where the arguments, and the package variables that the reading takes, are together of bulk at most 1048576: NARROWER than '..Said'. Prove '..Said' where nothing that the law and all that it calls make is longer than what came in: it says more and counts as full. Else prove '..UptoSaid'. A law counts once. -/
mutual
def uptoBulk {H : Type} : DataW H → Nat
  | .lit (.string bytes) => bytes.length + 1
  | .lit _ => 1
  | .nil => 1
  | .ptr d => uptoBulk d + 1
  | .slice elems spare => uptoBulkAll elems + uptoBulkAll spare + 1
  | .agg parts => uptoBulkAll parts + 1
  | .iface _ d => uptoBulk d + 1
  | .map entries => uptoBulkEntries entries + 1
  | .held _ => 1
def uptoBulkAll {H : Type} : List (DataW H) → Nat
  | [] => 0
  | d :: r => uptoBulk d + uptoBulkAll r
def uptoBulkEntries {H : Type} : List (Lit × DataW H) → Nat
  | [] => 0
  | x :: r => uptoBulkEntry x + uptoBulkEntries r
def uptoBulkEntry {H : Type} : Lit × DataW H → Nat
  | (.string bytes, d) => bytes.length + uptoBulk d + 1
  | (_, d) => uptoBulk d + 1
 end
def uptoSmall : (H : Type) → List (DataW H) → Bool := fun _ ds => decide (uptoBulkAll ds ≤ 1048576)
def OpenSpec.upto (s : _root_.Go.ChangeSpec) : _root_.Go.OpenSpec := { _root_.Go.OpenSpec.ofChange s with cond := some uptoSmall }

/-- 'rubriclaw02.SimfsFull', WHERE WHAT IT READS IS OF BULK AT MOST 1048576: true; the input reads as it did. -/
def simfsFullUptoRow : OpenClaim := { program := "ytlnmjkilefnjpaa", sum := "0f2fe4d8b3c3a065c75279936243b828aeb70c40f432df6e2521c69ffa482e2a", func := "rubric/rubriclaw02.SimfsFull", spec := "simfsFull", inPlace := ["maps.clone"], unfollowed := true, recurses := true, apart := false, narrowed := true }
def SimfsFullUptoSaid : Prop := simfsFullUptoRow.holds Try.pinned (OpenSpec.upto simfsFullSpec)

/-- 'rubriclaw02.SimfsSure', WHERE WHAT IT READS IS OF BULK AT MOST 1048576: true; the input reads as it did. -/
def simfsSureUptoRow : OpenClaim := { program := "ytlnmjkilefnjpaa", sum := "0f2fe4d8b3c3a065c75279936243b828aeb70c40f432df6e2521c69ffa482e2a", func := "rubric/rubriclaw02.SimfsSure", spec := "simfsSure", inPlace := ["maps.clone"], unfollowed := true, recurses := true, apart := false, narrowed := true }
def SimfsSureUptoSaid : Prop := simfsSureUptoRow.holds Try.pinned (OpenSpec.upto simfsSureSpec)

/-- 'rubriclaw02.SimfsSwaps', WHERE WHAT IT READS IS OF BULK AT MOST 1048576: true; the input reads as it did. -/
def simfsSwapsUptoRow : OpenClaim := { program := "ytlnmjkilefnjpaa", sum := "0f2fe4d8b3c3a065c75279936243b828aeb70c40f432df6e2521c69ffa482e2a", func := "rubric/rubriclaw02.SimfsSwaps", spec := "simfsSwaps", inPlace := ["maps.clone"], unfollowed := true, recurses := true, apart := false, narrowed := true }
def SimfsSwapsUptoSaid : Prop := simfsSwapsUptoRow.holds Try.pinned (OpenSpec.upto simfsSwapsSpec)

/-- 'rubriclaw02.SimfsNames', WHERE WHAT IT READS IS OF BULK AT MOST 1048576: true; the input reads as it did. -/
def simfsNamesUptoRow : OpenClaim := { program := "ytlnmjkilefnjpaa", sum := "0f2fe4d8b3c3a065c75279936243b828aeb70c40f432df6e2521c69ffa482e2a", func := "rubric/rubriclaw02.SimfsNames", spec := "simfsNames", inPlace := ["maps.clone"], unfollowed := true, recurses := true, apart := false, narrowed := true }
def SimfsNamesUptoSaid : Prop := simfsNamesUptoRow.holds Try.pinned (OpenSpec.upto simfsNamesSpec)

/-- 'rubriclaw02.SimfsDead', WHERE WHAT IT READS IS OF BULK AT MOST 1048576: true; the input reads as it did. -/
def simfsDeadUptoRow : OpenClaim := { program := "ytlnmjkilefnjpaa", sum := "0f2fe4d8b3c3a065c75279936243b828aeb70c40f432df6e2521c69ffa482e2a", func := "rubric/rubriclaw02.SimfsDead", spec := "simfsDead", inPlace := ["maps.clone"], unfollowed := true, recurses := true, apart := false, narrowed := true }
def SimfsDeadUptoSaid : Prop := simfsDeadUptoRow.holds Try.pinned (OpenSpec.upto simfsDeadSpec)

end Rows
end Go.Proofs.Ytlnmjkilefnjpaa
