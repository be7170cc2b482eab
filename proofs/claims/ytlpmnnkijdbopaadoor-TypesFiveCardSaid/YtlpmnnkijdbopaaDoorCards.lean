/-
  DERIVED. GIVEN WITH THE SEED: THE CARDS: each row of YtlpmnnkijdbopaaDoorRows.lean that lists a variable, with what it lists TIED to the program's text (the seventh form; the later family's looks); each row that meets fmt, with fmt's text TOLD by the authors' own Lean function (tested against real Go, not proved from fmt's source: count such statements apart). THE CARD IS WHAT COUNTS. Prove the row's statement (the work); the ties are given (YtlpmnnkijdbopaaDoorTie.lean); close each card by the builder's one call (the guide's Derived/Test/ToyasCard.lean, 'card_holds'). Laid BY PROGRAM, IN A SANDBOX (cutbox-door.mjs). By AI agents, Wed Nov 11 2026. No macro, syntax, notation, axiom, sorry.
-/
import Derived.Test.YtlpmnnkijdbopaaDoorRows
import GoSem.ClaimSeven
namespace Go.Proofs.YtlpmnnkijdbopaaDoor
namespace Rows

/-- THE TIED CARD OF 'rubriclaw12.TypesFive'. -/
def typesFiveCard : Claim7 := { stood := { row := typesFiveRow, standIns := [], harness := (true, "97f4f458c57be33130d529f2b85eae61ebb35beaa28b0bbaa9b1e213aed63c13"), looks := false }, kinds := [], alts := [], laidByText := true, laidKinds := [.data, .pinned], laidTests := true, laidLooks := .later }
def TypesFiveCardSaid : Prop := Claim7.holds Tryd.pinned (.plain (OpenSpec.ofChange typesFiveSpec)) typesFiveCard

/-- THE SECOND FORM's CARD OF 'rubriclaw12.TypesFive'. -/
def typesFiveUptoCard : Claim7 := { stood := { row := typesFiveUptoRow, standIns := [], harness := (true, "97f4f458c57be33130d529f2b85eae61ebb35beaa28b0bbaa9b1e213aed63c13"), looks := false }, kinds := [], alts := [], laidByText := true, laidKinds := [.data, .pinned], laidTests := true, laidLooks := .later }
def TypesFiveUptoCardSaid : Prop := Claim7.holds Tryd.pinned (.plain (OpenSpec.upto typesFiveSpec)) typesFiveUptoCard
end Rows
end Go.Proofs.YtlpmnnkijdbopaaDoor
