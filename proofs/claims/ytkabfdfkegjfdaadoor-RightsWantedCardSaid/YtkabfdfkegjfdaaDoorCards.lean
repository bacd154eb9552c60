/-
  DERIVED. GIVEN WITH THE SEED: THE CARDS: each row of YtkabfdfkegjfdaaDoorRows.lean that lists a variable, with what it lists TIED to the program's text (the seventh form; the later family's looks); each row that meets fmt, with fmt's text TOLD by the authors' own Lean function (tested against real Go, not proved from fmt's source: count such statements apart). THE CARD IS WHAT COUNTS. Prove the row's statement (the work); the ties are given (YtkabfdfkegjfdaaDoorTie.lean); close each card by the builder's one call (the guide's Derived/Test/ToyasCard.lean, 'card_holds'). Laid BY PROGRAM, IN A SANDBOX (cutbox-door.mjs). By AI agents, Wed Nov 11 2026. No macro, syntax, notation, axiom, sorry.
-/
import Derived.Test.YtkabfdfkegjfdaaDoorRows
import GoSem.ClaimSeven
namespace Go.Proofs.YtkabfdfkegjfdaaDoor
namespace Rows

/-- THE TIED CARD OF 'treasurylaw13.RightsWanted'. -/
def rightsWantedCard : Claim7 := { stood := { row := rightsWantedRow, standIns := [], harness := (true, "0ad992b79bff5bd264bc55aaa65c4b477f994595150a02d7d273f3e4633acb7c"), looks := true }, kinds := [], alts := [], laidByText := true, laidKinds := [.data, .data, .data, .data, .sentinel, .sentinel, .pinned], laidTests := true, laidLooks := .later }
def RightsWantedCardSaid : Prop := Claim7.holds Tryd.pinned (.plain (OpenSpec.ofChange rightsWantedSpec)) rightsWantedCard

/-- THE SECOND FORM's CARD OF 'treasurylaw13.RightsWanted'. -/
def rightsWantedUptoCard : Claim7 := { stood := { row := rightsWantedUptoRow, standIns := [], harness := (true, "0ad992b79bff5bd264bc55aaa65c4b477f994595150a02d7d273f3e4633acb7c"), looks := true }, kinds := [], alts := [], laidByText := true, laidKinds := [.data, .data, .data, .data, .sentinel, .sentinel, .pinned], laidTests := true, laidLooks := .later }
def RightsWantedUptoCardSaid : Prop := Claim7.holds Tryd.pinned (.plain (OpenSpec.upto rightsWantedSpec)) rightsWantedUptoCard
end Rows
end Go.Proofs.YtkabfdfkegjfdaaDoor
