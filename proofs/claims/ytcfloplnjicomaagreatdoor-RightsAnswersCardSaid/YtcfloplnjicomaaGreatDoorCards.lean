/-
  DERIVED. GIVEN WITH THE SEED: THE CARDS: each row of YtcfloplnjicomaaGreatDoorRows.lean that lists a variable, with what it lists TIED to the program's text (the seventh form; the later family's looks); each row that meets fmt, with fmt's text TOLD by the authors' own Lean function (tested against real Go, not proved from fmt's source: count such statements apart). THE CARD IS WHAT COUNTS. Prove the row's statement (the work); the ties are given (YtcfloplnjicomaaGreatDoorTie.lean); close each card by the builder's one call (the guide's Derived/Test/ToyasCard.lean, 'card_holds'). Laid BY PROGRAM, IN A SANDBOX (cutbox-door.mjs). By AI agents, Wed Nov 11 2026. No macro, syntax, notation, axiom, sorry.
-/
import Derived.Test.YtcfloplnjicomaaGreatDoorRows
import GoSem.ClaimSeven
namespace Go.Proofs.YtcfloplnjicomaaGreatDoor
namespace Rows

/-- THE TIED CARD OF 'treasurylaw13.RightsAnswers'. -/
def rightsAnswersCard : Claim7 := { stood := { row := rightsAnswersRow, standIns := [], harness := (true, "944e9aafcc08cdfd96afe3014fcbfd3bcfb939c31284099224a09c23c788405d"), looks := true }, kinds := [], alts := [], laidByText := true, laidKinds := [.data, .data, .data, .data, .sentinel, .sentinel, .pinned], laidTests := true, laidLooks := .later }
def RightsAnswersCardSaid : Prop := Claim7.holds Tryz.pinned (.plain (OpenSpec.ofChange rightsAnswersSpec)) rightsAnswersCard

/-- THE SECOND FORM's CARD OF 'treasurylaw13.RightsAnswers'. -/
def rightsAnswersUptoCard : Claim7 := { stood := { row := rightsAnswersUptoRow, standIns := [], harness := (true, "944e9aafcc08cdfd96afe3014fcbfd3bcfb939c31284099224a09c23c788405d"), looks := true }, kinds := [], alts := [], laidByText := true, laidKinds := [.data, .data, .data, .data, .sentinel, .sentinel, .pinned], laidTests := true, laidLooks := .later }
def RightsAnswersUptoCardSaid : Prop := Claim7.holds Tryz.pinned (.plain (OpenSpec.upto rightsAnswersSpec)) rightsAnswersUptoCard
end Rows
end Go.Proofs.YtcfloplnjicomaaGreatDoor
