/-
  DERIVED. GIVEN WITH THE SEED: THE CARDS: each row of YtgfgnhpecnmlpaaGreatDoorRows.lean that lists a variable, with what it lists TIED to the program's text (the seventh form; the later family's looks); each row that meets fmt, with fmt's text TOLD by the authors' own Lean function (tested against real Go, not proved from fmt's source: count such statements apart). THE CARD IS WHAT COUNTS. Prove the row's statement (the work); the ties are given (YtgfgnhpecnmlpaaGreatDoorTie.lean); close each card by the builder's one call (the guide's Derived/Test/ToyasCard.lean, 'card_holds'). Laid BY PROGRAM, IN A SANDBOX (cutbox-door.mjs). By AI agents, Wed Nov 11 2026. No macro, syntax, notation, axiom, sorry.
-/
import Derived.Test.YtgfgnhpecnmlpaaGreatDoorRows
import GoSem.ClaimSeven
namespace Go.Proofs.YtgfgnhpecnmlpaaGreatDoor
namespace Rows

/-- THE TIED CARD OF 'treasurylaw06.AmendmentLater'. -/
def amendmentLaterCard : Claim7 := { stood := { row := amendmentLaterRow, standIns := [], harness := (true, "0287bc527245fd2f9c59a121d23da4b8c7d2838656652f99d6ce990fec4256ba"), looks := true }, kinds := [], alts := [], laidByText := true, laidKinds := [.data, .data, .data, .data, .sentinel, .sentinel, .pinned], laidTests := true, laidLooks := .later }
def AmendmentLaterCardSaid : Prop := Claim7.holds Tryz.pinned (.plain (OpenSpec.ofChange amendmentLaterSpec)) amendmentLaterCard

/-- THE TIED CARD OF 'treasurylaw06.AmendmentSets'. -/
def amendmentSetsCard : Claim7 := { stood := { row := amendmentSetsRow, standIns := [], harness := (true, "0287bc527245fd2f9c59a121d23da4b8c7d2838656652f99d6ce990fec4256ba"), looks := true }, kinds := [], alts := [], laidByText := true, laidKinds := [.data, .data, .data, .data, .sentinel, .sentinel, .pinned], laidTests := true, laidLooks := .later }
def AmendmentSetsCardSaid : Prop := Claim7.holds Tryz.pinned (.plain (OpenSpec.ofChange amendmentSetsSpec)) amendmentSetsCard

/-- THE TIED CARD OF 'treasurylaw06.AmendmentOrder'. -/
def amendmentOrderCard : Claim7 := { stood := { row := amendmentOrderRow, standIns := [], harness := (true, "0287bc527245fd2f9c59a121d23da4b8c7d2838656652f99d6ce990fec4256ba"), looks := true }, kinds := [], alts := [], laidByText := true, laidKinds := [.data, .data, .data, .data, .sentinel, .sentinel, .pinned], laidTests := true, laidLooks := .later }
def AmendmentOrderCardSaid : Prop := Claim7.holds Tryz.pinned (.plain (OpenSpec.ofChange amendmentOrderSpec)) amendmentOrderCard

/-- THE TIED CARD OF 'treasurylaw06.AmendmentDifference'. -/
def amendmentDifferenceCard : Claim7 := { stood := { row := amendmentDifferenceRow, standIns := [], harness := (true, "0287bc527245fd2f9c59a121d23da4b8c7d2838656652f99d6ce990fec4256ba"), looks := true }, kinds := [], alts := [], laidByText := true, laidKinds := [.data, .data, .data, .data, .sentinel, .sentinel, .pinned], laidTests := true, laidLooks := .later }
def AmendmentDifferenceCardSaid : Prop := Claim7.holds Tryz.pinned (.plain (OpenSpec.ofChange amendmentDifferenceSpec)) amendmentDifferenceCard

/-- THE TIED CARD OF 'treasurylaw06.AmendmentAnswers'. -/
def amendmentAnswersCard : Claim7 := { stood := { row := amendmentAnswersRow, standIns := [], harness := (true, "0287bc527245fd2f9c59a121d23da4b8c7d2838656652f99d6ce990fec4256ba"), looks := true }, kinds := [], alts := [], laidByText := true, laidKinds := [.data, .data, .data, .data, .sentinel, .sentinel, .pinned], laidTests := true, laidLooks := .later }
def AmendmentAnswersCardSaid : Prop := Claim7.holds Tryz.pinned (.plain (OpenSpec.ofChange amendmentAnswersSpec)) amendmentAnswersCard

/-- THE SECOND FORM's CARD OF 'treasurylaw06.AmendmentLater'. -/
def amendmentLaterUptoCard : Claim7 := { stood := { row := amendmentLaterUptoRow, standIns := [], harness := (true, "0287bc527245fd2f9c59a121d23da4b8c7d2838656652f99d6ce990fec4256ba"), looks := true }, kinds := [], alts := [], laidByText := true, laidKinds := [.data, .data, .data, .data, .sentinel, .sentinel, .pinned], laidTests := true, laidLooks := .later }
def AmendmentLaterUptoCardSaid : Prop := Claim7.holds Tryz.pinned (.plain (OpenSpec.upto amendmentLaterSpec)) amendmentLaterUptoCard

/-- THE SECOND FORM's CARD OF 'treasurylaw06.AmendmentSets'. -/
def amendmentSetsUptoCard : Claim7 := { stood := { row := amendmentSetsUptoRow, standIns := [], harness := (true, "0287bc527245fd2f9c59a121d23da4b8c7d2838656652f99d6ce990fec4256ba"), looks := true }, kinds := [], alts := [], laidByText := true, laidKinds := [.data, .data, .data, .data, .sentinel, .sentinel, .pinned], laidTests := true, laidLooks := .later }
def AmendmentSetsUptoCardSaid : Prop := Claim7.holds Tryz.pinned (.plain (OpenSpec.upto amendmentSetsSpec)) amendmentSetsUptoCard

/-- THE SECOND FORM's CARD OF 'treasurylaw06.AmendmentOrder'. -/
def amendmentOrderUptoCard : Claim7 := { stood := { row := amendmentOrderUptoRow, standIns := [], harness := (true, "0287bc527245fd2f9c59a121d23da4b8c7d2838656652f99d6ce990fec4256ba"), looks := true }, kinds := [], alts := [], laidByText := true, laidKinds := [.data, .data, .data, .data, .sentinel, .sentinel, .pinned], laidTests := true, laidLooks := .later }
def AmendmentOrderUptoCardSaid : Prop := Claim7.holds Tryz.pinned (.plain (OpenSpec.upto amendmentOrderSpec)) amendmentOrderUptoCard

/-- THE SECOND FORM's CARD OF 'treasurylaw06.AmendmentDifference'. -/
def amendmentDifferenceUptoCard : Claim7 := { stood := { row := amendmentDifferenceUptoRow, standIns := [], harness := (true, "0287bc527245fd2f9c59a121d23da4b8c7d2838656652f99d6ce990fec4256ba"), looks := true }, kinds := [], alts := [], laidByText := true, laidKinds := [.data, .data, .data, .data, .sentinel, .sentinel, .pinned], laidTests := true, laidLooks := .later }
def AmendmentDifferenceUptoCardSaid : Prop := Claim7.holds Tryz.pinned (.plain (OpenSpec.upto amendmentDifferenceSpec)) amendmentDifferenceUptoCard

/-- THE SECOND FORM's CARD OF 'treasurylaw06.AmendmentAnswers'. -/
def amendmentAnswersUptoCard : Claim7 := { stood := { row := amendmentAnswersUptoRow, standIns := [], harness := (true, "0287bc527245fd2f9c59a121d23da4b8c7d2838656652f99d6ce990fec4256ba"), looks := true }, kinds := [], alts := [], laidByText := true, laidKinds := [.data, .data, .data, .data, .sentinel, .sentinel, .pinned], laidTests := true, laidLooks := .later }
def AmendmentAnswersUptoCardSaid : Prop := Claim7.holds Tryz.pinned (.plain (OpenSpec.upto amendmentAnswersSpec)) amendmentAnswersUptoCard
end Rows
end Go.Proofs.YtgfgnhpecnmlpaaGreatDoor
