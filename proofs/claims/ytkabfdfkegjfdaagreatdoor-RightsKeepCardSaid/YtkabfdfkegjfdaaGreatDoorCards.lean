/-
  DERIVED. GIVEN WITH THE SEED: THE CARDS: each row of YtkabfdfkegjfdaaGreatDoorRows.lean that lists a variable, with what it lists TIED to the program's text (the seventh form; the later family's looks); each row that meets fmt, with fmt's text TOLD by the authors' own Lean function (tested against real Go, not proved from fmt's source: count such statements apart). THE CARD IS WHAT COUNTS. Prove the row's statement (the work); the ties are given (YtkabfdfkegjfdaaGreatDoorTie.lean); close each card by the builder's one call (the guide's Derived/Test/ToyasCard.lean, 'card_holds'). Laid BY PROGRAM, IN A SANDBOX (cutbox-door.mjs). By AI agents, Wed Nov 11 2026. No macro, syntax, notation, axiom, sorry.
-/
import Derived.Test.YtkabfdfkegjfdaaGreatDoorRows
import GoSem.ClaimSeven
namespace Go.Proofs.YtkabfdfkegjfdaaGreatDoor
namespace Rows

/-- THE TIED CARD OF 'treasurylaw13.RightsAnswers'. -/
def rightsAnswersCard : Claim7 := { stood := { row := rightsAnswersRow, standIns := [], harness := (true, "0c932dc0272e28ad20021d3e86b3f3fcd73fdda017bbc5155959587347686bbc"), looks := true }, kinds := [], alts := [], laidByText := true, laidKinds := [.data, .data, .data, .data, .sentinel, .sentinel, .pinned], laidTests := true, laidLooks := .later }
def RightsAnswersCardSaid : Prop := Claim7.holds Tryz.pinned (.plain (OpenSpec.ofChange rightsAnswersSpec)) rightsAnswersCard

/-- THE TIED CARD OF 'treasurylaw13.RightsGrant'. -/
def rightsGrantCard : Claim7 := { stood := { row := rightsGrantRow, standIns := [], harness := (true, "0c932dc0272e28ad20021d3e86b3f3fcd73fdda017bbc5155959587347686bbc"), looks := true }, kinds := [], alts := [], laidByText := true, laidKinds := [.data, .data, .data, .data, .sentinel, .sentinel, .pinned], laidTests := true, laidLooks := .later }
def RightsGrantCardSaid : Prop := Claim7.holds Tryz.pinned (.plain (OpenSpec.ofChange rightsGrantSpec)) rightsGrantCard

/-- THE TIED CARD OF 'treasurylaw13.RightsCounters'. -/
def rightsCountersCard : Claim7 := { stood := { row := rightsCountersRow, standIns := [], harness := (true, "0c932dc0272e28ad20021d3e86b3f3fcd73fdda017bbc5155959587347686bbc"), looks := true }, kinds := [], alts := [], laidByText := true, laidKinds := [.data, .data, .data, .data, .sentinel, .sentinel, .pinned], laidTests := true, laidLooks := .later }
def RightsCountersCardSaid : Prop := Claim7.holds Tryz.pinned (.plain (OpenSpec.ofChange rightsCountersSpec)) rightsCountersCard

/-- THE TIED CARD OF 'treasurylaw13.RightsKeep'. -/
def rightsKeepCard : Claim7 := { stood := { row := rightsKeepRow, standIns := [], harness := (true, "0c932dc0272e28ad20021d3e86b3f3fcd73fdda017bbc5155959587347686bbc"), looks := true }, kinds := [], alts := [], laidByText := true, laidKinds := [.data, .data, .data, .data, .sentinel, .sentinel, .pinned], laidTests := true, laidLooks := .later }
def RightsKeepCardSaid : Prop := Claim7.holds Tryz.pinned (.plain (OpenSpec.ofChange rightsKeepSpec)) rightsKeepCard

/-- THE SECOND FORM's CARD OF 'treasurylaw13.RightsAnswers'. -/
def rightsAnswersUptoCard : Claim7 := { stood := { row := rightsAnswersUptoRow, standIns := [], harness := (true, "0c932dc0272e28ad20021d3e86b3f3fcd73fdda017bbc5155959587347686bbc"), looks := true }, kinds := [], alts := [], laidByText := true, laidKinds := [.data, .data, .data, .data, .sentinel, .sentinel, .pinned], laidTests := true, laidLooks := .later }
def RightsAnswersUptoCardSaid : Prop := Claim7.holds Tryz.pinned (.plain (OpenSpec.upto rightsAnswersSpec)) rightsAnswersUptoCard

/-- THE SECOND FORM's CARD OF 'treasurylaw13.RightsGrant'. -/
def rightsGrantUptoCard : Claim7 := { stood := { row := rightsGrantUptoRow, standIns := [], harness := (true, "0c932dc0272e28ad20021d3e86b3f3fcd73fdda017bbc5155959587347686bbc"), looks := true }, kinds := [], alts := [], laidByText := true, laidKinds := [.data, .data, .data, .data, .sentinel, .sentinel, .pinned], laidTests := true, laidLooks := .later }
def RightsGrantUptoCardSaid : Prop := Claim7.holds Tryz.pinned (.plain (OpenSpec.upto rightsGrantSpec)) rightsGrantUptoCard

/-- THE SECOND FORM's CARD OF 'treasurylaw13.RightsCounters'. -/
def rightsCountersUptoCard : Claim7 := { stood := { row := rightsCountersUptoRow, standIns := [], harness := (true, "0c932dc0272e28ad20021d3e86b3f3fcd73fdda017bbc5155959587347686bbc"), looks := true }, kinds := [], alts := [], laidByText := true, laidKinds := [.data, .data, .data, .data, .sentinel, .sentinel, .pinned], laidTests := true, laidLooks := .later }
def RightsCountersUptoCardSaid : Prop := Claim7.holds Tryz.pinned (.plain (OpenSpec.upto rightsCountersSpec)) rightsCountersUptoCard

/-- THE SECOND FORM's CARD OF 'treasurylaw13.RightsKeep'. -/
def rightsKeepUptoCard : Claim7 := { stood := { row := rightsKeepUptoRow, standIns := [], harness := (true, "0c932dc0272e28ad20021d3e86b3f3fcd73fdda017bbc5155959587347686bbc"), looks := true }, kinds := [], alts := [], laidByText := true, laidKinds := [.data, .data, .data, .data, .sentinel, .sentinel, .pinned], laidTests := true, laidLooks := .later }
def RightsKeepUptoCardSaid : Prop := Claim7.holds Tryz.pinned (.plain (OpenSpec.upto rightsKeepSpec)) rightsKeepUptoCard
end Rows
end Go.Proofs.YtkabfdfkegjfdaaGreatDoor
