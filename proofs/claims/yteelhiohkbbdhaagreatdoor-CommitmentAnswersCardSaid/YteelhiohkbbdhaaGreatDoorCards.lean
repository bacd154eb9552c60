/-
  DERIVED. GIVEN WITH THE SEED: THE CARDS: each row of YteelhiohkbbdhaaGreatDoorRows.lean that lists a variable, with what it lists TIED to the program's text (the seventh form; the later family's looks); each row that meets fmt, with fmt's text TOLD by the authors' own Lean function (tested against real Go, not proved from fmt's source: count such statements apart). THE CARD IS WHAT COUNTS. Prove the row's statement (the work); the ties are given (YteelhiohkbbdhaaGreatDoorTie.lean); close each card by the builder's one call (the guide's Derived/Test/ToyasCard.lean, 'card_holds'). Laid BY PROGRAM, IN A SANDBOX (cutbox-door.mjs). By AI agents, Wed Nov 11 2026. No macro, syntax, notation, axiom, sorry.
-/
import Derived.Test.YteelhiohkbbdhaaGreatDoorRows
import GoSem.ClaimSeven
namespace Go.Proofs.YteelhiohkbbdhaaGreatDoor
namespace Rows

/-- THE TIED CARD OF 'treasurylaw14.CommitmentParts'. -/
def commitmentPartsCard : Claim7 := { stood := { row := commitmentPartsRow, standIns := [], harness := (true, "f6c5e6cbde36c75aea421e8c9339b2c19f411cadce845df8987b6cc4377eada5"), looks := true }, kinds := [], alts := [], laidByText := true, laidKinds := [.data, .data, .data, .data, .sentinel, .sentinel, .pinned], laidTests := true, laidLooks := .later }
def CommitmentPartsCardSaid : Prop := Claim7.holds Tryz.pinned (.plain (OpenSpec.ofChange commitmentPartsSpec)) commitmentPartsCard

/-- THE TIED CARD OF 'treasurylaw14.CommitmentChain'. -/
def commitmentChainCard : Claim7 := { stood := { row := commitmentChainRow, standIns := [], harness := (true, "f6c5e6cbde36c75aea421e8c9339b2c19f411cadce845df8987b6cc4377eada5"), looks := true }, kinds := [], alts := [], laidByText := true, laidKinds := [.data, .data, .data, .data, .sentinel, .sentinel, .pinned], laidTests := true, laidLooks := .later }
def CommitmentChainCardSaid : Prop := Claim7.holds Tryz.pinned (.plain (OpenSpec.ofChange commitmentChainSpec)) commitmentChainCard

/-- THE TIED CARD OF 'treasurylaw14.CommitmentUsed'. -/
def commitmentUsedCard : Claim7 := { stood := { row := commitmentUsedRow, standIns := [], harness := (true, "f6c5e6cbde36c75aea421e8c9339b2c19f411cadce845df8987b6cc4377eada5"), looks := true }, kinds := [], alts := [], laidByText := true, laidKinds := [.data, .data, .data, .data, .sentinel, .sentinel, .pinned], laidTests := true, laidLooks := .later }
def CommitmentUsedCardSaid : Prop := Claim7.holds Tryz.pinned (.plain (OpenSpec.ofChange commitmentUsedSpec)) commitmentUsedCard

/-- THE TIED CARD OF 'treasurylaw14.CommitmentAnswers'. -/
def commitmentAnswersCard : Claim7 := { stood := { row := commitmentAnswersRow, standIns := [], harness := (true, "f6c5e6cbde36c75aea421e8c9339b2c19f411cadce845df8987b6cc4377eada5"), looks := true }, kinds := [], alts := [], laidByText := true, laidKinds := [.data, .data, .data, .data, .sentinel, .sentinel, .pinned], laidTests := true, laidLooks := .later }
def CommitmentAnswersCardSaid : Prop := Claim7.holds Tryz.pinned (.plain (OpenSpec.ofChange commitmentAnswersSpec)) commitmentAnswersCard

/-- THE TIED CARD OF 'treasurylaw14.CommitmentSteps'. -/
def commitmentStepsCard : Claim7 := { stood := { row := commitmentStepsRow, standIns := [], harness := (true, "f6c5e6cbde36c75aea421e8c9339b2c19f411cadce845df8987b6cc4377eada5"), looks := true }, kinds := [], alts := [], laidByText := true, laidKinds := [.data, .data, .data, .data, .sentinel, .sentinel, .pinned], laidTests := true, laidLooks := .later }
def CommitmentStepsCardSaid : Prop := Claim7.holds Tryz.pinned (.plain (OpenSpec.ofChange commitmentStepsSpec)) commitmentStepsCard

/-- THE SECOND FORM's CARD OF 'treasurylaw14.CommitmentParts'. -/
def commitmentPartsUptoCard : Claim7 := { stood := { row := commitmentPartsUptoRow, standIns := [], harness := (true, "f6c5e6cbde36c75aea421e8c9339b2c19f411cadce845df8987b6cc4377eada5"), looks := true }, kinds := [], alts := [], laidByText := true, laidKinds := [.data, .data, .data, .data, .sentinel, .sentinel, .pinned], laidTests := true, laidLooks := .later }
def CommitmentPartsUptoCardSaid : Prop := Claim7.holds Tryz.pinned (.plain (OpenSpec.upto commitmentPartsSpec)) commitmentPartsUptoCard

/-- THE SECOND FORM's CARD OF 'treasurylaw14.CommitmentChain'. -/
def commitmentChainUptoCard : Claim7 := { stood := { row := commitmentChainUptoRow, standIns := [], harness := (true, "f6c5e6cbde36c75aea421e8c9339b2c19f411cadce845df8987b6cc4377eada5"), looks := true }, kinds := [], alts := [], laidByText := true, laidKinds := [.data, .data, .data, .data, .sentinel, .sentinel, .pinned], laidTests := true, laidLooks := .later }
def CommitmentChainUptoCardSaid : Prop := Claim7.holds Tryz.pinned (.plain (OpenSpec.upto commitmentChainSpec)) commitmentChainUptoCard

/-- THE SECOND FORM's CARD OF 'treasurylaw14.CommitmentUsed'. -/
def commitmentUsedUptoCard : Claim7 := { stood := { row := commitmentUsedUptoRow, standIns := [], harness := (true, "f6c5e6cbde36c75aea421e8c9339b2c19f411cadce845df8987b6cc4377eada5"), looks := true }, kinds := [], alts := [], laidByText := true, laidKinds := [.data, .data, .data, .data, .sentinel, .sentinel, .pinned], laidTests := true, laidLooks := .later }
def CommitmentUsedUptoCardSaid : Prop := Claim7.holds Tryz.pinned (.plain (OpenSpec.upto commitmentUsedSpec)) commitmentUsedUptoCard

/-- THE SECOND FORM's CARD OF 'treasurylaw14.CommitmentAnswers'. -/
def commitmentAnswersUptoCard : Claim7 := { stood := { row := commitmentAnswersUptoRow, standIns := [], harness := (true, "f6c5e6cbde36c75aea421e8c9339b2c19f411cadce845df8987b6cc4377eada5"), looks := true }, kinds := [], alts := [], laidByText := true, laidKinds := [.data, .data, .data, .data, .sentinel, .sentinel, .pinned], laidTests := true, laidLooks := .later }
def CommitmentAnswersUptoCardSaid : Prop := Claim7.holds Tryz.pinned (.plain (OpenSpec.upto commitmentAnswersSpec)) commitmentAnswersUptoCard

/-- THE SECOND FORM's CARD OF 'treasurylaw14.CommitmentSteps'. -/
def commitmentStepsUptoCard : Claim7 := { stood := { row := commitmentStepsUptoRow, standIns := [], harness := (true, "f6c5e6cbde36c75aea421e8c9339b2c19f411cadce845df8987b6cc4377eada5"), looks := true }, kinds := [], alts := [], laidByText := true, laidKinds := [.data, .data, .data, .data, .sentinel, .sentinel, .pinned], laidTests := true, laidLooks := .later }
def CommitmentStepsUptoCardSaid : Prop := Claim7.holds Tryz.pinned (.plain (OpenSpec.upto commitmentStepsSpec)) commitmentStepsUptoCard
end Rows
end Go.Proofs.YteelhiohkbbdhaaGreatDoor
