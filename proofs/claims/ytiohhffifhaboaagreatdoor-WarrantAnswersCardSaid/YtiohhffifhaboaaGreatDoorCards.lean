/-
  DERIVED. GIVEN WITH THE SEED: THE CARDS: each row of YtiohhffifhaboaaGreatDoorRows.lean that lists a variable, with what it lists TIED to the program's text (the seventh form; the later family's looks); each row that meets fmt, with fmt's text TOLD by the authors' own Lean function (tested against real Go, not proved from fmt's source: count such statements apart). THE CARD IS WHAT COUNTS. Prove the row's statement (the work); the ties are given (YtiohhffifhaboaaGreatDoorTie.lean); close each card by the builder's one call (the guide's Derived/Test/ToyasCard.lean, 'card_holds'). Laid BY PROGRAM, IN A SANDBOX (cutbox-door.mjs). By AI agents, Wed Nov 11 2026. No macro, syntax, notation, axiom, sorry.
-/
import Derived.Test.YtiohhffifhaboaaGreatDoorRows
import GoSem.ClaimSeven
namespace Go.Proofs.YtiohhffifhaboaaGreatDoor
namespace Rows

/-- THE TIED CARD OF 'treasurylaw19.WarrantSigned'. -/
def warrantSignedCard : Claim7 := { stood := { row := warrantSignedRow, standIns := [], harness := (true, "94107f67c3e70534f73e9b8f5ae45e5e118cded14c0de2d552b818730d258968"), looks := true }, kinds := [], alts := [], laidByText := true, laidKinds := [.data, .data, .data, .data, .sentinel, .sentinel, .pinned], laidTests := true, laidLooks := .later }
def WarrantSignedCardSaid : Prop := Claim7.holds Tryz.pinned (.plain (OpenSpec.ofChange warrantSignedSpec)) warrantSignedCard

/-- THE TIED CARD OF 'treasurylaw19.WarrantAnswers'. -/
def warrantAnswersCard : Claim7 := { stood := { row := warrantAnswersRow, standIns := [], harness := (true, "94107f67c3e70534f73e9b8f5ae45e5e118cded14c0de2d552b818730d258968"), looks := true }, kinds := [], alts := [], laidByText := true, laidKinds := [.data, .data, .data, .data, .sentinel, .sentinel, .pinned], laidTests := true, laidLooks := .later }
def WarrantAnswersCardSaid : Prop := Claim7.holds Tryz.pinned (.plain (OpenSpec.ofChange warrantAnswersSpec)) warrantAnswersCard

/-- THE SECOND FORM's CARD OF 'treasurylaw19.WarrantSigned'. -/
def warrantSignedUptoCard : Claim7 := { stood := { row := warrantSignedUptoRow, standIns := [], harness := (true, "94107f67c3e70534f73e9b8f5ae45e5e118cded14c0de2d552b818730d258968"), looks := true }, kinds := [], alts := [], laidByText := true, laidKinds := [.data, .data, .data, .data, .sentinel, .sentinel, .pinned], laidTests := true, laidLooks := .later }
def WarrantSignedUptoCardSaid : Prop := Claim7.holds Tryz.pinned (.plain (OpenSpec.upto warrantSignedSpec)) warrantSignedUptoCard

/-- THE SECOND FORM's CARD OF 'treasurylaw19.WarrantAnswers'. -/
def warrantAnswersUptoCard : Claim7 := { stood := { row := warrantAnswersUptoRow, standIns := [], harness := (true, "94107f67c3e70534f73e9b8f5ae45e5e118cded14c0de2d552b818730d258968"), looks := true }, kinds := [], alts := [], laidByText := true, laidKinds := [.data, .data, .data, .data, .sentinel, .sentinel, .pinned], laidTests := true, laidLooks := .later }
def WarrantAnswersUptoCardSaid : Prop := Claim7.holds Tryz.pinned (.plain (OpenSpec.upto warrantAnswersSpec)) warrantAnswersUptoCard
end Rows
end Go.Proofs.YtiohhffifhaboaaGreatDoor
