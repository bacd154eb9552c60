/-
  DERIVED. GIVEN WITH THE SEED: THE CARDS: each row of YtkhgaalekilaeaaGreatDoorRows.lean that lists a variable, with what it lists TIED to the program's text (the seventh form; the later family's looks); each row that meets fmt, with fmt's text TOLD by the authors' own Lean function (tested against real Go, not proved from fmt's source: count such statements apart). THE CARD IS WHAT COUNTS. Prove the row's statement (the work); the ties are given (YtkhgaalekilaeaaGreatDoorTie.lean); close each card by the builder's one call (the guide's Derived/Test/ToyasCard.lean, 'card_holds'). Laid BY PROGRAM, IN A SANDBOX (cutbox-door.mjs). By AI agents, Wed Nov 11 2026. No macro, syntax, notation, axiom, sorry.
-/
import Derived.Test.YtkhgaalekilaeaaGreatDoorRows
import GoSem.ClaimSeven
namespace Go.Proofs.YtkhgaalekilaeaaGreatDoor
namespace Rows

/-- THE TIED CARD OF 'treasurylaw17.NetworkAnswers'. -/
def networkAnswersCard : Claim7 := { stood := { row := networkAnswersRow, standIns := [], harness := (true, "20c04160badc08c8c4e381fc9f46ca0e7a79fa6abcbb664dbe5ece9dca1e73c5"), looks := true }, kinds := [], alts := [], laidByText := true, laidKinds := [.data, .data, .data, .data, .sentinel, .sentinel, .listed, .data, .pinned], laidTests := true, laidLooks := .later }
def NetworkAnswersCardSaid : Prop := Claim7.holds Tryz.pinned (.plain (OpenSpec.ofChange networkAnswersSpec)) networkAnswersCard

/-- THE SECOND FORM's CARD OF 'treasurylaw17.NetworkAnswers'. -/
def networkAnswersUptoCard : Claim7 := { stood := { row := networkAnswersUptoRow, standIns := [], harness := (true, "20c04160badc08c8c4e381fc9f46ca0e7a79fa6abcbb664dbe5ece9dca1e73c5"), looks := true }, kinds := [], alts := [], laidByText := true, laidKinds := [.data, .data, .data, .data, .sentinel, .sentinel, .listed, .data, .pinned], laidTests := true, laidLooks := .later }
def NetworkAnswersUptoCardSaid : Prop := Claim7.holds Tryz.pinned (.plain (OpenSpec.upto networkAnswersSpec)) networkAnswersUptoCard
end Rows
end Go.Proofs.YtkhgaalekilaeaaGreatDoor
