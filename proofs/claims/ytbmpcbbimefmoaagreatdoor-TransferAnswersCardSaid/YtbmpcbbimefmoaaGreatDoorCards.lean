/-
  DERIVED. GIVEN WITH THE SEED: THE CARDS: each row of YtbmpcbbimefmoaaGreatDoorRows.lean that lists a variable, with what it lists TIED to the program's text (the seventh form; the later family's looks); each row that meets fmt, with fmt's text TOLD by the authors' own Lean function (tested against real Go, not proved from fmt's source: count such statements apart). THE CARD IS WHAT COUNTS. Prove the row's statement (the work); the ties are given (YtbmpcbbimefmoaaGreatDoorTie.lean); close each card by the builder's one call (the guide's Derived/Test/ToyasCard.lean, 'card_holds'). Laid BY PROGRAM, IN A SANDBOX (cutbox-door.mjs). By AI agents, Wed Nov 11 2026. No macro, syntax, notation, axiom, sorry.
-/
import Derived.Test.YtbmpcbbimefmoaaGreatDoorRows
import GoSem.ClaimSeven
namespace Go.Proofs.YtbmpcbbimefmoaaGreatDoor
namespace Rows

/-- THE TIED CARD OF 'treasurylaw09.TransferAnswers'. -/
def transferAnswersCard : Claim7 := { stood := { row := transferAnswersRow, standIns := [], harness := (true, "d96e80945e110123adf6408573ff0939cfd564dad6fa581a434c8406cdeceab1"), looks := true }, kinds := [], alts := [], laidByText := true, laidKinds := [.data, .data, .data, .data, .sentinel, .sentinel, .pinned], laidTests := true, laidLooks := .later }
def TransferAnswersCardSaid : Prop := Claim7.holds Tryz.pinned (.plain (OpenSpec.ofChange transferAnswersSpec)) transferAnswersCard

/-- THE SECOND FORM's CARD OF 'treasurylaw09.TransferAnswers'. -/
def transferAnswersUptoCard : Claim7 := { stood := { row := transferAnswersUptoRow, standIns := [], harness := (true, "d96e80945e110123adf6408573ff0939cfd564dad6fa581a434c8406cdeceab1"), looks := true }, kinds := [], alts := [], laidByText := true, laidKinds := [.data, .data, .data, .data, .sentinel, .sentinel, .pinned], laidTests := true, laidLooks := .later }
def TransferAnswersUptoCardSaid : Prop := Claim7.holds Tryz.pinned (.plain (OpenSpec.upto transferAnswersSpec)) transferAnswersUptoCard
end Rows
end Go.Proofs.YtbmpcbbimefmoaaGreatDoor
