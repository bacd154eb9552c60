/-
  DERIVED. GIVEN WITH THE SEED: THE CARDS: each row of YtgbpiaddmclccaaGreatDoorRows.lean that lists a variable, with what it lists TIED to the program's text (the seventh form; the later family's looks); each row that meets fmt, with fmt's text TOLD by the authors' own Lean function (tested against real Go, not proved from fmt's source: count such statements apart). THE CARD IS WHAT COUNTS. Prove the row's statement (the work); the ties are given (YtgbpiaddmclccaaGreatDoorTie.lean); close each card by the builder's one call (the guide's Derived/Test/ToyasCard.lean, 'card_holds'). Laid BY PROGRAM, IN A SANDBOX (cutbox-door.mjs). By AI agents, Wed Nov 11 2026. No macro, syntax, notation, axiom, sorry.
-/
import Derived.Test.YtgbpiaddmclccaaGreatDoorRows
import GoSem.ClaimSeven
namespace Go.Proofs.YtgbpiaddmclccaaGreatDoor
namespace Rows

/-- THE TIED CARD OF 'treasurylaw18.ReductionWorlds'. -/
def reductionWorldsCard : Claim7 := { stood := { row := reductionWorldsRow, standIns := [], harness := (true, "17f0bbc6f59a0577fe63430ac9b6146233e9ae111d012826b902313ec700ef64"), looks := true }, kinds := [], alts := [], laidByText := true, laidKinds := [.data, .data, .data, .data, .sentinel, .sentinel, .listed, .data, .pinned], laidTests := true, laidLooks := .later }
def ReductionWorldsCardSaid : Prop := Claim7.holds Tryz.pinned (.plain (OpenSpec.ofChange reductionWorldsSpec)) reductionWorldsCard

/-- THE SECOND FORM's CARD OF 'treasurylaw18.ReductionWorlds'. -/
def reductionWorldsUptoCard : Claim7 := { stood := { row := reductionWorldsUptoRow, standIns := [], harness := (true, "17f0bbc6f59a0577fe63430ac9b6146233e9ae111d012826b902313ec700ef64"), looks := true }, kinds := [], alts := [], laidByText := true, laidKinds := [.data, .data, .data, .data, .sentinel, .sentinel, .listed, .data, .pinned], laidTests := true, laidLooks := .later }
def ReductionWorldsUptoCardSaid : Prop := Claim7.holds Tryz.pinned (.plain (OpenSpec.upto reductionWorldsSpec)) reductionWorldsUptoCard
end Rows
end Go.Proofs.YtgbpiaddmclccaaGreatDoor
