/-
  DERIVED. GIVEN WITH THE SEED: THE CARDS: each row of YtlhikmklpelceaaGreatDoorRows.lean that lists a variable, with what it lists TIED to the program's text (the seventh form; the later family's looks); each row that meets fmt, with fmt's text TOLD by the authors' own Lean function (tested against real Go, not proved from fmt's source: count such statements apart). THE CARD IS WHAT COUNTS. Prove the row's statement (the work); the ties are given (YtlhikmklpelceaaGreatDoorTie.lean); close each card by the builder's one call (the guide's Derived/Test/ToyasCard.lean, 'card_holds'). Laid BY PROGRAM, IN A SANDBOX (cutbox-door.mjs). By AI agents, Wed Nov 11 2026. No macro, syntax, notation, axiom, sorry.
-/
import Derived.Test.YtlhikmklpelceaaGreatDoorRows
import GoSem.ClaimSeven
namespace Go.Proofs.YtlhikmklpelceaaGreatDoor
namespace Rows

/-- THE TIED CARD OF 'treasurylaw18.ReductionRecalls'. -/
def reductionRecallsCard : Claim7 := { stood := { row := reductionRecallsRow, standIns := [], harness := (true, "b744516d563b15e84b89030ea2c671f6222978b8a107dca1fb80023a67d87bd7"), looks := true }, kinds := [], alts := [], laidByText := true, laidKinds := [.data, .data, .data, .data, .sentinel, .sentinel, .listed, .data, .pinned], laidTests := true, laidLooks := .later }
def ReductionRecallsCardSaid : Prop := Claim7.holds Tryz.pinned (.plain (OpenSpec.ofChange reductionRecallsSpec)) reductionRecallsCard

/-- THE SECOND FORM's CARD OF 'treasurylaw18.ReductionRecalls'. -/
def reductionRecallsUptoCard : Claim7 := { stood := { row := reductionRecallsUptoRow, standIns := [], harness := (true, "b744516d563b15e84b89030ea2c671f6222978b8a107dca1fb80023a67d87bd7"), looks := true }, kinds := [], alts := [], laidByText := true, laidKinds := [.data, .data, .data, .data, .sentinel, .sentinel, .listed, .data, .pinned], laidTests := true, laidLooks := .later }
def ReductionRecallsUptoCardSaid : Prop := Claim7.holds Tryz.pinned (.plain (OpenSpec.upto reductionRecallsSpec)) reductionRecallsUptoCard
end Rows
end Go.Proofs.YtlhikmklpelceaaGreatDoor
