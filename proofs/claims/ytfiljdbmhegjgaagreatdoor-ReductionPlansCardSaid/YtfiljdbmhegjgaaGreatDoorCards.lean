/-
  DERIVED. GIVEN WITH THE SEED: THE CARDS: each row of YtfiljdbmhegjgaaGreatDoorRows.lean that lists a variable, with what it lists TIED to the program's text (the seventh form; the later family's looks); each row that meets fmt, with fmt's text TOLD by the authors' own Lean function (tested against real Go, not proved from fmt's source: count such statements apart). THE CARD IS WHAT COUNTS. Prove the row's statement (the work); the ties are given (YtfiljdbmhegjgaaGreatDoorTie.lean); close each card by the builder's one call (the guide's Derived/Test/ToyasCard.lean, 'card_holds'). Laid BY PROGRAM, IN A SANDBOX (cutbox-door.mjs). By AI agents, Wed Nov 11 2026. No macro, syntax, notation, axiom, sorry.
-/
import Derived.Test.YtfiljdbmhegjgaaGreatDoorRows
import GoSem.ClaimSeven
namespace Go.Proofs.YtfiljdbmhegjgaaGreatDoor
namespace Rows

/-- THE TIED CARD OF 'treasurylaw18.ReductionPlans'. -/
def reductionPlansCard : Claim7 := { stood := { row := reductionPlansRow, standIns := [], harness := (true, "44573644a84387ed67a46a6190821de38a1c03926d043be0401435de120a283a"), looks := true }, kinds := [], alts := [], laidByText := true, laidKinds := [.data, .data, .data, .data, .sentinel, .sentinel, .pinned], laidTests := true, laidLooks := .later }
def ReductionPlansCardSaid : Prop := Claim7.holds Tryz.pinned (.plain (OpenSpec.ofChange reductionPlansSpec)) reductionPlansCard

/-- THE SECOND FORM's CARD OF 'treasurylaw18.ReductionPlans'. -/
def reductionPlansUptoCard : Claim7 := { stood := { row := reductionPlansUptoRow, standIns := [], harness := (true, "44573644a84387ed67a46a6190821de38a1c03926d043be0401435de120a283a"), looks := true }, kinds := [], alts := [], laidByText := true, laidKinds := [.data, .data, .data, .data, .sentinel, .sentinel, .pinned], laidTests := true, laidLooks := .later }
def ReductionPlansUptoCardSaid : Prop := Claim7.holds Tryz.pinned (.plain (OpenSpec.upto reductionPlansSpec)) reductionPlansUptoCard
end Rows
end Go.Proofs.YtfiljdbmhegjgaaGreatDoor
