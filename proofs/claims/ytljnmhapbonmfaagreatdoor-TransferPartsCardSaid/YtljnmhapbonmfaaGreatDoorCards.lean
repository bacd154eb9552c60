/-
  DERIVED. GIVEN WITH THE SEED: THE CARDS: each row of YtljnmhapbonmfaaGreatDoorRows.lean that lists a variable, with what it lists TIED to the program's text (the seventh form; the later family's looks); each row that meets fmt, with fmt's text TOLD by the authors' own Lean function (tested against real Go, not proved from fmt's source: count such statements apart). THE CARD IS WHAT COUNTS. Prove the row's statement (the work); the ties are given (YtljnmhapbonmfaaGreatDoorTie.lean); close each card by the builder's one call (the guide's Derived/Test/ToyasCard.lean, 'card_holds'). Laid BY PROGRAM, IN A SANDBOX (cutbox-door.mjs). By AI agents, Wed Nov 11 2026. No macro, syntax, notation, axiom, sorry.
-/
import Derived.Test.YtljnmhapbonmfaaGreatDoorRows
import GoSem.ClaimSeven
namespace Go.Proofs.YtljnmhapbonmfaaGreatDoor
namespace Rows

/-- THE TIED CARD OF 'treasurylaw09.TransferRoom'. -/
def transferRoomCard : Claim7 := { stood := { row := transferRoomRow, standIns := [], harness := (true, "eba01598c47ad8fb9da159dbf50e73f9e779ad9a9753a086d78e5c0ab026a8d1"), looks := true }, kinds := [], alts := [], laidByText := true, laidKinds := [.data, .data, .data, .data, .sentinel, .sentinel, .pinned], laidTests := true, laidLooks := .later }
def TransferRoomCardSaid : Prop := Claim7.holds Tryz.pinned (.plain (OpenSpec.ofChange transferRoomSpec)) transferRoomCard

/-- THE TIED CARD OF 'treasurylaw09.TransferFunds'. -/
def transferFundsCard : Claim7 := { stood := { row := transferFundsRow, standIns := [], harness := (true, "eba01598c47ad8fb9da159dbf50e73f9e779ad9a9753a086d78e5c0ab026a8d1"), looks := true }, kinds := [], alts := [], laidByText := true, laidKinds := [.data, .data, .data, .data, .sentinel, .sentinel, .pinned], laidTests := true, laidLooks := .later }
def TransferFundsCardSaid : Prop := Claim7.holds Tryz.pinned (.plain (OpenSpec.ofChange transferFundsSpec)) transferFundsCard

/-- THE TIED CARD OF 'treasurylaw09.TransferTotals'. -/
def transferTotalsCard : Claim7 := { stood := { row := transferTotalsRow, standIns := [], harness := (true, "eba01598c47ad8fb9da159dbf50e73f9e779ad9a9753a086d78e5c0ab026a8d1"), looks := true }, kinds := [], alts := [], laidByText := true, laidKinds := [.data, .data, .data, .data, .sentinel, .sentinel, .pinned], laidTests := true, laidLooks := .later }
def TransferTotalsCardSaid : Prop := Claim7.holds Tryz.pinned (.plain (OpenSpec.ofChange transferTotalsSpec)) transferTotalsCard

/-- THE TIED CARD OF 'treasurylaw09.TransferParts'. -/
def transferPartsCard : Claim7 := { stood := { row := transferPartsRow, standIns := [], harness := (true, "eba01598c47ad8fb9da159dbf50e73f9e779ad9a9753a086d78e5c0ab026a8d1"), looks := true }, kinds := [], alts := [], laidByText := true, laidKinds := [.data, .data, .data, .data, .sentinel, .sentinel, .pinned], laidTests := true, laidLooks := .later }
def TransferPartsCardSaid : Prop := Claim7.holds Tryz.pinned (.plain (OpenSpec.ofChange transferPartsSpec)) transferPartsCard

/-- THE SECOND FORM's CARD OF 'treasurylaw09.TransferRoom'. -/
def transferRoomUptoCard : Claim7 := { stood := { row := transferRoomUptoRow, standIns := [], harness := (true, "eba01598c47ad8fb9da159dbf50e73f9e779ad9a9753a086d78e5c0ab026a8d1"), looks := true }, kinds := [], alts := [], laidByText := true, laidKinds := [.data, .data, .data, .data, .sentinel, .sentinel, .pinned], laidTests := true, laidLooks := .later }
def TransferRoomUptoCardSaid : Prop := Claim7.holds Tryz.pinned (.plain (OpenSpec.upto transferRoomSpec)) transferRoomUptoCard

/-- THE SECOND FORM's CARD OF 'treasurylaw09.TransferFunds'. -/
def transferFundsUptoCard : Claim7 := { stood := { row := transferFundsUptoRow, standIns := [], harness := (true, "eba01598c47ad8fb9da159dbf50e73f9e779ad9a9753a086d78e5c0ab026a8d1"), looks := true }, kinds := [], alts := [], laidByText := true, laidKinds := [.data, .data, .data, .data, .sentinel, .sentinel, .pinned], laidTests := true, laidLooks := .later }
def TransferFundsUptoCardSaid : Prop := Claim7.holds Tryz.pinned (.plain (OpenSpec.upto transferFundsSpec)) transferFundsUptoCard

/-- THE SECOND FORM's CARD OF 'treasurylaw09.TransferTotals'. -/
def transferTotalsUptoCard : Claim7 := { stood := { row := transferTotalsUptoRow, standIns := [], harness := (true, "eba01598c47ad8fb9da159dbf50e73f9e779ad9a9753a086d78e5c0ab026a8d1"), looks := true }, kinds := [], alts := [], laidByText := true, laidKinds := [.data, .data, .data, .data, .sentinel, .sentinel, .pinned], laidTests := true, laidLooks := .later }
def TransferTotalsUptoCardSaid : Prop := Claim7.holds Tryz.pinned (.plain (OpenSpec.upto transferTotalsSpec)) transferTotalsUptoCard

/-- THE SECOND FORM's CARD OF 'treasurylaw09.TransferParts'. -/
def transferPartsUptoCard : Claim7 := { stood := { row := transferPartsUptoRow, standIns := [], harness := (true, "eba01598c47ad8fb9da159dbf50e73f9e779ad9a9753a086d78e5c0ab026a8d1"), looks := true }, kinds := [], alts := [], laidByText := true, laidKinds := [.data, .data, .data, .data, .sentinel, .sentinel, .pinned], laidTests := true, laidLooks := .later }
def TransferPartsUptoCardSaid : Prop := Claim7.holds Tryz.pinned (.plain (OpenSpec.upto transferPartsSpec)) transferPartsUptoCard
end Rows
end Go.Proofs.YtljnmhapbonmfaaGreatDoor
