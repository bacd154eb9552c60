/-
  DERIVED. GIVEN WITH THE SEED: THE CARDS: each row of YtdmddkbngmhepaaGreatDoorRows.lean that lists a variable, with what it lists TIED to the program's text (the seventh form; the later family's looks); each row that meets fmt, with fmt's text TOLD by the authors' own Lean function (tested against real Go, not proved from fmt's source: count such statements apart). THE CARD IS WHAT COUNTS. Prove the row's statement (the work); the ties are given (YtdmddkbngmhepaaGreatDoorTie.lean); close each card by the builder's one call (the guide's Derived/Test/ToyasCard.lean, 'card_holds'). Laid BY PROGRAM, IN A SANDBOX (cutbox-door.mjs). By AI agents, Wed Nov 11 2026. No macro, syntax, notation, axiom, sorry.
-/
import Derived.Test.YtdmddkbngmhepaaGreatDoorRows
import GoSem.ClaimSeven
namespace Go.Proofs.YtdmddkbngmhepaaGreatDoor
namespace Rows

/-- THE TIED CARD OF 'treasurylaw17.NetworkSafe'. -/
def networkSafeCard : Claim7 := { stood := { row := networkSafeRow, standIns := [], harness := (true, "669eed732f06b7312d9fcaffd780761956b6d074c54efb2d7ea51b12f295dc78"), looks := true }, kinds := [], alts := [], laidByText := true, laidKinds := [.data, .data, .data, .data, .sentinel, .sentinel, .listed, .data, .pinned], laidTests := true, laidLooks := .later }
def NetworkSafeCardSaid : Prop := Claim7.holds Tryz.pinned (.plain (OpenSpec.ofChange networkSafeSpec)) networkSafeCard

/-- THE TIED CARD OF 'treasurylaw17.NetworkShortfall'. -/
def networkShortfallCard : Claim7 := { stood := { row := networkShortfallRow, standIns := [], harness := (true, "669eed732f06b7312d9fcaffd780761956b6d074c54efb2d7ea51b12f295dc78"), looks := true }, kinds := [], alts := [], laidByText := true, laidKinds := [.data, .data, .data, .data, .sentinel, .sentinel, .listed, .data, .pinned], laidTests := true, laidLooks := .later }
def NetworkShortfallCardSaid : Prop := Claim7.holds Tryz.pinned (.plain (OpenSpec.ofChange networkShortfallSpec)) networkShortfallCard

/-- THE TIED CARD OF 'treasurylaw17.NetworkMail'. -/
def networkMailCard : Claim7 := { stood := { row := networkMailRow, standIns := [], harness := (true, "669eed732f06b7312d9fcaffd780761956b6d074c54efb2d7ea51b12f295dc78"), looks := true }, kinds := [], alts := [], laidByText := true, laidKinds := [.data, .data, .data, .data, .sentinel, .sentinel, .listed, .data, .pinned], laidTests := true, laidLooks := .later }
def NetworkMailCardSaid : Prop := Claim7.holds Tryz.pinned (.plain (OpenSpec.ofChange networkMailSpec)) networkMailCard

/-- THE TIED CARD OF 'treasurylaw17.NetworkCrash'. -/
def networkCrashCard : Claim7 := { stood := { row := networkCrashRow, standIns := [], harness := (true, "669eed732f06b7312d9fcaffd780761956b6d074c54efb2d7ea51b12f295dc78"), looks := true }, kinds := [], alts := [], laidByText := true, laidKinds := [.data, .data, .data, .data, .sentinel, .sentinel, .listed, .data, .pinned], laidTests := true, laidLooks := .later }
def NetworkCrashCardSaid : Prop := Claim7.holds Tryz.pinned (.plain (OpenSpec.ofChange networkCrashSpec)) networkCrashCard

/-- THE TIED CARD OF 'treasurylaw17.NetworkCalm'. -/
def networkCalmCard : Claim7 := { stood := { row := networkCalmRow, standIns := [], harness := (true, "669eed732f06b7312d9fcaffd780761956b6d074c54efb2d7ea51b12f295dc78"), looks := true }, kinds := [], alts := [], laidByText := true, laidKinds := [.data, .data, .data, .data, .sentinel, .sentinel, .listed, .data, .pinned], laidTests := true, laidLooks := .later }
def NetworkCalmCardSaid : Prop := Claim7.holds Tryz.pinned (.plain (OpenSpec.ofChange networkCalmSpec)) networkCalmCard

/-- THE SECOND FORM's CARD OF 'treasurylaw17.NetworkSafe'. -/
def networkSafeUptoCard : Claim7 := { stood := { row := networkSafeUptoRow, standIns := [], harness := (true, "669eed732f06b7312d9fcaffd780761956b6d074c54efb2d7ea51b12f295dc78"), looks := true }, kinds := [], alts := [], laidByText := true, laidKinds := [.data, .data, .data, .data, .sentinel, .sentinel, .listed, .data, .pinned], laidTests := true, laidLooks := .later }
def NetworkSafeUptoCardSaid : Prop := Claim7.holds Tryz.pinned (.plain (OpenSpec.upto networkSafeSpec)) networkSafeUptoCard

/-- THE SECOND FORM's CARD OF 'treasurylaw17.NetworkShortfall'. -/
def networkShortfallUptoCard : Claim7 := { stood := { row := networkShortfallUptoRow, standIns := [], harness := (true, "669eed732f06b7312d9fcaffd780761956b6d074c54efb2d7ea51b12f295dc78"), looks := true }, kinds := [], alts := [], laidByText := true, laidKinds := [.data, .data, .data, .data, .sentinel, .sentinel, .listed, .data, .pinned], laidTests := true, laidLooks := .later }
def NetworkShortfallUptoCardSaid : Prop := Claim7.holds Tryz.pinned (.plain (OpenSpec.upto networkShortfallSpec)) networkShortfallUptoCard

/-- THE SECOND FORM's CARD OF 'treasurylaw17.NetworkMail'. -/
def networkMailUptoCard : Claim7 := { stood := { row := networkMailUptoRow, standIns := [], harness := (true, "669eed732f06b7312d9fcaffd780761956b6d074c54efb2d7ea51b12f295dc78"), looks := true }, kinds := [], alts := [], laidByText := true, laidKinds := [.data, .data, .data, .data, .sentinel, .sentinel, .listed, .data, .pinned], laidTests := true, laidLooks := .later }
def NetworkMailUptoCardSaid : Prop := Claim7.holds Tryz.pinned (.plain (OpenSpec.upto networkMailSpec)) networkMailUptoCard

/-- THE SECOND FORM's CARD OF 'treasurylaw17.NetworkCrash'. -/
def networkCrashUptoCard : Claim7 := { stood := { row := networkCrashUptoRow, standIns := [], harness := (true, "669eed732f06b7312d9fcaffd780761956b6d074c54efb2d7ea51b12f295dc78"), looks := true }, kinds := [], alts := [], laidByText := true, laidKinds := [.data, .data, .data, .data, .sentinel, .sentinel, .listed, .data, .pinned], laidTests := true, laidLooks := .later }
def NetworkCrashUptoCardSaid : Prop := Claim7.holds Tryz.pinned (.plain (OpenSpec.upto networkCrashSpec)) networkCrashUptoCard

/-- THE SECOND FORM's CARD OF 'treasurylaw17.NetworkCalm'. -/
def networkCalmUptoCard : Claim7 := { stood := { row := networkCalmUptoRow, standIns := [], harness := (true, "669eed732f06b7312d9fcaffd780761956b6d074c54efb2d7ea51b12f295dc78"), looks := true }, kinds := [], alts := [], laidByText := true, laidKinds := [.data, .data, .data, .data, .sentinel, .sentinel, .listed, .data, .pinned], laidTests := true, laidLooks := .later }
def NetworkCalmUptoCardSaid : Prop := Claim7.holds Tryz.pinned (.plain (OpenSpec.upto networkCalmSpec)) networkCalmUptoCard
end Rows
end Go.Proofs.YtdmddkbngmhepaaGreatDoor
