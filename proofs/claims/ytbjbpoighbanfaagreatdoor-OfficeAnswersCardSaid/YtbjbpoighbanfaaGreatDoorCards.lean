/-
  DERIVED. GIVEN WITH THE SEED: THE CARDS: each row of YtbjbpoighbanfaaGreatDoorRows.lean that lists a variable, with what it lists TIED to the program's text (the seventh form; the later family's looks); each row that meets fmt, with fmt's text TOLD by the authors' own Lean function (tested against real Go, not proved from fmt's source: count such statements apart). THE CARD IS WHAT COUNTS. Prove the row's statement (the work); the ties are given (YtbjbpoighbanfaaGreatDoorTie.lean); close each card by the builder's one call (the guide's Derived/Test/ToyasCard.lean, 'card_holds'). Laid BY PROGRAM, IN A SANDBOX (cutbox-door.mjs). By AI agents, Wed Nov 11 2026. No macro, syntax, notation, axiom, sorry.
-/
import Derived.Test.YtbjbpoighbanfaaGreatDoorRows
import GoSem.ClaimSeven
namespace Go.Proofs.YtbjbpoighbanfaaGreatDoor
namespace Rows

/-- THE TIED CARD OF 'treasurylaw15.OfficeKeeps'. -/
def officeKeepsCard : Claim7 := { stood := { row := officeKeepsRow, standIns := [], harness := (true, "a5b0b8145ba71cfda184fbec935f05896da9334911c9fb7fef6f3577770f6b4c"), looks := true }, kinds := [], alts := [], laidByText := true, laidKinds := [.data, .data, .data, .data, .sentinel, .sentinel, .pinned], laidTests := true, laidLooks := .later }
def OfficeKeepsCardSaid : Prop := Claim7.holds Tryz.pinned (.plain (OpenSpec.ofChange officeKeepsSpec)) officeKeepsCard

/-- THE TIED CARD OF 'treasurylaw15.OfficeUses'. -/
def officeUsesCard : Claim7 := { stood := { row := officeUsesRow, standIns := [], harness := (true, "a5b0b8145ba71cfda184fbec935f05896da9334911c9fb7fef6f3577770f6b4c"), looks := true }, kinds := [], alts := [], laidByText := true, laidKinds := [.data, .data, .data, .data, .sentinel, .sentinel, .pinned], laidTests := true, laidLooks := .later }
def OfficeUsesCardSaid : Prop := Claim7.holds Tryz.pinned (.plain (OpenSpec.ofChange officeUsesSpec)) officeUsesCard

/-- THE TIED CARD OF 'treasurylaw15.OfficeReserves'. -/
def officeReservesCard : Claim7 := { stood := { row := officeReservesRow, standIns := [], harness := (true, "a5b0b8145ba71cfda184fbec935f05896da9334911c9fb7fef6f3577770f6b4c"), looks := true }, kinds := [], alts := [], laidByText := true, laidKinds := [.data, .data, .data, .data, .sentinel, .sentinel, .pinned], laidTests := true, laidLooks := .later }
def OfficeReservesCardSaid : Prop := Claim7.holds Tryz.pinned (.plain (OpenSpec.ofChange officeReservesSpec)) officeReservesCard

/-- THE TIED CARD OF 'treasurylaw15.OfficeAnswersAsked'. -/
def officeAnswersAskedCard : Claim7 := { stood := { row := officeAnswersAskedRow, standIns := [], harness := (true, "a5b0b8145ba71cfda184fbec935f05896da9334911c9fb7fef6f3577770f6b4c"), looks := true }, kinds := [], alts := [], laidByText := true, laidKinds := [.data, .data, .data, .data, .sentinel, .sentinel, .pinned], laidTests := true, laidLooks := .later }
def OfficeAnswersAskedCardSaid : Prop := Claim7.holds Tryz.pinned (.plain (OpenSpec.ofChange officeAnswersAskedSpec)) officeAnswersAskedCard

/-- THE TIED CARD OF 'treasurylaw15.OfficeAnswers'. -/
def officeAnswersCard : Claim7 := { stood := { row := officeAnswersRow, standIns := [], harness := (true, "a5b0b8145ba71cfda184fbec935f05896da9334911c9fb7fef6f3577770f6b4c"), looks := true }, kinds := [], alts := [], laidByText := true, laidKinds := [.data, .data, .data, .data, .sentinel, .sentinel, .pinned], laidTests := true, laidLooks := .later }
def OfficeAnswersCardSaid : Prop := Claim7.holds Tryz.pinned (.plain (OpenSpec.ofChange officeAnswersSpec)) officeAnswersCard

/-- THE SECOND FORM's CARD OF 'treasurylaw15.OfficeKeeps'. -/
def officeKeepsUptoCard : Claim7 := { stood := { row := officeKeepsUptoRow, standIns := [], harness := (true, "a5b0b8145ba71cfda184fbec935f05896da9334911c9fb7fef6f3577770f6b4c"), looks := true }, kinds := [], alts := [], laidByText := true, laidKinds := [.data, .data, .data, .data, .sentinel, .sentinel, .pinned], laidTests := true, laidLooks := .later }
def OfficeKeepsUptoCardSaid : Prop := Claim7.holds Tryz.pinned (.plain (OpenSpec.upto officeKeepsSpec)) officeKeepsUptoCard

/-- THE SECOND FORM's CARD OF 'treasurylaw15.OfficeUses'. -/
def officeUsesUptoCard : Claim7 := { stood := { row := officeUsesUptoRow, standIns := [], harness := (true, "a5b0b8145ba71cfda184fbec935f05896da9334911c9fb7fef6f3577770f6b4c"), looks := true }, kinds := [], alts := [], laidByText := true, laidKinds := [.data, .data, .data, .data, .sentinel, .sentinel, .pinned], laidTests := true, laidLooks := .later }
def OfficeUsesUptoCardSaid : Prop := Claim7.holds Tryz.pinned (.plain (OpenSpec.upto officeUsesSpec)) officeUsesUptoCard

/-- THE SECOND FORM's CARD OF 'treasurylaw15.OfficeReserves'. -/
def officeReservesUptoCard : Claim7 := { stood := { row := officeReservesUptoRow, standIns := [], harness := (true, "a5b0b8145ba71cfda184fbec935f05896da9334911c9fb7fef6f3577770f6b4c"), looks := true }, kinds := [], alts := [], laidByText := true, laidKinds := [.data, .data, .data, .data, .sentinel, .sentinel, .pinned], laidTests := true, laidLooks := .later }
def OfficeReservesUptoCardSaid : Prop := Claim7.holds Tryz.pinned (.plain (OpenSpec.upto officeReservesSpec)) officeReservesUptoCard

/-- THE SECOND FORM's CARD OF 'treasurylaw15.OfficeAnswersAsked'. -/
def officeAnswersAskedUptoCard : Claim7 := { stood := { row := officeAnswersAskedUptoRow, standIns := [], harness := (true, "a5b0b8145ba71cfda184fbec935f05896da9334911c9fb7fef6f3577770f6b4c"), looks := true }, kinds := [], alts := [], laidByText := true, laidKinds := [.data, .data, .data, .data, .sentinel, .sentinel, .pinned], laidTests := true, laidLooks := .later }
def OfficeAnswersAskedUptoCardSaid : Prop := Claim7.holds Tryz.pinned (.plain (OpenSpec.upto officeAnswersAskedSpec)) officeAnswersAskedUptoCard

/-- THE SECOND FORM's CARD OF 'treasurylaw15.OfficeAnswers'. -/
def officeAnswersUptoCard : Claim7 := { stood := { row := officeAnswersUptoRow, standIns := [], harness := (true, "a5b0b8145ba71cfda184fbec935f05896da9334911c9fb7fef6f3577770f6b4c"), looks := true }, kinds := [], alts := [], laidByText := true, laidKinds := [.data, .data, .data, .data, .sentinel, .sentinel, .pinned], laidTests := true, laidLooks := .later }
def OfficeAnswersUptoCardSaid : Prop := Claim7.holds Tryz.pinned (.plain (OpenSpec.upto officeAnswersSpec)) officeAnswersUptoCard
end Rows
end Go.Proofs.YtbjbpoighbanfaaGreatDoor
