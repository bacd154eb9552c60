/-
  DERIVED. GIVEN WITH THE SEED: THE CARDS: each row of YtclaojamgomjbaaGreatDoorRows.lean that lists a variable, with what it lists TIED to the program's text (the seventh form; the later family's looks); each row that meets fmt, with fmt's text TOLD by the authors' own Lean function (tested against real Go, not proved from fmt's source: count such statements apart). THE CARD IS WHAT COUNTS. Prove the row's statement (the work); the ties are given (YtclaojamgomjbaaGreatDoorTie.lean); close each card by the builder's one call (the guide's Derived/Test/ToyasCard.lean, 'card_holds'). Laid BY PROGRAM, IN A SANDBOX (cutbox-door.mjs). By AI agents, Wed Nov 11 2026. No macro, syntax, notation, axiom, sorry.
-/
import Derived.Test.YtclaojamgomjbaaGreatDoorRows
import GoSem.ClaimSeven
namespace Go.Proofs.YtclaojamgomjbaaGreatDoor
namespace Rows

/-- THE TIED CARD OF 'treasurylaw20.ControlBent'. -/
def controlBentCard : Claim7 := { stood := { row := controlBentRow, standIns := [], harness := (true, "07a41d8f341f2188b7a339e79322385bbcc057ccf64afb2b7fa19d4360a6bbe5"), looks := true }, kinds := [], alts := [], laidByText := true, laidKinds := [.data, .data, .data, .data, .sentinel, .sentinel, .pinned], laidTests := true, laidLooks := .later }
def ControlBentCardSaid : Prop := Claim7.holds Tryz.pinned (.plain (OpenSpec.ofChange controlBentSpec)) controlBentCard

/-- THE TIED CARD OF 'treasurylaw20.ControlDays'. -/
def controlDaysCard : Claim7 := { stood := { row := controlDaysRow, standIns := [], harness := (true, "07a41d8f341f2188b7a339e79322385bbcc057ccf64afb2b7fa19d4360a6bbe5"), looks := true }, kinds := [], alts := [], laidByText := true, laidKinds := [.data, .data, .data, .data, .sentinel, .sentinel, .pinned], laidTests := true, laidLooks := .later }
def ControlDaysCardSaid : Prop := Claim7.holds Tryz.pinned (.plain (OpenSpec.ofChange controlDaysSpec)) controlDaysCard

/-- THE TIED CARD OF 'treasurylaw20.ControlAnswers'. -/
def controlAnswersCard : Claim7 := { stood := { row := controlAnswersRow, standIns := [], harness := (true, "07a41d8f341f2188b7a339e79322385bbcc057ccf64afb2b7fa19d4360a6bbe5"), looks := true }, kinds := [], alts := [], laidByText := true, laidKinds := [.data, .data, .data, .data, .sentinel, .sentinel, .pinned], laidTests := true, laidLooks := .later }
def ControlAnswersCardSaid : Prop := Claim7.holds Tryz.pinned (.plain (OpenSpec.ofChange controlAnswersSpec)) controlAnswersCard

/-- THE TIED CARD OF 'treasurylaw20.ControlOnce'. -/
def controlOnceCard : Claim7 := { stood := { row := controlOnceRow, standIns := [], harness := (true, "07a41d8f341f2188b7a339e79322385bbcc057ccf64afb2b7fa19d4360a6bbe5"), looks := true }, kinds := [], alts := [], laidByText := true, laidKinds := [.data, .data, .data, .data, .sentinel, .sentinel, .pinned], laidTests := true, laidLooks := .later }
def ControlOnceCardSaid : Prop := Claim7.holds Tryz.pinned (.plain (OpenSpec.ofChange controlOnceSpec)) controlOnceCard

/-- THE TIED CARD OF 'treasurylaw20.ControlAgain'. -/
def controlAgainCard : Claim7 := { stood := { row := controlAgainRow, standIns := [], harness := (true, "07a41d8f341f2188b7a339e79322385bbcc057ccf64afb2b7fa19d4360a6bbe5"), looks := true }, kinds := [], alts := [], laidByText := true, laidKinds := [.data, .data, .data, .data, .sentinel, .sentinel, .pinned], laidTests := true, laidLooks := .later }
def ControlAgainCardSaid : Prop := Claim7.holds Tryz.pinned (.plain (OpenSpec.ofChange controlAgainSpec)) controlAgainCard

/-- THE SECOND FORM's CARD OF 'treasurylaw20.ControlBent'. -/
def controlBentUptoCard : Claim7 := { stood := { row := controlBentUptoRow, standIns := [], harness := (true, "07a41d8f341f2188b7a339e79322385bbcc057ccf64afb2b7fa19d4360a6bbe5"), looks := true }, kinds := [], alts := [], laidByText := true, laidKinds := [.data, .data, .data, .data, .sentinel, .sentinel, .pinned], laidTests := true, laidLooks := .later }
def ControlBentUptoCardSaid : Prop := Claim7.holds Tryz.pinned (.plain (OpenSpec.upto controlBentSpec)) controlBentUptoCard

/-- THE SECOND FORM's CARD OF 'treasurylaw20.ControlDays'. -/
def controlDaysUptoCard : Claim7 := { stood := { row := controlDaysUptoRow, standIns := [], harness := (true, "07a41d8f341f2188b7a339e79322385bbcc057ccf64afb2b7fa19d4360a6bbe5"), looks := true }, kinds := [], alts := [], laidByText := true, laidKinds := [.data, .data, .data, .data, .sentinel, .sentinel, .pinned], laidTests := true, laidLooks := .later }
def ControlDaysUptoCardSaid : Prop := Claim7.holds Tryz.pinned (.plain (OpenSpec.upto controlDaysSpec)) controlDaysUptoCard

/-- THE SECOND FORM's CARD OF 'treasurylaw20.ControlAnswers'. -/
def controlAnswersUptoCard : Claim7 := { stood := { row := controlAnswersUptoRow, standIns := [], harness := (true, "07a41d8f341f2188b7a339e79322385bbcc057ccf64afb2b7fa19d4360a6bbe5"), looks := true }, kinds := [], alts := [], laidByText := true, laidKinds := [.data, .data, .data, .data, .sentinel, .sentinel, .pinned], laidTests := true, laidLooks := .later }
def ControlAnswersUptoCardSaid : Prop := Claim7.holds Tryz.pinned (.plain (OpenSpec.upto controlAnswersSpec)) controlAnswersUptoCard

/-- THE SECOND FORM's CARD OF 'treasurylaw20.ControlOnce'. -/
def controlOnceUptoCard : Claim7 := { stood := { row := controlOnceUptoRow, standIns := [], harness := (true, "07a41d8f341f2188b7a339e79322385bbcc057ccf64afb2b7fa19d4360a6bbe5"), looks := true }, kinds := [], alts := [], laidByText := true, laidKinds := [.data, .data, .data, .data, .sentinel, .sentinel, .pinned], laidTests := true, laidLooks := .later }
def ControlOnceUptoCardSaid : Prop := Claim7.holds Tryz.pinned (.plain (OpenSpec.upto controlOnceSpec)) controlOnceUptoCard

/-- THE SECOND FORM's CARD OF 'treasurylaw20.ControlAgain'. -/
def controlAgainUptoCard : Claim7 := { stood := { row := controlAgainUptoRow, standIns := [], harness := (true, "07a41d8f341f2188b7a339e79322385bbcc057ccf64afb2b7fa19d4360a6bbe5"), looks := true }, kinds := [], alts := [], laidByText := true, laidKinds := [.data, .data, .data, .data, .sentinel, .sentinel, .pinned], laidTests := true, laidLooks := .later }
def ControlAgainUptoCardSaid : Prop := Claim7.holds Tryz.pinned (.plain (OpenSpec.upto controlAgainSpec)) controlAgainUptoCard
end Rows
end Go.Proofs.YtclaojamgomjbaaGreatDoor
