/-
  DERIVED. GIVEN WITH THE SEED: THE CARDS: each row of YtpbnkbjhlhlaiaaGreatDoorRows.lean that lists a variable, with what it lists TIED to the program's text (the seventh form; the later family's looks); each row that meets fmt, with fmt's text TOLD by the authors' own Lean function (tested against real Go, not proved from fmt's source: count such statements apart). THE CARD IS WHAT COUNTS. Prove the row's statement (the work); the ties are given (YtpbnkbjhlhlaiaaGreatDoorTie.lean); close each card by the builder's one call (the guide's Derived/Test/ToyasCard.lean, 'card_holds'). Laid BY PROGRAM, IN A SANDBOX (cutbox-door.mjs). By AI agents, Wed Nov 11 2026. No macro, syntax, notation, axiom, sorry.
-/
import Derived.Test.YtpbnkbjhlhlaiaaGreatDoorRows
import GoSem.ClaimSeven
namespace Go.Proofs.YtpbnkbjhlhlaiaaGreatDoor
namespace Rows

/-- THE TIED CARD OF 'treasurylaw16.JournalReads'. -/
def journalReadsCard : Claim7 := { stood := { row := journalReadsRow, standIns := [], harness := (true, "a046f959167196f1947efdc373cf594bcaa8bf901ae25245f32420e4361af9c6"), looks := true }, kinds := [], alts := [], laidByText := true, laidKinds := [.data, .data, .data, .data, .sentinel, .sentinel, .listed, .data, .pinned], laidTests := true, laidLooks := .later }
def JournalReadsCardSaid : Prop := Claim7.holds Tryz.pinned (.plain (OpenSpec.ofChange journalReadsSpec)) journalReadsCard

/-- THE TIED CARD OF 'treasurylaw16.JournalTorn'. -/
def journalTornCard : Claim7 := { stood := { row := journalTornRow, standIns := [], harness := (true, "a046f959167196f1947efdc373cf594bcaa8bf901ae25245f32420e4361af9c6"), looks := true }, kinds := [], alts := [], laidByText := true, laidKinds := [.data, .data, .data, .data, .sentinel, .sentinel, .listed, .data, .pinned], laidTests := true, laidLooks := .later }
def JournalTornCardSaid : Prop := Claim7.holds Tryz.pinned (.plain (OpenSpec.ofChange journalTornSpec)) journalTornCard

/-- THE TIED CARD OF 'treasurylaw16.JournalCrash'. -/
def journalCrashCard : Claim7 := { stood := { row := journalCrashRow, standIns := [], harness := (true, "a046f959167196f1947efdc373cf594bcaa8bf901ae25245f32420e4361af9c6"), looks := true }, kinds := [], alts := [], laidByText := true, laidKinds := [.data, .data, .data, .data, .sentinel, .sentinel, .listed, .data, .pinned], laidTests := true, laidLooks := .later }
def JournalCrashCardSaid : Prop := Claim7.holds Tryz.pinned (.plain (OpenSpec.ofChange journalCrashSpec)) journalCrashCard

/-- THE TIED CARD OF 'treasurylaw16.JournalAppends'. -/
def journalAppendsCard : Claim7 := { stood := { row := journalAppendsRow, standIns := [], harness := (true, "a046f959167196f1947efdc373cf594bcaa8bf901ae25245f32420e4361af9c6"), looks := true }, kinds := [], alts := [], laidByText := true, laidKinds := [.data, .data, .data, .data, .sentinel, .sentinel, .listed, .data, .pinned], laidTests := true, laidLooks := .later }
def JournalAppendsCardSaid : Prop := Claim7.holds Tryz.pinned (.plain (OpenSpec.ofChange journalAppendsSpec)) journalAppendsCard

/-- THE TIED CARD OF 'treasurylaw16.JournalAnswers'. -/
def journalAnswersCard : Claim7 := { stood := { row := journalAnswersRow, standIns := [], harness := (true, "a046f959167196f1947efdc373cf594bcaa8bf901ae25245f32420e4361af9c6"), looks := true }, kinds := [], alts := [], laidByText := true, laidKinds := [.data, .data, .data, .data, .sentinel, .sentinel, .listed, .data, .pinned], laidTests := true, laidLooks := .later }
def JournalAnswersCardSaid : Prop := Claim7.holds Tryz.pinned (.plain (OpenSpec.ofChange journalAnswersSpec)) journalAnswersCard

/-- THE SECOND FORM's CARD OF 'treasurylaw16.JournalReads'. -/
def journalReadsUptoCard : Claim7 := { stood := { row := journalReadsUptoRow, standIns := [], harness := (true, "a046f959167196f1947efdc373cf594bcaa8bf901ae25245f32420e4361af9c6"), looks := true }, kinds := [], alts := [], laidByText := true, laidKinds := [.data, .data, .data, .data, .sentinel, .sentinel, .listed, .data, .pinned], laidTests := true, laidLooks := .later }
def JournalReadsUptoCardSaid : Prop := Claim7.holds Tryz.pinned (.plain (OpenSpec.upto journalReadsSpec)) journalReadsUptoCard

/-- THE SECOND FORM's CARD OF 'treasurylaw16.JournalTorn'. -/
def journalTornUptoCard : Claim7 := { stood := { row := journalTornUptoRow, standIns := [], harness := (true, "a046f959167196f1947efdc373cf594bcaa8bf901ae25245f32420e4361af9c6"), looks := true }, kinds := [], alts := [], laidByText := true, laidKinds := [.data, .data, .data, .data, .sentinel, .sentinel, .listed, .data, .pinned], laidTests := true, laidLooks := .later }
def JournalTornUptoCardSaid : Prop := Claim7.holds Tryz.pinned (.plain (OpenSpec.upto journalTornSpec)) journalTornUptoCard

/-- THE SECOND FORM's CARD OF 'treasurylaw16.JournalCrash'. -/
def journalCrashUptoCard : Claim7 := { stood := { row := journalCrashUptoRow, standIns := [], harness := (true, "a046f959167196f1947efdc373cf594bcaa8bf901ae25245f32420e4361af9c6"), looks := true }, kinds := [], alts := [], laidByText := true, laidKinds := [.data, .data, .data, .data, .sentinel, .sentinel, .listed, .data, .pinned], laidTests := true, laidLooks := .later }
def JournalCrashUptoCardSaid : Prop := Claim7.holds Tryz.pinned (.plain (OpenSpec.upto journalCrashSpec)) journalCrashUptoCard

/-- THE SECOND FORM's CARD OF 'treasurylaw16.JournalAppends'. -/
def journalAppendsUptoCard : Claim7 := { stood := { row := journalAppendsUptoRow, standIns := [], harness := (true, "a046f959167196f1947efdc373cf594bcaa8bf901ae25245f32420e4361af9c6"), looks := true }, kinds := [], alts := [], laidByText := true, laidKinds := [.data, .data, .data, .data, .sentinel, .sentinel, .listed, .data, .pinned], laidTests := true, laidLooks := .later }
def JournalAppendsUptoCardSaid : Prop := Claim7.holds Tryz.pinned (.plain (OpenSpec.upto journalAppendsSpec)) journalAppendsUptoCard

/-- THE SECOND FORM's CARD OF 'treasurylaw16.JournalAnswers'. -/
def journalAnswersUptoCard : Claim7 := { stood := { row := journalAnswersUptoRow, standIns := [], harness := (true, "a046f959167196f1947efdc373cf594bcaa8bf901ae25245f32420e4361af9c6"), looks := true }, kinds := [], alts := [], laidByText := true, laidKinds := [.data, .data, .data, .data, .sentinel, .sentinel, .listed, .data, .pinned], laidTests := true, laidLooks := .later }
def JournalAnswersUptoCardSaid : Prop := Claim7.holds Tryz.pinned (.plain (OpenSpec.upto journalAnswersSpec)) journalAnswersUptoCard
end Rows
end Go.Proofs.YtpbnkbjhlhlaiaaGreatDoor
