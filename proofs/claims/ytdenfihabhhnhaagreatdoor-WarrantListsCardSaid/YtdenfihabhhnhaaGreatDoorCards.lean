/-
  DERIVED. GIVEN WITH THE SEED: THE CARDS: each row of YtdenfihabhhnhaaGreatDoorRows.lean that lists a variable, with what it lists TIED to the program's text (the seventh form; the later family's looks); each row that meets fmt, with fmt's text TOLD by the authors' own Lean function (tested against real Go, not proved from fmt's source: count such statements apart). THE CARD IS WHAT COUNTS. Prove the row's statement (the work); the ties are given (YtdenfihabhhnhaaGreatDoorTie.lean); close each card by the builder's one call (the guide's Derived/Test/ToyasCard.lean, 'card_holds'). Laid BY PROGRAM, IN A SANDBOX (cutbox-door.mjs). By AI agents, Wed Nov 11 2026. No macro, syntax, notation, axiom, sorry.
-/
import Derived.Test.YtdenfihabhhnhaaGreatDoorRows
import GoSem.ClaimSeven
namespace Go.Proofs.YtdenfihabhhnhaaGreatDoor
namespace Rows

/-- THE TIED CARD OF 'treasurylaw19.WarrantMakes'. -/
def warrantMakesCard : Claim7 := { stood := { row := warrantMakesRow, standIns := [], harness := (true, "f151df888f814d211f538bcffb06f8bb1427997e59badaa966d98840a97866a9"), looks := true }, kinds := [], alts := [], laidByText := true, laidKinds := [.data, .data, .data, .data, .sentinel, .sentinel, .pinned], laidTests := true, laidLooks := .later }
def WarrantMakesCardSaid : Prop := Claim7.holds Tryz.pinned (.plain (OpenSpec.ofChange warrantMakesSpec)) warrantMakesCard

/-- THE TIED CARD OF 'treasurylaw19.WarrantLists'. -/
def warrantListsCard : Claim7 := { stood := { row := warrantListsRow, standIns := [], harness := (true, "f151df888f814d211f538bcffb06f8bb1427997e59badaa966d98840a97866a9"), looks := true }, kinds := [], alts := [], laidByText := true, laidKinds := [.data, .data, .data, .data, .sentinel, .sentinel, .pinned], laidTests := true, laidLooks := .later }
def WarrantListsCardSaid : Prop := Claim7.holds Tryz.pinned (.plain (OpenSpec.ofChange warrantListsSpec)) warrantListsCard

/-- THE SECOND FORM's CARD OF 'treasurylaw19.WarrantMakes'. -/
def warrantMakesUptoCard : Claim7 := { stood := { row := warrantMakesUptoRow, standIns := [], harness := (true, "f151df888f814d211f538bcffb06f8bb1427997e59badaa966d98840a97866a9"), looks := true }, kinds := [], alts := [], laidByText := true, laidKinds := [.data, .data, .data, .data, .sentinel, .sentinel, .pinned], laidTests := true, laidLooks := .later }
def WarrantMakesUptoCardSaid : Prop := Claim7.holds Tryz.pinned (.plain (OpenSpec.upto warrantMakesSpec)) warrantMakesUptoCard

/-- THE SECOND FORM's CARD OF 'treasurylaw19.WarrantLists'. -/
def warrantListsUptoCard : Claim7 := { stood := { row := warrantListsUptoRow, standIns := [], harness := (true, "f151df888f814d211f538bcffb06f8bb1427997e59badaa966d98840a97866a9"), looks := true }, kinds := [], alts := [], laidByText := true, laidKinds := [.data, .data, .data, .data, .sentinel, .sentinel, .pinned], laidTests := true, laidLooks := .later }
def WarrantListsUptoCardSaid : Prop := Claim7.holds Tryz.pinned (.plain (OpenSpec.upto warrantListsSpec)) warrantListsUptoCard
end Rows
end Go.Proofs.YtdenfihabhhnhaaGreatDoor
