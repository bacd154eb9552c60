/- A part of the proof: the statement out of the plain law. No condition. -/
import Derived.SevenTiedAt
import Derived.Test.YtiohhffifhaboaaGreatDoorCards
namespace Go.Proofs.YtiohhffifhaboaaGreatDoor
open Go Go.ChangeShapes Go.WideShapes
set_option maxRecDepth 100000
theorem z7y:false=Rows.warrantAnswersRow.goesBy Tryz.pinned.checked.prog:=by kernel_rfl
end Go.Proofs.YtiohhffifhaboaaGreatDoor
