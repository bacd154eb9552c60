/- A part of the proof: the statement out of the plain law. No condition. -/
import Derived.SevenTiedAt
import Derived.Test.YtiohhffifhaboaaGreatDoorCards
namespace Go.Proofs.YtiohhffifhaboaaGreatDoor
open Go Go.ChangeShapes Go.WideShapes
set_option maxRecDepth 100000
theorem z7h:joinedFacts Tryz.pinned.checked.prog 4 Tryz.f4 Rows.warrantAnswersSpec Rows.warrantAnswersRow=true:=by kernel_rfl
end Go.Proofs.YtiohhffifhaboaaGreatDoor
