/- A part of the proof: the statement out of the plain law. No condition. -/
import Derived.SevenTiedAt
import Derived.Test.YtiohhffifhaboaaGreatDoorCards
namespace Go.Proofs.YtiohhffifhaboaaGreatDoor
open Go Go.ChangeShapes Go.WideShapes
set_option maxRecDepth 100000
theorem z56:joinedFacts Tryz.pinned.checked.prog 3 Tryz.f3 Rows.warrantSignedSpec Rows.warrantSignedRow=true:=by kernel_rfl
end Go.Proofs.YtiohhffifhaboaaGreatDoor
