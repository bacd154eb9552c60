/- A part of the proof: the statement out of the plain law. No condition. -/
import Derived.SevenTiedAt
import Derived.Test.YtcfloplnjicomaaGreatDoorCards
namespace Go.Proofs.YtcfloplnjicomaaGreatDoor
open Go Go.ChangeShapes Go.WideShapes
set_option maxRecDepth 100000
theorem z6y:joinedFacts Tryz.pinned.checked.prog 3 Tryz.f3 Rows.rightsAnswersSpec Rows.rightsAnswersRow=true:=by kernel_rfl
end Go.Proofs.YtcfloplnjicomaaGreatDoor
