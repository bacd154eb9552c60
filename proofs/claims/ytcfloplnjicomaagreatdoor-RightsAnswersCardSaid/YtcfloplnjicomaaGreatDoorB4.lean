/- A part of the proof: the statement out of the plain law. No condition. -/
import Derived.SevenTiedAt
import Derived.Test.YtcfloplnjicomaaGreatDoorCards
namespace Go.Proofs.YtcfloplnjicomaaGreatDoor
open Go Go.ChangeShapes Go.WideShapes
set_option maxRecDepth 100000
theorem z7d:false=Rows.rightsAnswersRow.goesBy Tryz.pinned.checked.prog:=by kernel_rfl
end Go.Proofs.YtcfloplnjicomaaGreatDoor
