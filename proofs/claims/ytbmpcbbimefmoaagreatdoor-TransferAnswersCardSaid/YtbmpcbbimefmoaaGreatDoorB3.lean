/- A part of the proof: the statement out of the plain law. No condition. -/
import Derived.SevenTiedAt
import Derived.Test.YtbmpcbbimefmoaaGreatDoorCards
namespace Go.Proofs.YtbmpcbbimefmoaaGreatDoor
open Go Go.ChangeShapes Go.WideShapes
set_option maxRecDepth 100000
theorem z6z:joinedFacts Tryz.pinned.checked.prog 3 Tryz.f3 Rows.transferAnswersSpec Rows.transferAnswersRow=true:=by kernel_rfl
end Go.Proofs.YtbmpcbbimefmoaaGreatDoor
