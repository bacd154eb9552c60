/- A part of the proof: the statement out of the plain law. No condition. -/
import Derived.SevenTiedAt
import Derived.Test.YtgfgnhpecnmlpaaGreatDoorCards
namespace Go.Proofs.YtgfgnhpecnmlpaaGreatDoor
open Go Go.ChangeShapes Go.WideShapes
set_option maxRecDepth 100000
theorem ze8:false=Rows.amendmentDifferenceRow.goesBy Tryz.pinned.checked.prog:=by kernel_rfl
end Go.Proofs.YtgfgnhpecnmlpaaGreatDoor
