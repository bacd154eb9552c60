/- A part of the proof: the statement out of the plain law. No condition. -/
import Derived.SevenTiedAt
import Derived.Test.YtgfgnhpecnmlpaaGreatDoorCards
namespace Go.Proofs.YtgfgnhpecnmlpaaGreatDoor
open Go Go.ChangeShapes Go.WideShapes
set_option maxRecDepth 100000
theorem z6s:joinedFacts Tryz.pinned.checked.prog 5 Tryz.f5 Rows.amendmentOrderSpec Rows.amendmentOrderRow=true:=by kernel_rfl
end Go.Proofs.YtgfgnhpecnmlpaaGreatDoor
