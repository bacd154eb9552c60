/- A part of the proof: the statement out of the plain law. No condition. -/
import Derived.SevenTiedAt
import Derived.Test.YtlhikmklpelceaaGreatDoorCards
namespace Go.Proofs.YtlhikmklpelceaaGreatDoor
open Go Go.ChangeShapes Go.WideShapes
set_option maxRecDepth 100000
theorem z97:false=Rows.reductionRecallsRow.goesBy Tryz.pinned.checked.prog:=by kernel_rfl
end Go.Proofs.YtlhikmklpelceaaGreatDoor
