/- A part of the proof: the statement out of the plain law. No condition. -/
import Derived.SevenTiedAt
import Derived.Test.YtdmddkbngmhepaaGreatDoorCards
namespace Go.Proofs.YtdmddkbngmhepaaGreatDoor
open Go Go.ChangeShapes Go.WideShapes
set_option maxRecDepth 100000
theorem zo6:joinedFacts Tryz.pinned.checked.prog 5 Tryz.f5 Rows.networkMailSpec Rows.networkMailRow=true:=by kernel_rfl
end Go.Proofs.YtdmddkbngmhepaaGreatDoor
