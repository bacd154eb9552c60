/- A part of the proof: the statement out of the plain law. No condition. -/
import Derived.SevenTiedAt
import Derived.Test.YtdmddkbngmhepaaGreatDoorCards
namespace Go.Proofs.YtdmddkbngmhepaaGreatDoor
open Go Go.ChangeShapes Go.WideShapes
set_option maxRecDepth 100000
theorem zor:joinedFacts Tryz.pinned.checked.prog 6 Tryz.f6 Rows.networkCrashSpec Rows.networkCrashRow=true:=by kernel_rfl
end Go.Proofs.YtdmddkbngmhepaaGreatDoor
