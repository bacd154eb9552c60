/- A part of the proof: the statement out of the plain law. No condition. -/
import Derived.SevenTiedAt
import Derived.Test.YtljnmhapbonmfaaGreatDoorCards
namespace Go.Proofs.YtljnmhapbonmfaaGreatDoor
open Go Go.ChangeShapes Go.WideShapes
set_option maxRecDepth 100000
theorem z6m:joinedFacts Tryz.pinned.checked.prog 3 Tryz.f3 Rows.transferRoomSpec Rows.transferRoomRow=true:=by kernel_rfl
end Go.Proofs.YtljnmhapbonmfaaGreatDoor
