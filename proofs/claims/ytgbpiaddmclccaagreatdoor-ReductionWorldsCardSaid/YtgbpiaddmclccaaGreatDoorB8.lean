/- A part of the proof: the statement out of the plain law. No condition. -/
import Derived.SevenTiedAt
import Derived.Test.YtgbpiaddmclccaaGreatDoorCards
namespace Go.Proofs.YtgbpiaddmclccaaGreatDoor
open Go Go.ChangeShapes Go.WideShapes
set_option maxRecDepth 100000
theorem zan:(Tryz.pinned.checked.prog.mayEnter)=true:=by kernel_rfl
end Go.Proofs.YtgbpiaddmclccaaGreatDoor
