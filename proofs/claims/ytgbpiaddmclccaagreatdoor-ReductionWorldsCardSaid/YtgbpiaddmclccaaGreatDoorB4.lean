/- A part of the proof: the statement out of the plain law. No condition. -/
import Derived.SevenTiedAt
import Derived.Test.YtgbpiaddmclccaaGreatDoorCards
namespace Go.Proofs.YtgbpiaddmclccaaGreatDoor
open Go Go.ChangeShapes Go.WideShapes
set_option maxRecDepth 100000
theorem zaj:(Rows.reductionWorldsRow.unfollowed==Tryz.pinned.checked.prog.unfollowed 3)=true:=by kernel_rfl
end Go.Proofs.YtgbpiaddmclccaaGreatDoor
