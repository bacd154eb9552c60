/- A part of the proof: the statement out of the plain law. No condition. -/
import Derived.SevenTiedAt
import Derived.Test.YtbmpcbbimefmoaaGreatDoorCards
namespace Go.Proofs.YtbmpcbbimefmoaaGreatDoor
open Go Go.ChangeShapes Go.WideShapes
set_option maxRecDepth 100000
theorem z7k:false=Rows.transferAnswersRow.goesBy Tryz.pinned.checked.prog:=by kernel_rfl
end Go.Proofs.YtbmpcbbimefmoaaGreatDoor
