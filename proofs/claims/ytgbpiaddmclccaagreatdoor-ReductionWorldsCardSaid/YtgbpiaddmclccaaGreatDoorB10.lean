/- A part of the proof: the statement out of the plain law. No condition. -/
import Derived.Test.YtgbpiaddmclccaaGreatDoorB3
import Derived.Test.YtgbpiaddmclccaaGreatDoorB4
import Derived.Test.YtgbpiaddmclccaaGreatDoorB5
import Derived.Test.YtgbpiaddmclccaaGreatDoorB6
import Derived.Test.YtgbpiaddmclccaaGreatDoorB7
import Derived.Test.YtgbpiaddmclccaaGreatDoorB8
import Derived.Test.YtgbpiaddmclccaaGreatDoorB9
namespace Go.Proofs.YtgbpiaddmclccaaGreatDoor
open Go Go.ChangeShapes Go.WideShapes
set_option maxRecDepth 100000
theorem z8p:joinedFacts Tryz.pinned.checked.prog 3 Tryz.f3 Rows.reductionWorldsSpec Rows.reductionWorldsRow=true:=by
 unfold joinedFacts
 rw[zai,zaj,zak,zal,zam,zan,zao]
 kernel_rfl
end Go.Proofs.YtgbpiaddmclccaaGreatDoor
