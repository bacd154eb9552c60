/- A part of the proof: the statement out of the plain law. No condition. -/
import Derived.Test.YtkhgaalekilaeaaGreatDoorB3
import Derived.Test.YtkhgaalekilaeaaGreatDoorB4
import Derived.Test.YtkhgaalekilaeaaGreatDoorB5
import Derived.Test.YtkhgaalekilaeaaGreatDoorB6
import Derived.Test.YtkhgaalekilaeaaGreatDoorB7
import Derived.Test.YtkhgaalekilaeaaGreatDoorB8
import Derived.Test.YtkhgaalekilaeaaGreatDoorB9
namespace Go.Proofs.YtkhgaalekilaeaaGreatDoor
open Go Go.ChangeShapes Go.WideShapes
set_option maxRecDepth 100000
theorem z9i:joinedFacts Tryz.pinned.checked.prog 3 Tryz.f3 Rows.networkAnswersSpec Rows.networkAnswersRow=true:=by
 unfold joinedFacts
 rw[zao,zap,zaq,zar,zas,zat,zau]
 kernel_rfl
end Go.Proofs.YtkhgaalekilaeaaGreatDoor
