/- A part of the proof: the statement out of the plain law. No condition. -/
import Derived.Test.YtgfgnhpecnmlpaaGreatDoorB1
import Derived.Test.YtgfgnhpecnmlpaaGreatDoorG5
import Derived.Test.YtgfgnhpecnmlpaaGreatDoorT6
namespace Go.Proofs.YtgfgnhpecnmlpaaGreatDoor
open Go Go.TA Go.ChangeShapes Go.WideShapes Go.ChangeAt Go.RowKit
section
variable {H:Type} {enc:TypeId×Value->H} {W:World} {base:Nat} {spare:Nat->Bool} {held:Bool}
theorem zkv:Reads enc Tryz.prog W base spare held 3 1 (DV.i .i64) (fun n=>(Lit.int .i64 n).wf=true):=zhj Tryz.underlying3
theorem zji:Reads enc Tryz.prog W base spare held 22 1 (eL (DV.i .i64)) (fun l=>l.length<=maxLen/\∀ n∈l,(Lit.int .i64 n).wf=true):=zef Tryz.underlying22 kj dk zkv
end
end Go.Proofs.YtgfgnhpecnmlpaaGreatDoor
