/- A part of the proof: the statement out of the plain law. No condition. -/
import Derived.Test.YtiohhffifhaboaaGreatDoorB1
import Derived.Test.YtiohhffifhaboaaGreatDoorG4
import Derived.Test.YtiohhffifhaboaaGreatDoorT10
namespace Go.Proofs.YtiohhffifhaboaaGreatDoor
open Go Go.TA Go.ChangeShapes Go.WideShapes Go.ChangeAt Go.RowKit
section
variable {H:Type} {enc:TypeId×Value->H} {W:World} {base:Nat} {spare:Nat->Bool} {held:Bool}
theorem zh4:Reads enc Tryz.prog W base spare held 3 1 (DV.i .i64) (fun n=>(Lit.int .i64 n).wf=true):=ze3 Tryz.underlying3
theorem zfu:Reads enc Tryz.prog W base spare held 22 1 (eL (DV.i .i64)) (fun l=>l.length<=maxLen/\∀ n∈l,(Lit.int .i64 n).wf=true):=zbc Tryz.underlying22 kj dk zh4
end
end Go.Proofs.YtiohhffifhaboaaGreatDoor
