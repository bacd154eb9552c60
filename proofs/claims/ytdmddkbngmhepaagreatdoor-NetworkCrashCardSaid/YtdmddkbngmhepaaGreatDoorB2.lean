/- A part of the proof: the statement out of the plain law. No condition. -/
import Derived.Test.YtdmddkbngmhepaaGreatDoorB1
import Derived.Test.YtdmddkbngmhepaaGreatDoorP4
import Derived.Test.YtdmddkbngmhepaaGreatDoorT10
namespace Go.Proofs.YtdmddkbngmhepaaGreatDoor
open Go Go.TA Go.ChangeShapes Go.WideShapes Go.ChangeAt Go.RowKit
section
variable {H:Type} {enc:TypeId×Value->H} {W:World} {base:Nat} {spare:Nat->Bool} {held:Bool}
theorem zs9:Reads enc Tryz.prog W base spare held 3 1 (DV.i .i64) (fun n=>(Lit.int .i64 n).wf=true):=zmi Tryz.underlying3
theorem zqb:Reads enc Tryz.prog W base spare held 22 1 (eL (DV.i .i64)) (fun l=>l.length<=maxLen/\∀ n∈l,(Lit.int .i64 n).wf=true):=zii Tryz.underlying22 kj dk zs9
end
end Go.Proofs.YtdmddkbngmhepaaGreatDoor
