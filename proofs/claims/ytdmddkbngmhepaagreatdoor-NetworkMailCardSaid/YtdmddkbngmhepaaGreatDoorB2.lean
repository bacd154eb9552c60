/- A part of the proof: the statement out of the plain law. No condition. -/
import Derived.Test.YtdmddkbngmhepaaGreatDoorB1
import Derived.Test.YtdmddkbngmhepaaGreatDoorP4
import Derived.Test.YtdmddkbngmhepaaGreatDoorT10
namespace Go.Proofs.YtdmddkbngmhepaaGreatDoor
open Go Go.TA Go.ChangeShapes Go.WideShapes Go.ChangeAt Go.RowKit
section
variable {H:Type} {enc:TypeId×Value->H} {W:World} {base:Nat} {spare:Nat->Bool} {held:Bool}
theorem zrp:Reads enc Tryz.prog W base spare held 3 1 (DV.i .i64) (fun n=>(Lit.int .i64 n).wf=true):=zm4 Tryz.underlying3
theorem zpl:Reads enc Tryz.prog W base spare held 22 1 (eL (DV.i .i64)) (fun l=>l.length<=maxLen/\∀ n∈l,(Lit.int .i64 n).wf=true):=zi5 Tryz.underlying22 kj dk zrp
end
end Go.Proofs.YtdmddkbngmhepaaGreatDoor
