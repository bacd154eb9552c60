/- A part of the proof: the statement out of the plain law. No condition. -/
import Derived.Test.YtlhikmklpelceaaGreatDoorB1
import Derived.Test.YtlhikmklpelceaaGreatDoorP5
import Derived.Test.YtlhikmklpelceaaGreatDoorT10
namespace Go.Proofs.YtlhikmklpelceaaGreatDoor
open Go Go.TA Go.ChangeShapes Go.WideShapes Go.ChangeAt Go.RowKit
section
variable {H:Type} {enc:TypeId×Value->H} {W:World} {base:Nat} {spare:Nat->Bool} {held:Bool}
theorem zt4:Reads enc Tryz.prog W base spare held 3 1 (DV.i .i64) (fun n=>(Lit.int .i64 n).wf=true):=zmu Tryz.underlying3
theorem zqu:Reads enc Tryz.prog W base spare held 22 1 (eL (DV.i .i64)) (fun l=>l.length<=maxLen/\∀ n∈l,(Lit.int .i64 n).wf=true):=zio Tryz.underlying22 kj dk zt4
end
end Go.Proofs.YtlhikmklpelceaaGreatDoor
