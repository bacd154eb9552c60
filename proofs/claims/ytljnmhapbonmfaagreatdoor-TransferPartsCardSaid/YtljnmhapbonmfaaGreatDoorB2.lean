/- A part of the proof: the statement out of the plain law. No condition. -/
import Derived.Test.YtljnmhapbonmfaaGreatDoorB1
import Derived.Test.YtljnmhapbonmfaaGreatDoorG4
import Derived.Test.YtljnmhapbonmfaaGreatDoorT6
namespace Go.Proofs.YtljnmhapbonmfaaGreatDoor
open Go Go.TA Go.ChangeShapes Go.WideShapes Go.ChangeAt Go.RowKit
section
variable {H:Type} {enc:TypeId×Value->H} {W:World} {base:Nat} {spare:Nat->Bool} {held:Bool}
theorem zkc:Reads enc Tryz.prog W base spare held 3 1 (DV.i .i64) (fun n=>(Lit.int .i64 n).wf=true):=zgu Tryz.underlying3
theorem ziu:Reads enc Tryz.prog W base spare held 22 1 (eL (DV.i .i64)) (fun l=>l.length<=maxLen/\∀ n∈l,(Lit.int .i64 n).wf=true):=zdp Tryz.underlying22 kj dk zkc
end
end Go.Proofs.YtljnmhapbonmfaaGreatDoor
