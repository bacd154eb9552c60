/- A part of the proof: the statement out of the plain law. No condition. -/
import Derived.Test.YtclaojamgomjbaaGreatDoorB1
import Derived.Test.YtclaojamgomjbaaGreatDoorG6
import Derived.Test.YtclaojamgomjbaaGreatDoorT8
namespace Go.Proofs.YtclaojamgomjbaaGreatDoor
open Go Go.TA Go.ChangeShapes Go.WideShapes Go.ChangeAt Go.RowKit
section
variable {H : Type} {enc : TypeId × Value → H} {W : World} {base : Nat} {spare : Nat → Bool} {held : Bool}
theorem readsI3 : Reads enc Tryz.prog W base spare held 3 1 (DV.i .i64) (fun n => (Lit.int .i64 n).wf = true) := reads_int Tryz.underlying3
theorem readsL22 : Reads enc Tryz.prog W base spare held 22 1 (eL (DV.i .i64)) (fun l => l.length ≤ maxLen ∧ ∀ n ∈ l, (Lit.int .i64 n).wf = true) := reads_slice Tryz.underlying22 (by kernel_rfl) (by decide) readsI3
end
end Go.Proofs.YtclaojamgomjbaaGreatDoor
