/- A part of the proof: the statement out of the plain law. No condition. -/
import Derived.Test.YtkabfdfkegjfdaaDoorB1
import Derived.Test.YtkabfdfkegjfdaaDoorG3
import Derived.Test.YtkabfdfkegjfdaaDoorT7
namespace Go.Proofs.YtkabfdfkegjfdaaDoor
open Go Go.TA Go.ChangeShapes Go.WideShapes Go.ChangeAt Go.RowKit
section
variable {H : Type} {enc : TypeId × Value → H} {W : World} {base : Nat} {spare : Nat → Bool} {held : Bool}
theorem readsI3 : Reads enc Tryd.prog W base spare held 3 1 (DV.i .i64) (fun n => (Lit.int .i64 n).wf = true) := reads_int Tryd.underlying3
theorem readsL22 : Reads enc Tryd.prog W base spare held 22 1 (eL (DV.i .i64)) (fun l => l.length ≤ maxLen ∧ ∀ n ∈ l, (Lit.int .i64 n).wf = true) := reads_slice Tryd.underlying22 (by kernel_rfl) (by decide) readsI3
end
end Go.Proofs.YtkabfdfkegjfdaaDoor
