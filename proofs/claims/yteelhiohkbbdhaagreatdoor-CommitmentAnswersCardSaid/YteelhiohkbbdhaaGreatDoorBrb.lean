/- A part of the proof: the statement out of the plain law. No condition. -/
import Derived.Test.YteelhiohkbbdhaaGreatDoorBrg
import Derived.Test.YteelhiohkbbdhaaGreatDoorG14P4
namespace Go.Proofs.YteelhiohkbbdhaaGreatDoor
open Go Go.TA Go.ChangeShapes Go.WideShapes Go.ChangeAt Go.RowKit

section
variable {H : Type} {enc : TypeId × Value → H} {W : World} {base : Nat} {spare : Nat → Bool} {held : Bool}
theorem readsInt : Reads enc Tryz.prog W base spare held 3 1 (DV.i .i64) (fun n => (Lit.int .i64 n).wf = true) := reads_int Tryz.underlying3
theorem readsBool : Reads enc Tryz.prog W base spare held 4 1 DV.b (fun _ => True) := reads_bool Tryz.underlying4
theorem readsStr : Reads enc Tryz.prog W base spare held 9 1 DV.str (fun l => l.length ≤ maxLen) := reads_str Tryz.underlying9
theorem readsInts : Reads enc Tryz.prog W base spare held 22 1 (eL (DV.i .i64)) (fun l => l.length ≤ maxLen ∧ ∀ n ∈ l, (Lit.int .i64 n).wf = true) := reads_slice Tryz.underlying22 (by kernel_rfl) (by decide) readsInt
theorem readsReservation : Reads enc Tryz.prog W base spare held 33 6 TApiReservation.e (fun _ => True) :=
  reads_struct Tryz.underlying33 (by kernel_rfl) (readsL_cons rfl (by kernel_rfl) readsInt (readsL_cons rfl (by kernel_rfl) readsStr (readsL_cons rfl (by kernel_rfl) readsInt (readsL_cons rfl (by kernel_rfl) readsInt (readsL_cons rfl (by kernel_rfl) readsInt
    (readsL_cons rfl (by kernel_rfl) readsInt readsL_nil)))))) (by
      rintro _ ⟨a0, _, rfl, _, a1, _, rfl, _, a2, _, rfl, _, a3, _, rfl, _, a4, _, rfl, _, a5, _, rfl, _, rfl⟩
      exact ⟨⟨a0, a1, a2, a3, a4, a5⟩, rfl, trivial⟩)
theorem readsCommitment : Reads enc Tryz.prog W base spare held 61 7 TApiCommitment.e (fun _ => True) :=
  reads_struct Tryz.underlying61 (by kernel_rfl) (readsL_cons rfl (by kernel_rfl) readsInt (readsL_cons rfl (by kernel_rfl) readsInt (readsL_cons rfl (by kernel_rfl) readsInt (readsL_cons rfl (by kernel_rfl) readsInt (readsL_cons rfl (by kernel_rfl) readsInt
    (readsL_cons rfl (by kernel_rfl) readsInt (readsL_cons rfl (by kernel_rfl) readsInt readsL_nil))))))) (by
      rintro _ ⟨a0, _, rfl, _, a1, _, rfl, _, a2, _, rfl, _, a3, _, rfl, _, a4, _, rfl, _, a5, _, rfl, _, a6, _, rfl, _, rfl⟩
      exact ⟨⟨a0, a1, a2, a3, a4, a5, a6⟩, rfl, trivial⟩)
theorem readsVerification : Reads enc Tryz.prog W base spare held 46 4 TApiVerification.e (fun _ => True) :=
  reads_struct Tryz.underlying46 (by kernel_rfl) (readsL_cons rfl (by kernel_rfl) readsInt (readsL_cons rfl (by kernel_rfl) readsInt (readsL_cons rfl (by kernel_rfl) readsInt (readsL_cons rfl (by kernel_rfl) readsInt readsL_nil)))) (by
      rintro _ ⟨a0, _, rfl, _, a1, _, rfl, _, a2, _, rfl, _, a3, _, rfl, _, rfl⟩
      exact ⟨⟨a0, a1, a2, a3⟩, rfl, trivial⟩)
theorem readsOrder : Reads enc Tryz.prog W base spare held 48 5 TApiOrder.e (fun _ => True) :=
  reads_struct Tryz.underlying48 (by kernel_rfl) (readsL_cons rfl (by kernel_rfl) readsInt (readsL_cons rfl (by kernel_rfl) readsInt (readsL_cons rfl (by kernel_rfl) readsInt (readsL_cons rfl (by kernel_rfl) readsInt (readsL_cons rfl (by kernel_rfl) readsBool readsL_nil))))) (by
      rintro _ ⟨a0, _, rfl, _, a1, _, rfl, _, a2, _, rfl, _, a3, _, rfl, _, a4, _, rfl, _, rfl⟩
      exact ⟨⟨a0, a1, a2, a3, a4⟩, rfl, trivial⟩)
theorem readsBook : Reads enc Tryz.prog W base spare held 30 4 TApiBook.e (fun _ => True) :=
  reads_struct Tryz.underlying30 (by kernel_rfl) (readsL_cons rfl (by kernel_rfl) (reads_slice Tryz.underlying25 (by kernel_rfl) (by decide) readsReservation) (readsL_cons rfl (by kernel_rfl) (reads_slice Tryz.underlying26 (by kernel_rfl) (by decide) readsCommitment)
    (readsL_cons rfl (by kernel_rfl) (reads_slice Tryz.underlying27 (by kernel_rfl) (by decide) readsVerification) (readsL_cons rfl (by kernel_rfl) (reads_slice Tryz.underlying28 (by kernel_rfl) (by decide) readsOrder) readsL_nil)))) (by
      rintro _ ⟨a0, _, rfl, _, a1, _, rfl, _, a2, _, rfl, _, a3, _, rfl, _, rfl⟩
      exact ⟨⟨a0, a1, a2, a3⟩, rfl, trivial⟩)
end
end Go.Proofs.YteelhiohkbbdhaaGreatDoor
