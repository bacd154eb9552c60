/- A part of the proof: the statement out of the plain law. No condition. -/
import Derived.Test.YtbjbpoighbanfaaGreatDoorB1
import Derived.Test.YtbjbpoighbanfaaGreatDoorG5
import Derived.Test.YtbjbpoighbanfaaGreatDoorT7
namespace Go.Proofs.YtbjbpoighbanfaaGreatDoor
open Go Go.TA Go.ChangeShapes Go.WideShapes Go.ChangeAt Go.RowKit
section
variable {H : Type} {enc : TypeId × Value → H} {W : World} {base : Nat} {spare : Nat → Bool} {held : Bool}
theorem readsI3 : Reads enc Tryz.prog W base spare held 3 1 (DV.i .i64) (fun n => (Lit.int .i64 n).wf = true) := reads_int Tryz.underlying3
theorem readsL22 : Reads enc Tryz.prog W base spare held 22 1 (eL (DV.i .i64)) (fun l => l.length ≤ maxLen ∧ ∀ n ∈ l, (Lit.int .i64 n).wf = true) := reads_slice Tryz.underlying22 (by kernel_rfl) (by decide) readsI3
theorem readsS9 : Reads enc Tryz.prog W base spare held 9 1 DV.str (fun l => l.length ≤ maxLen) := reads_str Tryz.underlying9
theorem reads_Right : Reads enc Tryz.prog W base spare held 44 5 TApiRight.e (fun _ => True) :=
  reads_struct Tryz.underlying44 (by kernel_rfl) (readsL_cons rfl (by kernel_rfl) readsS9 (readsL_cons rfl (by kernel_rfl) readsI3 (readsL_cons rfl (by kernel_rfl) readsI3 (readsL_cons rfl (by kernel_rfl) readsI3 (readsL_cons rfl (by kernel_rfl) readsI3 readsL_nil))))) (by
      rintro _ ⟨a0, _, rfl, _, a1, _, rfl, _, a2, _, rfl, _, a3, _, rfl, _, a4, _, rfl, _, rfl⟩
      exact ⟨⟨a0, a1, a2, a3, a4⟩, rfl, trivial⟩)
theorem readsL25 : Reads enc Tryz.prog W base spare held 25 1 (eL TApiRight.e) (fun l => l.length ≤ maxLen ∧ ∀ n ∈ l, True) := reads_slice Tryz.underlying25 (by kernel_rfl) (by decide) reads_Right
theorem reads_Reservation : Reads enc Tryz.prog W base spare held 73 6 TApiReservation.e (fun _ => True) :=
  reads_struct Tryz.underlying73 (by kernel_rfl) (readsL_cons rfl (by kernel_rfl) readsI3 (readsL_cons rfl (by kernel_rfl) readsS9 (readsL_cons rfl (by kernel_rfl) readsI3 (readsL_cons rfl (by kernel_rfl) readsI3 (readsL_cons rfl (by kernel_rfl) readsI3 (readsL_cons rfl (by kernel_rfl) readsI3 readsL_nil)))))) (by
      rintro _ ⟨a0, _, rfl, _, a1, _, rfl, _, a2, _, rfl, _, a3, _, rfl, _, a4, _, rfl, _, a5, _, rfl, _, rfl⟩
      exact ⟨⟨a0, a1, a2, a3, a4, a5⟩, rfl, trivial⟩)
theorem readsL26 : Reads enc Tryz.prog W base spare held 26 1 (eL TApiReservation.e) (fun l => l.length ≤ maxLen ∧ ∀ n ∈ l, True) := reads_slice Tryz.underlying26 (by kernel_rfl) (by decide) reads_Reservation
theorem reads_Commitment : Reads enc Tryz.prog W base spare held 77 7 TApiCommitment.e (fun _ => True) :=
  reads_struct Tryz.underlying77 (by kernel_rfl) (readsL_cons rfl (by kernel_rfl) readsI3 (readsL_cons rfl (by kernel_rfl) readsI3 (readsL_cons rfl (by kernel_rfl) readsI3 (readsL_cons rfl (by kernel_rfl) readsI3 (readsL_cons rfl (by kernel_rfl) readsI3 (readsL_cons rfl (by kernel_rfl) readsI3 (readsL_cons rfl (by kernel_rfl) readsI3 readsL_nil))))))) (by
      rintro _ ⟨a0, _, rfl, _, a1, _, rfl, _, a2, _, rfl, _, a3, _, rfl, _, a4, _, rfl, _, a5, _, rfl, _, a6, _, rfl, _, rfl⟩
      exact ⟨⟨a0, a1, a2, a3, a4, a5, a6⟩, rfl, trivial⟩)
theorem readsL27 : Reads enc Tryz.prog W base spare held 27 1 (eL TApiCommitment.e) (fun l => l.length ≤ maxLen ∧ ∀ n ∈ l, True) := reads_slice Tryz.underlying27 (by kernel_rfl) (by decide) reads_Commitment
theorem reads_Verification : Reads enc Tryz.prog W base spare held 94 4 TApiVerification.e (fun _ => True) :=
  reads_struct Tryz.underlying94 (by kernel_rfl) (readsL_cons rfl (by kernel_rfl) readsI3 (readsL_cons rfl (by kernel_rfl) readsI3 (readsL_cons rfl (by kernel_rfl) readsI3 (readsL_cons rfl (by kernel_rfl) readsI3 readsL_nil)))) (by
      rintro _ ⟨a0, _, rfl, _, a1, _, rfl, _, a2, _, rfl, _, a3, _, rfl, _, rfl⟩
      exact ⟨⟨a0, a1, a2, a3⟩, rfl, trivial⟩)
theorem readsL28 : Reads enc Tryz.prog W base spare held 28 1 (eL TApiVerification.e) (fun l => l.length ≤ maxLen ∧ ∀ n ∈ l, True) := reads_slice Tryz.underlying28 (by kernel_rfl) (by decide) reads_Verification
theorem readsB4 : Reads enc Tryz.prog W base spare held 4 1 DV.b (fun _ => True) := reads_bool Tryz.underlying4
theorem reads_Order : Reads enc Tryz.prog W base spare held 97 5 TApiOrder.e (fun _ => True) :=
  reads_struct Tryz.underlying97 (by kernel_rfl) (readsL_cons rfl (by kernel_rfl) readsI3 (readsL_cons rfl (by kernel_rfl) readsI3 (readsL_cons rfl (by kernel_rfl) readsI3 (readsL_cons rfl (by kernel_rfl) readsI3 (readsL_cons rfl (by kernel_rfl) readsB4 readsL_nil))))) (by
      rintro _ ⟨a0, _, rfl, _, a1, _, rfl, _, a2, _, rfl, _, a3, _, rfl, _, a4, _, rfl, _, rfl⟩
      exact ⟨⟨a0, a1, a2, a3, a4⟩, rfl, trivial⟩)
theorem readsL29 : Reads enc Tryz.prog W base spare held 29 1 (eL TApiOrder.e) (fun l => l.length ≤ maxLen ∧ ∀ n ∈ l, True) := reads_slice Tryz.underlying29 (by kernel_rfl) (by decide) reads_Order
theorem reads_Book : Reads enc Tryz.prog W base spare held 31 4 TApiBook.e (fun _ => True) :=
  reads_struct Tryz.underlying31 (by kernel_rfl) (readsL_cons rfl (by kernel_rfl) readsL26 (readsL_cons rfl (by kernel_rfl) readsL27 (readsL_cons rfl (by kernel_rfl) readsL28 (readsL_cons rfl (by kernel_rfl) readsL29 readsL_nil)))) (by
      rintro _ ⟨a0, _, rfl, _, a1, _, rfl, _, a2, _, rfl, _, a3, _, rfl, _, rfl⟩
      exact ⟨⟨a0, a1, a2, a3⟩, rfl, trivial⟩)
theorem reads_Office : Reads enc Tryz.prog W base spare held 33 6 TApiOffice.e (fun _ => True) :=
  reads_struct Tryz.underlying33 (by kernel_rfl) (readsL_cons rfl (by kernel_rfl) readsI3 (readsL_cons rfl (by kernel_rfl) readsL25 (readsL_cons rfl (by kernel_rfl) reads_Book readsL_nil))) (by
      rintro _ ⟨a0, _, rfl, _, a1, _, rfl, _, a2, _, rfl, _, rfl⟩
      exact ⟨⟨a0, a1, a2⟩, rfl, trivial⟩)
theorem readsWS9 : ReadsW enc Tryz.prog W base spare held 9 1 DV.str (fun l => l.length ≤ reachBytes) := readsW_str Tryz.underlying9
theorem readsW_Op : ReadsW enc Tryz.prog W base spare held 40 10 TApiOp.e (fun x => x.Code.length ≤ reachBytes) :=
  readsW_struct Tryz.underlying40 (by kernel_rfl) (readsLW_cons rfl (by kernel_rfl) (readsW_of readsI3) (readsLW_cons rfl (by kernel_rfl) readsWS9 (readsLW_cons rfl (by kernel_rfl) (readsW_of readsI3) (readsLW_cons rfl (by kernel_rfl) (readsW_of readsI3) (readsLW_cons rfl (by kernel_rfl) (readsW_of readsI3) (readsLW_cons rfl (by kernel_rfl) (readsW_of readsI3) (readsLW_cons rfl (by kernel_rfl) (readsW_of readsI3) (readsLW_cons rfl (by kernel_rfl) (readsW_of readsI3) (readsLW_cons rfl (by kernel_rfl) (readsW_of readsI3) (readsLW_cons rfl (by kernel_rfl) (readsW_of readsI3) readsLW_nil)))))))))) (by
      rintro _ ⟨a0, _, rfl, k0, a1, _, rfl, k1, a2, _, rfl, k2, a3, _, rfl, k3, a4, _, rfl, k4, a5, _, rfl, k5, a6, _, rfl, k6, a7, _, rfl, k7, a8, _, rfl, k8, a9, _, rfl, k9, rfl⟩
      exact ⟨⟨a0, a1, a2, a3, a4, a5, a6, a7, a8, a9⟩, rfl, k1⟩)
end
end Go.Proofs.YtbjbpoighbanfaaGreatDoor
