/-
  No cell of these rows narrows 'for every input' (looked for: loops, veiled, ifaces, maps, wideKeys, modest, calm, conditions, laid).
  DERIVED. THE GIVEN ROWS OF THIS SEAT. 6 by the template 'for every input the law returns true; each argument reads behind the call as it read before'; 0 by the template 'total and deterministic' (their statements: YtkkdclpleghppaaTotals.lean).
  GIVEN WITH THE SEED: the statements are not yours to turn. If you find one false, say at which input.
  Laid BY PROGRAM, IN A SANDBOX (cutbox-rows.mjs): the forced cells as the released guide's own fill.sh prints them over the translation e729f6bf35aa3020… (all of the seat's roots in one cut). By AI agents, Wed Nov 11 2026. No macro, syntax, notation, axiom, sorry.
-/
import Derived.Test.YtkkdclpleghppaaChecked
import GoSem.Claim
import GoSem.ClaimJoined
import GoSem.ClaimMapViews
import Derived.JoinedTies
import Derived.KernelRfl
namespace Go.Proofs.Ytkkdclpleghppaa
/- THE CELL 'sum', in the pinned program and in every row, IS THE sha256 OF THE DUMP (.gsa) THAT YtkkdclpleghppaaProg.lean LOADS. Nothing in Lean hashes anything: it is a label: what it is worth is what the hold of that sum in a sandbox is worth. -/
noncomputable def Try.pinned : Pinned := { name := "ytkkdclpleghppaa", sum := "e729f6bf35aa302010f7992295c823edb255d46228397abd796a7d9b1e68fbb6", checked := Try.checked }
namespace Rows
def none {H : Type} : Left H := { results := [], args := [] }

/-- 'treasurylaw43.ConsolidationZero': WHATEVER THE INPUT: true; the input reads as it did. -/
def consolidationZeroSpec : ChangeSpec := { name := "consolidationZero", fn := fun _ => fun
  | [d1, d2] => { results := [.lit (.bool true)], args := [d1, d2] }
  | _ => none }
def consolidationZeroRow : OpenClaim := { program := "ytkkdclpleghppaa", sum := "e729f6bf35aa302010f7992295c823edb255d46228397abd796a7d9b1e68fbb6", func := "treasury/treasurylaw43.ConsolidationZero", spec := "consolidationZero", unfollowed := true, recurses := true, plainKeys := false, apart := false }
def ConsolidationZeroSaid : Prop := consolidationZeroRow.holds Try.pinned (OpenSpec.ofChange consolidationZeroSpec)

/-- ITS FALSE NEIGHBOUR: 'it returns false'. Refute it at one input. -/
def consolidationZeroWrong : ChangeSpec := { name := "consolidationZero", fn := fun _ => fun
  | [d1, d2] => { results := [.lit (.bool false)], args := [d1, d2] }
  | _ => none }
def ConsolidationZeroWrongFalsely : Prop := consolidationZeroRow.holds Try.pinned (OpenSpec.ofChange consolidationZeroWrong)

/-- 'treasurylaw43.ConsolidationAgreed': WHATEVER THE INPUT: true; the input reads as it did. -/
def consolidationAgreedSpec : ChangeSpec := { name := "consolidationAgreed", fn := fun _ => fun
  | [d] => { results := [.lit (.bool true)], args := [d] }
  | _ => none }
def consolidationAgreedRow : OpenClaim := { program := "ytkkdclpleghppaa", sum := "e729f6bf35aa302010f7992295c823edb255d46228397abd796a7d9b1e68fbb6", func := "treasury/treasurylaw43.ConsolidationAgreed", spec := "consolidationAgreed", unfollowed := true, recurses := true, plainKeys := false, apart := false }
def ConsolidationAgreedSaid : Prop := consolidationAgreedRow.holds Try.pinned (OpenSpec.ofChange consolidationAgreedSpec)

/-- ITS FALSE NEIGHBOUR: 'it returns false'. Refute it at one input. -/
def consolidationAgreedWrong : ChangeSpec := { name := "consolidationAgreed", fn := fun _ => fun
  | [d] => { results := [.lit (.bool false)], args := [d] }
  | _ => none }
def ConsolidationAgreedWrongFalsely : Prop := consolidationAgreedRow.holds Try.pinned (OpenSpec.ofChange consolidationAgreedWrong)

/-- 'treasurylaw43.ConsolidationNames': WHATEVER THE INPUT: true; the input reads as it did. -/
def consolidationNamesSpec : ChangeSpec := { name := "consolidationNames", fn := fun _ => fun
  | [d] => { results := [.lit (.bool true)], args := [d] }
  | _ => none }
def consolidationNamesRow : OpenClaim := { program := "ytkkdclpleghppaa", sum := "e729f6bf35aa302010f7992295c823edb255d46228397abd796a7d9b1e68fbb6", func := "treasury/treasurylaw43.ConsolidationNames", spec := "consolidationNames", unfollowed := true, recurses := true, plainKeys := false, apart := false }
def ConsolidationNamesSaid : Prop := consolidationNamesRow.holds Try.pinned (OpenSpec.ofChange consolidationNamesSpec)

/-- ITS FALSE NEIGHBOUR: 'it returns false'. Refute it at one input. -/
def consolidationNamesWrong : ChangeSpec := { name := "consolidationNames", fn := fun _ => fun
  | [d] => { results := [.lit (.bool false)], args := [d] }
  | _ => none }
def ConsolidationNamesWrongFalsely : Prop := consolidationNamesRow.holds Try.pinned (OpenSpec.ofChange consolidationNamesWrong)

/-- 'treasurylaw43.ConsolidationGroups': WHATEVER THE INPUT: true; the input reads as it did. -/
def consolidationGroupsSpec : ChangeSpec := { name := "consolidationGroups", fn := fun _ => fun
  | [d] => { results := [.lit (.bool true)], args := [d] }
  | _ => none }
def consolidationGroupsRow : OpenClaim := { program := "ytkkdclpleghppaa", sum := "e729f6bf35aa302010f7992295c823edb255d46228397abd796a7d9b1e68fbb6", func := "treasury/treasurylaw43.ConsolidationGroups", spec := "consolidationGroups", unfollowed := true, recurses := true, plainKeys := false, apart := false }
def ConsolidationGroupsSaid : Prop := consolidationGroupsRow.holds Try.pinned (OpenSpec.ofChange consolidationGroupsSpec)

/-- ITS FALSE NEIGHBOUR: 'it returns false'. Refute it at one input. -/
def consolidationGroupsWrong : ChangeSpec := { name := "consolidationGroups", fn := fun _ => fun
  | [d] => { results := [.lit (.bool false)], args := [d] }
  | _ => none }
def ConsolidationGroupsWrongFalsely : Prop := consolidationGroupsRow.holds Try.pinned (OpenSpec.ofChange consolidationGroupsWrong)

/-- 'treasurylaw43.ConsolidationExact': WHATEVER THE INPUT: true; the input reads as it did. -/
def consolidationExactSpec : ChangeSpec := { name := "consolidationExact", fn := fun _ => fun
  | [d1, d2, d3, d4, d5, d6, d7] => { results := [.lit (.bool true)], args := [d1, d2, d3, d4, d5, d6, d7] }
  | _ => none }
def consolidationExactRow : OpenClaim := { program := "ytkkdclpleghppaa", sum := "e729f6bf35aa302010f7992295c823edb255d46228397abd796a7d9b1e68fbb6", func := "treasury/treasurylaw43.ConsolidationExact", spec := "consolidationExact", unfollowed := true, recurses := true, plainKeys := false, apart := false }
def ConsolidationExactSaid : Prop := consolidationExactRow.holds Try.pinned (OpenSpec.ofChange consolidationExactSpec)

/-- ITS FALSE NEIGHBOUR: 'it returns false'. Refute it at one input. -/
def consolidationExactWrong : ChangeSpec := { name := "consolidationExact", fn := fun _ => fun
  | [d1, d2, d3, d4, d5, d6, d7] => { results := [.lit (.bool false)], args := [d1, d2, d3, d4, d5, d6, d7] }
  | _ => none }
def ConsolidationExactWrongFalsely : Prop := consolidationExactRow.holds Try.pinned (OpenSpec.ofChange consolidationExactWrong)

/-- 'treasurylaw43.ConsolidationPositions': WHATEVER THE INPUT: true; the input reads as it did. -/
def consolidationPositionsSpec : ChangeSpec := { name := "consolidationPositions", fn := fun _ => fun
  | [d] => { results := [.lit (.bool true)], args := [d] }
  | _ => none }
def consolidationPositionsRow : OpenClaim := { program := "ytkkdclpleghppaa", sum := "e729f6bf35aa302010f7992295c823edb255d46228397abd796a7d9b1e68fbb6", func := "treasury/treasurylaw43.ConsolidationPositions", spec := "consolidationPositions", unfollowed := true, recurses := true, plainKeys := false, apart := false }
def ConsolidationPositionsSaid : Prop := consolidationPositionsRow.holds Try.pinned (OpenSpec.ofChange consolidationPositionsSpec)

/-- ITS FALSE NEIGHBOUR: 'it returns false'. Refute it at one input. -/
def consolidationPositionsWrong : ChangeSpec := { name := "consolidationPositions", fn := fun _ => fun
  | [d] => { results := [.lit (.bool false)], args := [d] }
  | _ => none }
def ConsolidationPositionsWrongFalsely : Prop := consolidationPositionsRow.holds Try.pinned (OpenSpec.ofChange consolidationPositionsWrong)

/- THE SECOND FORM. 'bulk': how many values and letters a reading holds, each counted each time it is reached (what is shared counts as often as it is met; a slice's spare places count too). A statement '..UptoSaid' is the law's where the arguments, and the package variables that the reading takes, are together of bulk at most 1048576: NARROWER than '..Said'. Prove '..Said' where nothing that the law and all that it calls make is longer than what came in: it says more and counts as full. Else prove '..UptoSaid'. A law counts once. -/
mutual
def uptoBulk {H : Type} : DataW H → Nat
  | .lit (.string bytes) => bytes.length + 1
  | .lit _ => 1
  | .nil => 1
  | .ptr d => uptoBulk d + 1
  | .slice elems spare => uptoBulkAll elems + uptoBulkAll spare + 1
  | .agg parts => uptoBulkAll parts + 1
  | .iface _ d => uptoBulk d + 1
  | .map entries => uptoBulkEntries entries + 1
  | .held _ => 1
def uptoBulkAll {H : Type} : List (DataW H) → Nat
  | [] => 0
  | d :: r => uptoBulk d + uptoBulkAll r
def uptoBulkEntries {H : Type} : List (Lit × DataW H) → Nat
  | [] => 0
  | x :: r => uptoBulkEntry x + uptoBulkEntries r
def uptoBulkEntry {H : Type} : Lit × DataW H → Nat
  | (.string bytes, d) => bytes.length + uptoBulk d + 1
  | (_, d) => uptoBulk d + 1
 end
def uptoSmall : (H : Type) → List (DataW H) → Bool := fun _ ds => decide (uptoBulkAll ds ≤ 1048576)
def OpenSpec.upto (s : _root_.Go.ChangeSpec) : _root_.Go.OpenSpec := { _root_.Go.OpenSpec.ofChange s with cond := some uptoSmall }

/-- 'treasurylaw43.ConsolidationZero', WHERE WHAT IT READS IS OF BULK AT MOST 1048576: true; the input reads as it did. -/
def consolidationZeroUptoRow : OpenClaim := { program := "ytkkdclpleghppaa", sum := "e729f6bf35aa302010f7992295c823edb255d46228397abd796a7d9b1e68fbb6", func := "treasury/treasurylaw43.ConsolidationZero", spec := "consolidationZero", unfollowed := true, recurses := true, plainKeys := false, apart := false, narrowed := true }
def ConsolidationZeroUptoSaid : Prop := consolidationZeroUptoRow.holds Try.pinned (OpenSpec.upto consolidationZeroSpec)

/-- 'treasurylaw43.ConsolidationAgreed', WHERE WHAT IT READS IS OF BULK AT MOST 1048576: true; the input reads as it did. -/
def consolidationAgreedUptoRow : OpenClaim := { program := "ytkkdclpleghppaa", sum := "e729f6bf35aa302010f7992295c823edb255d46228397abd796a7d9b1e68fbb6", func := "treasury/treasurylaw43.ConsolidationAgreed", spec := "consolidationAgreed", unfollowed := true, recurses := true, plainKeys := false, apart := false, narrowed := true }
def ConsolidationAgreedUptoSaid : Prop := consolidationAgreedUptoRow.holds Try.pinned (OpenSpec.upto consolidationAgreedSpec)

/-- 'treasurylaw43.ConsolidationNames', WHERE WHAT IT READS IS OF BULK AT MOST 1048576: true; the input reads as it did. -/
def consolidationNamesUptoRow : OpenClaim := { program := "ytkkdclpleghppaa", sum := "e729f6bf35aa302010f7992295c823edb255d46228397abd796a7d9b1e68fbb6", func := "treasury/treasurylaw43.ConsolidationNames", spec := "consolidationNames", unfollowed := true, recurses := true, plainKeys := false, apart := false, narrowed := true }
def ConsolidationNamesUptoSaid : Prop := consolidationNamesUptoRow.holds Try.pinned (OpenSpec.upto consolidationNamesSpec)

/-- 'treasurylaw43.ConsolidationGroups', WHERE WHAT IT READS IS OF BULK AT MOST 1048576: true; the input reads as it did. -/
def consolidationGroupsUptoRow : OpenClaim := { program := "ytkkdclpleghppaa", sum := "e729f6bf35aa302010f7992295c823edb255d46228397abd796a7d9b1e68fbb6", func := "treasury/treasurylaw43.ConsolidationGroups", spec := "consolidationGroups", unfollowed := true, recurses := true, plainKeys := false, apart := false, narrowed := true }
def ConsolidationGroupsUptoSaid : Prop := consolidationGroupsUptoRow.holds Try.pinned (OpenSpec.upto consolidationGroupsSpec)

/-- 'treasurylaw43.ConsolidationExact', WHERE WHAT IT READS IS OF BULK AT MOST 1048576: true; the input reads as it did. -/
def consolidationExactUptoRow : OpenClaim := { program := "ytkkdclpleghppaa", sum := "e729f6bf35aa302010f7992295c823edb255d46228397abd796a7d9b1e68fbb6", func := "treasury/treasurylaw43.ConsolidationExact", spec := "consolidationExact", unfollowed := true, recurses := true, plainKeys := false, apart := false, narrowed := true }
def ConsolidationExactUptoSaid : Prop := consolidationExactUptoRow.holds Try.pinned (OpenSpec.upto consolidationExactSpec)

/-- 'treasurylaw43.ConsolidationPositions', WHERE WHAT IT READS IS OF BULK AT MOST 1048576: true; the input reads as it did. -/
def consolidationPositionsUptoRow : OpenClaim := { program := "ytkkdclpleghppaa", sum := "e729f6bf35aa302010f7992295c823edb255d46228397abd796a7d9b1e68fbb6", func := "treasury/treasurylaw43.ConsolidationPositions", spec := "consolidationPositions", unfollowed := true, recurses := true, plainKeys := false, apart := false, narrowed := true }
def ConsolidationPositionsUptoSaid : Prop := consolidationPositionsUptoRow.holds Try.pinned (OpenSpec.upto consolidationPositionsSpec)

end Rows
end Go.Proofs.Ytkkdclpleghppaa
