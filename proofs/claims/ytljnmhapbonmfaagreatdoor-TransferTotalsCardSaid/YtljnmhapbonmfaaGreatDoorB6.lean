/- A part of the proof: the statement out of the plain law. No condition. -/
import Derived.SevenTiedAt
import Derived.Test.YtljnmhapbonmfaaGreatDoorCards
namespace Go.Proofs.YtljnmhapbonmfaaGreatDoor
open Go Go.ChangeShapes Go.WideShapes
set_option maxRecDepth 100000
theorem zfw:joinedFacts Tryz.pinned.checked.prog 5 Tryz.f5 Rows.transferTotalsSpec Rows.transferTotalsRow=true:=by kernel_rfl
end Go.Proofs.YtljnmhapbonmfaaGreatDoor
