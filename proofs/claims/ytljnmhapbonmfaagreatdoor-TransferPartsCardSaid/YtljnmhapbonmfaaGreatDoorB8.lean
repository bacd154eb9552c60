/- A part of the proof: the statement out of the plain law. No condition. -/
import Derived.SevenTiedAt
import Derived.Test.YtljnmhapbonmfaaGreatDoorCards
namespace Go.Proofs.YtljnmhapbonmfaaGreatDoor
open Go Go.ChangeShapes Go.WideShapes
set_option maxRecDepth 100000
theorem zfz:joinedFacts Tryz.pinned.checked.prog 6 Tryz.f6 Rows.transferPartsSpec Rows.transferPartsRow=true:=by kernel_rfl
end Go.Proofs.YtljnmhapbonmfaaGreatDoor
