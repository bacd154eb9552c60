/- A part of the proof: the statement out of the plain law. No condition. -/
import Derived.SevenTiedAt
import Derived.Test.YtpbnkbjhlhlaiaaGreatDoorCards
namespace Go.Proofs.YtpbnkbjhlhlaiaaGreatDoor
open Go Go.ChangeShapes Go.WideShapes
set_option maxRecDepth 100000
theorem za2:joinedFacts Tryz.pinned.checked.prog 3 Tryz.f3 Rows.journalReadsSpec Rows.journalReadsRow=true:=by kernel_rfl
end Go.Proofs.YtpbnkbjhlhlaiaaGreatDoor
