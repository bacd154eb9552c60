/- A part of the proof: the statement out of the plain law. No condition. -/
import Derived.SevenTiedAt
import Derived.Test.YtpbnkbjhlhlaiaaGreatDoorCards
namespace Go.Proofs.YtpbnkbjhlhlaiaaGreatDoor
open Go Go.ChangeShapes Go.WideShapes
set_option maxRecDepth 100000
theorem zlb:joinedFacts Tryz.pinned.checked.prog 7 Tryz.f7 Rows.journalAnswersSpec Rows.journalAnswersRow=true:=by kernel_rfl
end Go.Proofs.YtpbnkbjhlhlaiaaGreatDoor
