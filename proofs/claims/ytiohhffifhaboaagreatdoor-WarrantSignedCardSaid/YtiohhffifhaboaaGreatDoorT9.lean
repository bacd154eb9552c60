/- A part of the proof: laws over any program of the abstract machine. No condition. -/
import Derived.Test.YtiohhffifhaboaaGreatDoorT4
import Derived.OrdersIn
import Derived.Lib.Overlaps
namespace Go.TA
open Go
end Go.TA
