/- A text of this seat: the evaluator at work. -/
import Derived.Test.YtifddfbiehmmoaaGreatDoorSeatYes
namespace Go.Proofs.YtifddfbiehmmoaaGreatDoor.Seat
open Go Go.Ev Go.Proofs
set_option maxRecDepth 100000
theorem e2f : run1 7 [.int .i64 2, .bool false] = true := by kernel_rfl
end Go.Proofs.YtifddfbiehmmoaaGreatDoor.Seat
