/- A text of this seat: the evaluator at work. -/
import Derived.Test.YtifddfbiehmmoaaGreatDoorSeatYes
namespace Go.Proofs.YtifddfbiehmmoaaGreatDoor.Seat
open Go Go.Ev Go.Proofs
set_option maxRecDepth 100000
theorem e_neg (m : Nat) (b : Bool) : run1 7 [.int .i64 (.negSucc m), .bool b] = true := by kernel_rfl
theorem e_big (m : Nat) (b : Bool) : run1 7 [.int .i64 (.ofNat (m + 4)), .bool b] = true := by kernel_rfl
end Go.Proofs.YtifddfbiehmmoaaGreatDoor.Seat
