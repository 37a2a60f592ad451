/- A text of this seat: the evaluator at work. -/
import Derived.Test.YtifddfbiehmmoaaGreatDoorNoneMemo
namespace Go.Proofs.YtifddfbiehmmoaaGreatDoor.Seat
set_option maxRecDepth 100000
theorem r3_5 : rowM 3 5 = true := by kernel_rfl
theorem r3_6 : rowM 3 6 = true := by kernel_rfl
theorem r3_7 : rowM 3 7 = true := by kernel_rfl
theorem r3_8 : rowM 3 8 = true := by kernel_rfl
theorem r3_9 : rowM 3 9 = true := by kernel_rfl
end Go.Proofs.YtifddfbiehmmoaaGreatDoor.Seat
