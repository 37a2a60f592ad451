/- A text of this seat: the evaluator at work. -/
import Derived.Test.YtifddfbiehmmoaaGreatDoorNoneMemo
namespace Go.Proofs.YtifddfbiehmmoaaGreatDoor.Seat
set_option maxRecDepth 100000
theorem r5_5 : rowM 5 5 = true := by kernel_rfl
theorem r5_6 : rowM 5 6 = true := by kernel_rfl
theorem r5_7 : rowM 5 7 = true := by kernel_rfl
theorem r5_8 : rowM 5 8 = true := by kernel_rfl
theorem r5_9 : rowM 5 9 = true := by kernel_rfl
end Go.Proofs.YtifddfbiehmmoaaGreatDoor.Seat
