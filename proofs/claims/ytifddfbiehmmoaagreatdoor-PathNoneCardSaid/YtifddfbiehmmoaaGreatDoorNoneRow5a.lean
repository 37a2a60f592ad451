/- A text of this seat: the evaluator at work. -/
import Derived.Test.YtifddfbiehmmoaaGreatDoorNoneMemo
namespace Go.Proofs.YtifddfbiehmmoaaGreatDoor.Seat
set_option maxRecDepth 100000
theorem r5_0 : rowM 5 0 = true := by kernel_rfl
theorem r5_1 : rowM 5 1 = true := by kernel_rfl
theorem r5_2 : rowM 5 2 = true := by kernel_rfl
theorem r5_3 : rowM 5 3 = true := by kernel_rfl
theorem r5_4 : rowM 5 4 = true := by kernel_rfl
end Go.Proofs.YtifddfbiehmmoaaGreatDoor.Seat
