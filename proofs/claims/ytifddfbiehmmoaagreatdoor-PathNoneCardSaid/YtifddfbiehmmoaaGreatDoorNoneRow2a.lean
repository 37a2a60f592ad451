/- A text of this seat: the evaluator at work. -/
import Derived.Test.YtifddfbiehmmoaaGreatDoorNoneMemo
namespace Go.Proofs.YtifddfbiehmmoaaGreatDoor.Seat
set_option maxRecDepth 100000
theorem r2_0 : rowM 2 0 = true := by kernel_rfl
theorem r2_1 : rowM 2 1 = true := by kernel_rfl
theorem r2_2 : rowM 2 2 = true := by kernel_rfl
theorem r2_3 : rowM 2 3 = true := by kernel_rfl
theorem r2_4 : rowM 2 4 = true := by kernel_rfl
theorem r2_5 : rowM 2 5 = true := by kernel_rfl
theorem r2_6 : rowM 2 6 = true := by kernel_rfl
theorem r2_7 : rowM 2 7 = true := by kernel_rfl
theorem r2_8 : rowM 2 8 = true := by kernel_rfl
theorem r2_9 : rowM 2 9 = true := by kernel_rfl
end Go.Proofs.YtifddfbiehmmoaaGreatDoor.Seat
