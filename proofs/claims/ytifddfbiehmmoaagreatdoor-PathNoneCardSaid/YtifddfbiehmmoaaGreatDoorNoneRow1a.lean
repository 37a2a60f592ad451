/- A text of this seat: the evaluator at work. -/
import Derived.Test.YtifddfbiehmmoaaGreatDoorNoneMemo
namespace Go.Proofs.YtifddfbiehmmoaaGreatDoor.Seat
set_option maxRecDepth 100000
theorem r1_0 : rowM 1 0 = true := by kernel_rfl
theorem r1_1 : rowM 1 1 = true := by kernel_rfl
theorem r1_2 : rowM 1 2 = true := by kernel_rfl
theorem r1_3 : rowM 1 3 = true := by kernel_rfl
theorem r1_4 : rowM 1 4 = true := by kernel_rfl
theorem r1_5 : rowM 1 5 = true := by kernel_rfl
theorem r1_6 : rowM 1 6 = true := by kernel_rfl
theorem r1_7 : rowM 1 7 = true := by kernel_rfl
theorem r1_8 : rowM 1 8 = true := by kernel_rfl
theorem r1_9 : rowM 1 9 = true := by kernel_rfl
end Go.Proofs.YtifddfbiehmmoaaGreatDoor.Seat
