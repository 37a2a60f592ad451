/- A text of this seat: the evaluator at work. -/
import Derived.Test.YtifddfbiehmmoaaGreatDoorNoneMemo
namespace Go.Proofs.YtifddfbiehmmoaaGreatDoor.Seat
set_option maxRecDepth 100000
theorem r7_0 : rowM 7 0 = true := by kernel_rfl
theorem r7_1 : rowM 7 1 = true := by kernel_rfl
theorem r7_2 : rowM 7 2 = true := by kernel_rfl
theorem r7_3 : rowM 7 3 = true := by kernel_rfl
theorem r7_4 : rowM 7 4 = true := by kernel_rfl
end Go.Proofs.YtifddfbiehmmoaaGreatDoor.Seat
