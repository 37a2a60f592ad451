/- A text of this seat: the evaluator at work. -/
import Derived.Test.YtifddfbiehmmoaaGreatDoorNoneMemo
namespace Go.Proofs.YtifddfbiehmmoaaGreatDoor.Seat
set_option maxRecDepth 100000
theorem r7_5 : rowM 7 5 = true := by kernel_rfl
theorem r7_6 : rowM 7 6 = true := by kernel_rfl
theorem r7_7 : rowM 7 7 = true := by kernel_rfl
theorem r7_8 : rowM 7 8 = true := by kernel_rfl
theorem r7_9 : rowM 7 9 = true := by kernel_rfl
end Go.Proofs.YtifddfbiehmmoaaGreatDoor.Seat
