/- A text of this seat: the evaluator at work. -/
import Derived.Test.YtifddfbiehmmoaaGreatDoorNoneMemo
namespace Go.Proofs.YtifddfbiehmmoaaGreatDoor.Seat
set_option maxRecDepth 100000
theorem r3_0 : rowM 3 0 = true := by kernel_rfl
theorem r3_1 : rowM 3 1 = true := by kernel_rfl
theorem r3_2 : rowM 3 2 = true := by kernel_rfl
theorem r3_3 : rowM 3 3 = true := by kernel_rfl
theorem r3_4 : rowM 3 4 = true := by kernel_rfl
end Go.Proofs.YtifddfbiehmmoaaGreatDoor.Seat
