/- A text of this seat: the evaluator at work. -/
import Derived.Test.YtifddfbiehmmoaaGreatDoorNoneMemo
namespace Go.Proofs.YtifddfbiehmmoaaGreatDoor.Seat
set_option maxRecDepth 100000
theorem r6_0 : rowM 6 0 = true := by kernel_rfl
theorem r6_1 : rowM 6 1 = true := by kernel_rfl
theorem r6_2 : rowM 6 2 = true := by kernel_rfl
theorem r6_3 : rowM 6 3 = true := by kernel_rfl
theorem r6_4 : rowM 6 4 = true := by kernel_rfl
end Go.Proofs.YtifddfbiehmmoaaGreatDoor.Seat
