/- A text of this seat: the evaluator at work. -/
import Derived.Test.YtifddfbiehmmoaaGreatDoorNoneMemo
namespace Go.Proofs.YtifddfbiehmmoaaGreatDoor.Seat
set_option maxRecDepth 100000
theorem r4_0 : rowM 4 0 = true := by kernel_rfl
theorem r4_1 : rowM 4 1 = true := by kernel_rfl
theorem r4_2 : rowM 4 2 = true := by kernel_rfl
theorem r4_3 : rowM 4 3 = true := by kernel_rfl
theorem r4_4 : rowM 4 4 = true := by kernel_rfl
end Go.Proofs.YtifddfbiehmmoaaGreatDoor.Seat
