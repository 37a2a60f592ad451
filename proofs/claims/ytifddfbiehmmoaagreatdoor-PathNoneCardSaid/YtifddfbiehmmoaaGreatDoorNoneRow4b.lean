/- A text of this seat: the evaluator at work. -/
import Derived.Test.YtifddfbiehmmoaaGreatDoorNoneMemo
namespace Go.Proofs.YtifddfbiehmmoaaGreatDoor.Seat
set_option maxRecDepth 100000
theorem r4_5 : rowM 4 5 = true := by kernel_rfl
theorem r4_6 : rowM 4 6 = true := by kernel_rfl
theorem r4_7 : rowM 4 7 = true := by kernel_rfl
theorem r4_8 : rowM 4 8 = true := by kernel_rfl
theorem r4_9 : rowM 4 9 = true := by kernel_rfl
end Go.Proofs.YtifddfbiehmmoaaGreatDoor.Seat
