/- A text of this seat: the evaluator at work. -/
import Derived.Test.YtifddfbiehmmoaaGreatDoorNoneMemo
namespace Go.Proofs.YtifddfbiehmmoaaGreatDoor.Seat
set_option maxRecDepth 100000
theorem r6_5 : rowM 6 5 = true := by kernel_rfl
theorem r6_6 : rowM 6 6 = true := by kernel_rfl
theorem r6_7 : rowM 6 7 = true := by kernel_rfl
theorem r6_8 : rowM 6 8 = true := by kernel_rfl
theorem r6_9 : rowM 6 9 = true := by kernel_rfl
end Go.Proofs.YtifddfbiehmmoaaGreatDoor.Seat
