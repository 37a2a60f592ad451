/- A text of this seat: the evaluator at work. -/
import Derived.Test.YtifddfbiehmmoaaGreatDoorSeatKnown
open Go Go.Ev Go.Proofs
namespace Go.Proofs.YtifddfbiehmmoaaGreatDoor.Seat
noncomputable def F1 : Fns := ⟨fnOf Tryz.prog, pickHook [(39, f64bits), (40, f64from), (12, yesHook)]⟩
theorem knownOk : HookOk Tryz.prog 12 yesHook := by
  obtain ⟨h0, he⟩ := saysYes_some knownRun
  exact yes_ok F0ok mix he
theorem F1ok : FnsOk Tryz.prog F1 := fns_ok (by
  intro p hp
  rcases List.mem_cons.1 hp with rfl | hp
  · exact bits
  · rcases List.mem_cons.1 hp with rfl | hp
    · exact from_
    · rcases List.mem_cons.1 hp with rfl | hp
      · exact knownOk
      · cases hp)
noncomputable def run1 (f : Nat) (args : List Value) : Bool := saysYes ((both F1 100000).call (2 * f) args Heap.empty)
noncomputable def int (n : Nat) : Value := .int .i64 (.ofNat n)
end Go.Proofs.YtifddfbiehmmoaaGreatDoor.Seat
