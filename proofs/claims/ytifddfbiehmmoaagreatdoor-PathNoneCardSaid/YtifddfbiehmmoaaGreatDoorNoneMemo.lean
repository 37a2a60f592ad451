/- A text of this seat: the evaluator at work. -/
import Derived.Test.YtifddfbiehmmoaaGreatDoorNoneOut
import Derived.Test.YtifddfbiehmmoaaGreatDoorEvMemo
namespace Go.Proofs.YtifddfbiehmmoaaGreatDoor.Seat
open Go Go.Ev Go.Proofs
noncomputable def nodes (n : Nat) : Heap := Heap.empty.alloc (repeatL [.slice none 0 0, .slice none 0 0] n) 55 0 true
noncomputable def gArgs (n : Nat) : List Value := [.slice (some ⟨0, 0, none⟩) n (3 * n + 1), .slice none 0 0]
noncomputable def gRun (n : Nat) : Option (Value × Heap) := (both F1 100000).call (2 * 9) (gArgs n) (nodes n)
noncomputable def F2 (n : Nat) : Fns := ⟨fnOf Tryz.prog, pickHook [(39, f64bits), (40, f64from), (12, yesHook), (9, memoHook (gArgs n) (nodes n) (gRun n))]⟩
theorem F2ok (n : Nat) : FnsOk Tryz.prog (F2 n) := fns_ok (by
  intro p hp
  rcases List.mem_cons.1 hp with rfl | hp
  · exact bits
  · rcases List.mem_cons.1 hp with rfl | hp
    · exact from_
    · rcases List.mem_cons.1 hp with rfl | hp
      · exact knownOk
      · rcases List.mem_cons.1 hp with rfl | hp
        · exact memo_ok F1ok mix
        · cases hp)
noncomputable def runM (n a b : Nat) : Bool := saysYes ((both (F2 n) 100000).call (2 * 5) [.int .i64 (.ofNat n), .int .i64 (.ofNat a), .int .i64 (.ofNat b)] Heap.empty)
noncomputable def rowM (n a : Nat) : Bool := allL ds (fun b => runM n a b)
end Go.Proofs.YtifddfbiehmmoaaGreatDoor.Seat
