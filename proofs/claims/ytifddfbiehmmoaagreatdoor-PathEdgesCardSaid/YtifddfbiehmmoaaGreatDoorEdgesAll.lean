/- A text of this seat: the evaluator at work. -/
import Derived.Test.YtifddfbiehmmoaaGreatDoorEdgesOut
import Derived.Test.YtifddfbiehmmoaaGreatDoorNoneGlue
import Derived.Test.YtifddfbiehmmoaaGreatDoorEdgesRow0f
import Derived.Test.YtifddfbiehmmoaaGreatDoorEdgesRow0t
import Derived.Test.YtifddfbiehmmoaaGreatDoorEdgesRow1f
import Derived.Test.YtifddfbiehmmoaaGreatDoorEdgesRow1t
import Derived.Test.YtifddfbiehmmoaaGreatDoorEdgesRow2f
import Derived.Test.YtifddfbiehmmoaaGreatDoorEdgesRow2t
import Derived.Test.YtifddfbiehmmoaaGreatDoorEdgesRow3f
import Derived.Test.YtifddfbiehmmoaaGreatDoorEdgesRow3t
namespace Go.Proofs.YtifddfbiehmmoaaGreatDoor.Seat
open Go Go.Ev Go.Proofs
theorem edgesYes (n : Int) (b : Bool) : run1 7 [.int .i64 n, .bool b] = true := by
  cases n with
  | negSucc m => exact e_neg m b
  | ofNat k =>
    by_cases h4 : 4 ≤ k
    · obtain ⟨m, rfl⟩ : ∃ m, k = m + 4 := ⟨k - 4, by omega⟩
      exact e_big m b
    have : k = 0 ∨ k = 1 ∨ k = 2 ∨ k = 3 := by omega
    rcases this with rfl | rfl | rfl | rfl
    · cases b
      · exact e0f
      · exact e0t
    · cases b
      · exact e1f
      · exact e1t
    · cases b
      · exact e2f
      · exact e2t
    · cases b
      · exact e3f
      · exact e3t
theorem edgesCalls (n : Int) (b : Bool) (w : World) : Calls Tryz.prog 7 ⟨[.int .i64 n, .bool b]⟩ w fun e w' => e = .returned (.bool true) ∧ (∀ r, r < w.heap.size → w'.heap[r]? = w.heap[r]?) ∧ w'.os = w.os ∧ w'.output = w.output :=
  calls_yes F1ok Tryz.func7 (by kernel_rfl) ⟨_, rfl⟩ (edgesYes n b) rfl w
end Go.Proofs.YtifddfbiehmmoaaGreatDoor.Seat
