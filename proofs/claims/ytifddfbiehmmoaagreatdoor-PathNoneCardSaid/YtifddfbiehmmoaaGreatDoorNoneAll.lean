/- A text of this seat: the evaluator at work. -/
import Derived.Test.YtifddfbiehmmoaaGreatDoorNoneGlue
import Derived.Test.YtifddfbiehmmoaaGreatDoorNoneRow1a
import Derived.Test.YtifddfbiehmmoaaGreatDoorNoneRow2a
import Derived.Test.YtifddfbiehmmoaaGreatDoorNoneRow3a
import Derived.Test.YtifddfbiehmmoaaGreatDoorNoneRow3b
import Derived.Test.YtifddfbiehmmoaaGreatDoorNoneRow4a
import Derived.Test.YtifddfbiehmmoaaGreatDoorNoneRow4b
import Derived.Test.YtifddfbiehmmoaaGreatDoorNoneRow5a
import Derived.Test.YtifddfbiehmmoaaGreatDoorNoneRow5b
import Derived.Test.YtifddfbiehmmoaaGreatDoorNoneRow6a
import Derived.Test.YtifddfbiehmmoaaGreatDoorNoneRow6b
import Derived.Test.YtifddfbiehmmoaaGreatDoorNoneRow7a
import Derived.Test.YtifddfbiehmmoaaGreatDoorNoneRow7b
namespace Go.Proofs.YtifddfbiehmmoaaGreatDoor.Seat
open Go Go.Ev Go.Proofs
theorem rows (n : Nat) (hn : n ∈ ns) (a : Nat) (ha : a ∈ ds) : rowM n a = true := by
  simp only [ns, ds, List.mem_cons, List.mem_nil_iff, or_false] at hn ha
  rcases hn with rfl | rfl | rfl | rfl | rfl | rfl | rfl
  · rcases ha with rfl | rfl | rfl | rfl | rfl | rfl | rfl | rfl | rfl | rfl
    · exact r1_0
    · exact r1_1
    · exact r1_2
    · exact r1_3
    · exact r1_4
    · exact r1_5
    · exact r1_6
    · exact r1_7
    · exact r1_8
    · exact r1_9
  · rcases ha with rfl | rfl | rfl | rfl | rfl | rfl | rfl | rfl | rfl | rfl
    · exact r2_0
    · exact r2_1
    · exact r2_2
    · exact r2_3
    · exact r2_4
    · exact r2_5
    · exact r2_6
    · exact r2_7
    · exact r2_8
    · exact r2_9
  · rcases ha with rfl | rfl | rfl | rfl | rfl | rfl | rfl | rfl | rfl | rfl
    · exact r3_0
    · exact r3_1
    · exact r3_2
    · exact r3_3
    · exact r3_4
    · exact r3_5
    · exact r3_6
    · exact r3_7
    · exact r3_8
    · exact r3_9
  · rcases ha with rfl | rfl | rfl | rfl | rfl | rfl | rfl | rfl | rfl | rfl
    · exact r4_0
    · exact r4_1
    · exact r4_2
    · exact r4_3
    · exact r4_4
    · exact r4_5
    · exact r4_6
    · exact r4_7
    · exact r4_8
    · exact r4_9
  · rcases ha with rfl | rfl | rfl | rfl | rfl | rfl | rfl | rfl | rfl | rfl
    · exact r5_0
    · exact r5_1
    · exact r5_2
    · exact r5_3
    · exact r5_4
    · exact r5_5
    · exact r5_6
    · exact r5_7
    · exact r5_8
    · exact r5_9
  · rcases ha with rfl | rfl | rfl | rfl | rfl | rfl | rfl | rfl | rfl | rfl
    · exact r6_0
    · exact r6_1
    · exact r6_2
    · exact r6_3
    · exact r6_4
    · exact r6_5
    · exact r6_6
    · exact r6_7
    · exact r6_8
    · exact r6_9
  · rcases ha with rfl | rfl | rfl | rfl | rfl | rfl | rfl | rfl | rfl | rfl
    · exact r7_0
    · exact r7_1
    · exact r7_2
    · exact r7_3
    · exact r7_4
    · exact r7_5
    · exact r7_6
    · exact r7_7
    · exact r7_8
    · exact r7_9
theorem mem_ns {n : Nat} (h0 : 1 ≤ n) (h1 : n < 8) : n ∈ ns := by
  have : n = 1 ∨ n = 2 ∨ n = 3 ∨ n = 4 ∨ n = 5 ∨ n = 6 ∨ n = 7 := by omega
  simp only [ns, List.mem_cons, List.mem_nil_iff, or_false]; exact this
theorem mem_ds {n : Nat} (h1 : n < 10) : n ∈ ds := by
  have : n = 0 ∨ n = 1 ∨ n = 2 ∨ n = 3 ∨ n = 4 ∨ n = 5 ∨ n = 6 ∨ n = 7 ∨ n = 8 ∨ n = 9 := by omega
  simp only [ds, List.mem_cons, List.mem_nil_iff, or_false]; exact this

theorem noneCalls (n a b : Int) (w : World) : Calls Tryz.prog 5 ⟨[.int .i64 n, .int .i64 a, .int .i64 b]⟩ w fun e w' => e = .returned (.bool true) ∧ (∀ r, r < w.heap.size → w'.heap[r]? = w.heap[r]?) ∧ w'.os = w.os ∧ w'.output = w.output := by
  have k1 : runN n a b = true → _ := fun h => calls_yes F1ok Tryz.func5 (by kernel_rfl) ⟨_, rfl⟩ (show saysYes ((both F1 100000).call (2 * 5) [.int .i64 n, .int .i64 a, .int .i64 b] Heap.empty) = true from h) rfl w
  cases n with
  | negSucc m => exact k1 (n_neg m a b)
  | ofNat k =>
    by_cases h0 : k = 0
    · subst h0; exact k1 (n_zero a b)
    by_cases h8 : 8 ≤ k
    · obtain ⟨m, rfl⟩ : ∃ m, k = m + 8 := ⟨k - 8, by omega⟩
      exact k1 (n_big m a b)
    have hk := mem_ns (n := k) (by omega) (by omega)
    cases a with
    | negSucc m => exact k1 (allL_at (a_neg m b) k hk)
    | ofNat x =>
      by_cases hx : 10 ≤ x
      · obtain ⟨m, rfl⟩ : ∃ m, x = m + 10 := ⟨x - 10, by omega⟩
        exact k1 (allL_at (a_big m b) k hk)
      have hx := mem_ds (n := x) (by omega)
      cases b with
      | negSucc m => exact k1 (allL_at (allL_at (b_neg m) k hk) x hx)
      | ofNat y =>
        by_cases hy : 10 ≤ y
        · obtain ⟨m, rfl⟩ : ∃ m, y = m + 10 := ⟨y - 10, by omega⟩
          exact k1 (allL_at (allL_at (b_big m) k hk) x hx)
        have hy := mem_ds (n := y) (by omega)
        exact calls_yes (F2ok k) Tryz.func5 (by kernel_rfl) ⟨_, rfl⟩ (show saysYes ((both (F2 k) 100000).call (2 * 5) [.int .i64 (.ofNat k), .int .i64 (.ofNat x), .int .i64 (.ofNat y)] Heap.empty) = true from allL_at (rows k hk x hx) y hy) rfl w
end Go.Proofs.YtifddfbiehmmoaaGreatDoor.Seat
