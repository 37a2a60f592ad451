/- A text of this seat: the evaluator at work. -/
import Derived.Test.YtifddfbiehmmoaaGreatDoorSeatYes
namespace Go.Proofs.YtifddfbiehmmoaaGreatDoor.Seat
open Go Go.Ev Go.Proofs
set_option maxRecDepth 100000
noncomputable def runN (n a b : Int) : Bool := run1 5 [.int .i64 n, .int .i64 a, .int .i64 b]
theorem n_neg (m : Nat) (a b : Int) : runN (.negSucc m) a b = true := by kernel_rfl
theorem n_zero (a b : Int) : runN (.ofNat 0) a b = true := by kernel_rfl
theorem n_big (m : Nat) (a b : Int) : runN (.ofNat (m + 8)) a b = true := by kernel_rfl

noncomputable def allL (l : List Nat) (p : Nat → Bool) : Bool := List.rec (motive := fun _ => Bool) true (fun x _ ih => oi (p x) ih false) l
theorem allL_at {p : Nat → Bool} : ∀ {l : List Nat}, allL l p = true → ∀ x ∈ l, p x = true
  | [], _, x, hx => by cases hx
  | y :: l, h, x, hx => by
    have h : oi (p y) (allL l p) false = true := h
    cases hp : p y with
    | false => rw [hp] at h; cases h
    | true =>
      rw [hp] at h
      rcases List.mem_cons.1 hx with rfl | hx
      · exact hp
      · exact allL_at h x hx
def ns : List Nat := [1, 2, 3, 4, 5, 6, 7]
def ds : List Nat := [0, 1, 2, 3, 4, 5, 6, 7, 8, 9]
theorem a_neg (m : Nat) (b : Int) : allL ns (fun n => runN (.ofNat n) (.negSucc m) b) = true := by kernel_rfl
theorem a_big (m : Nat) (b : Int) : allL ns (fun n => runN (.ofNat n) (.ofNat (m + 10)) b) = true := by kernel_rfl
theorem b_neg (m : Nat) : allL ns (fun n => allL ds (fun a => runN (.ofNat n) (.ofNat a) (.negSucc m))) = true := by kernel_rfl
theorem b_big (m : Nat) : allL ns (fun n => allL ds (fun a => runN (.ofNat n) (.ofNat a) (.ofNat (m + 10)))) = true := by kernel_rfl
noncomputable def rowN (n a : Nat) : Bool := allL ds (fun b => runN (.ofNat n) (.ofNat a) (.ofNat b))
end Go.Proofs.YtifddfbiehmmoaaGreatDoor.Seat
