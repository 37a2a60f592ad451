/- A call that is made again and again at the same arguments, in the same heap: it is gone through once. -/
import Derived.Test.YtifddfbiehmmoaaGreatDoorEvHook
import Derived.Test.YtifddfbiehmmoaaGreatDoorEvTrace
namespace Go.Ev
open Go

noncomputable def isNilT {α : Type} (t : T α) : Bool := T.rec (motive := fun _ => Bool) true (fun _ _ _ _ _ => false) t
noncomputable def eqOpt {α : Type} (e : α → α → Bool) (x y : Option α) : Bool :=
  Option.rec (motive := fun _ => Bool) (Option.rec (motive := fun _ => Bool) true (fun _ => false) y) (fun a => Option.rec (motive := fun _ => Bool) false (fun b => e a b) y) x
noncomputable def eqT {α : Type} (e : α → α → Bool) (s : T α) : T α → Bool :=
  T.rec (motive := fun _ => T α → Bool) isNilT
    (fun v _ _ il ir t => T.rec (motive := fun _ => Bool) false (fun w l r _ _ => oi (eqOpt e v w) (oi (il l) (ir r) false) false) t) s
theorem eqOpt_eq {α : Type} {e : α → α → Bool} (he : ∀ a b, e a b = true → a = b) {x y : Option α} (h : eqOpt e x y = true) : x = y := by
  cases x with
  | none => cases y with
    | none => rfl
    | some _ => cases h
  | some a => cases y with
    | none => cases h
    | some b => rw [he a b h]
theorem eqT_eq {α : Type} {e : α → α → Bool} (he : ∀ a b, e a b = true → a = b) : ∀ {s t : T α}, eqT e s t = true → s = t
  | .nil, .nil, _ => rfl
  | .nil, .node _ _ _, h => by cases h
  | .node _ _ _, .nil, h => by cases h
  | .node v l r, .node w l' r', h => by
    have h : oi (eqOpt e v w) (oi (eqT e l l') (eqT e r r') false) false = true := h
    cases h1 : eqOpt e v w with
    | false => rw [h1] at h; cases h
    | true =>
      cases h2 : eqT e l l' with
      | false => rw [h1, h2] at h; cases h
      | true =>
        rw [h1, h2] at h
        rw [eqOpt_eq he h1, eqT_eq he h2, eqT_eq he (show eqT e r r' = true from h)]
noncomputable def eqB' (a b : Bool) : Bool := oi a b (notB b)
theorem eqB_eq {a b : Bool} (h : eqB' a b = true) : a = b := by cases a <;> cases b <;> first | rfl | cases h

/-- Two blocks of cells: one and the same? (false says nothing) -/
noncomputable def eqCells (c : T Value) (e : TypeId) (z : Nat) (cl : Bool) (o : AObj) : Bool :=
  AObj.rec (motive := fun _ => Bool) (fun c' e' z' cl' => oi (Nat.beq e e') (oi (Nat.beq z z') (oi (eqB' cl cl') (eqT veq c c') false) false) false) (fun _ _ => false) (fun _ _ => false) (fun _ => false) o
noncomputable def eqO (a b : AObj) : Bool :=
  AObj.rec (motive := fun _ => Bool) (fun c e z cl => eqCells c e z cl b) (fun _ _ => false) (fun _ _ => false) (fun _ => false) a
theorem oi_and {a b : Bool} (h : oi a b false = true) : a = true ∧ b = true := by cases a <;> cases b <;> first | exact ⟨rfl, rfl⟩ | cases h
theorem eqO_eq (a b : AObj) (h : eqO a b = true) : a = b := by
  cases a with
  | cells c e z cl =>
    cases b with
    | cells c' e' z' cl' =>
      obtain ⟨h1, h⟩ := oi_and (show oi (Nat.beq e e') (oi (Nat.beq z z') (oi (eqB' cl cl') (eqT veq c c') false) false) false = true from h)
      obtain ⟨h2, h⟩ := oi_and h
      obtain ⟨h3, h4⟩ := oi_and h
      rw [Nat.eq_of_beq_eq_true h1, Nat.eq_of_beq_eq_true h2, eqB_eq h3, eqT_eq (fun _ _ => veq_eq) h4]
    | _ => cases h
  | _ => cases h
noncomputable def eqHeap (h g : Heap) : Bool := oi (Nat.beq h.next g.next) (eqT eqO h.objs g.objs) false
theorem eqHeap_eq {h g : Heap} (e : eqHeap h g = true) : h = g := by
  obtain ⟨h1, h2⟩ := oi_and e
  obtain ⟨n, o⟩ := h
  obtain ⟨m, p⟩ := g
  rw [show n = m from Nat.eq_of_beq_eq_true h1, show o = p from eqT_eq eqO_eq h2]
noncomputable def eqArgs (l m : List Value) : Bool :=
  (List.rec (motive := fun _ => List Value → Bool) isNil (fun v _ ih m => List.rec (motive := fun _ => Bool) false (fun u r _ => oi (veq v u) (ih r) false) m) l) m
theorem eqArgs_eq : ∀ {l m : List Value}, eqArgs l m = true → l = m
  | [], [], _ => rfl
  | [], _ :: _, h => by cases h
  | _ :: _, [], h => by cases h
  | v :: l, u :: m, h => by
    obtain ⟨h1, h2⟩ := oi_and (show oi (veq v u) (eqArgs l m) false = true from h)
    rw [veq_eq h1, eqArgs_eq h2]

noncomputable def memoHook (A : List Value) (H : Heap) (R : Option (Value × Heap)) (_ : CallF) (args : List Value) (h : Heap) : Option (Value × Heap) :=
  oi (eqArgs args A) (oi (eqHeap h H) R none) none
theorem memo_ok {P : Program} {F : Fns} (hF : FnsOk P F) (hmix : P.follows .mixedOrders = true) {N f : Nat} {A : List Value} {H : Heap} : HookOk P f (memoHook A H ((both F N).call (2 * f) A H)) := by
  intro call _ args h v h' hk
  have hk : oi (eqArgs args A) (oi (eqHeap h H) ((both F N).call (2 * f) A H) none) none = some (v, h') := hk
  cases h1 : eqArgs args A with
  | false => rw [h1] at hk; cases hk
  | true =>
    cases h2 : eqHeap h H with
    | false => rw [h1, h2] at hk; cases hk
    | true =>
      rw [h1, h2] at hk
      obtain rfl := eqArgs_eq h1
      obtain rfl := eqHeap_eq h2
      obtain ⟨r1, r2⟩ := (both_sound hF hmix N).1 _ _ _ _ _ hk
      exact ⟨r1, fun hwf ρ args' w hv hm hfr => (r2 hwf ρ args' w hv hm hfr).1 f rfl⟩
end Go.Ev
