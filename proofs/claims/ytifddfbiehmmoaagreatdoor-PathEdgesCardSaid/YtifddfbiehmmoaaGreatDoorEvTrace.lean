/- Regions that draw their order: the run of the one order that stands for all. -/
import Derived.Test.YtifddfbiehmmoaaGreatDoorEvSeq
namespace Go.Ev
open Go
set_option linter.unusedSimpArgs false

structure St where
  t : TM
  h : Heap
  hist : List Heap
  k : Nat

/-- One operation's step. -/
def StepR (call : CallF) (ao : AOper) (s s' : St) (v : Value) : Prop :=
  s'.t = putD s.t ao.dst v ∧ ∃ g, wantedA s.t ao.guard = some g ∧
    ((ao.kind ≠ 2 ∧ s'.hist = s.hist ∧ s'.k = s.k ∧
        ((g = false ∧ v = undefV ∧ s'.h = s.h) ∨
         (g = true ∧ ao.kind = 1 ∧ s'.h = s.h ∧ ∃ g0 rest h1, s.hist = g0 :: rest ∧ evalOp ao.op s.t g0 = some (v, h1) ∧ sameAt s.t ao.op v (s.k - ao.lo) rest = true) ∨
         (g = true ∧ ao.kind ≠ 1 ∧ evalOp ao.op s.t s.h = some (v, s'.h)))) ∨
     (ao.kind = 2 ∧ s'.hist = s'.h :: s.hist ∧ s'.k = s.k + 1 ∧
        ((g = false ∧ v = undefV ∧ s'.h = s.h) ∨ (g = true ∧ oi ao.isCall (evalAny call s.t s.h ao.op) (evalOp ao.op s.t s.h) = some (v, s'.h)))))

theorem kindOf_le (ap : AOp) : kindOf ap = 0 ∨ kindOf ap = 1 ∨ kindOf ap = 2 ∨ kindOf ap = 3 := by
  cases ap with
  | bin op d x y => simp only [kindOf]; cases Nat.beq d 2 <;> simp
  | _ => simp [kindOf]

theorem runDrawn_cons (call : CallF) (o : AOper) (l : List AOper) (t : TM) (h : Heap) (hist : List Heap) (k : Nat) :
    runDrawn call (o :: l) t h hist k = oi (Nat.beq o.kind 0) (drawn0 o t h hist k (runDrawn call l)) (oi (Nat.beq o.kind 1) (drawn1 o t h hist k (runDrawn call l)) (oi (Nat.beq o.kind 3) (drawn0 o t h hist k (runDrawn call l)) (drawn2 call o t h hist k (runDrawn call l)))) := rfl

section
variable {call : CallF} {o : AOper} {t : TM} {h : Heap} {hist : List Heap} {k : Nat} {K : Cont} {r : TM × Heap}
theorem drawn0_some (hk : o.kind = 0 ∨ o.kind = 3) (he : drawn0 o t h hist k K = some r) : ∃ v s', StepR call o ⟨t, h, hist, k⟩ s' v ∧ K s'.t s'.h s'.hist s'.k = some r := by
  obtain ⟨g, h1, h2⟩ := ob_some.1 he
  have hk2 : o.kind ≠ 2 := by omega
  cases g with
  | true =>
    obtain ⟨p, h3, h4⟩ := ob_some.1 (show (ob (evalOp o.op t h) fun r => K (putD t o.dst r.1) r.2 hist k) = some r from h2)
    exact ⟨p.1, ⟨putD t o.dst p.1, p.2, hist, k⟩, ⟨rfl, true, h1, .inl ⟨hk2, rfl, rfl, .inr (.inr ⟨rfl, by omega, h3⟩)⟩⟩, h4⟩
  | false => exact ⟨undefV, ⟨putD t o.dst undefV, h, hist, k⟩, ⟨rfl, false, h1, .inl ⟨hk2, rfl, rfl, .inl ⟨rfl, rfl, rfl⟩⟩⟩, h2⟩
theorem drawn1_some (hk : o.kind = 1) (he : drawn1 o t h hist k K = some r) : ∃ v s', StepR call o ⟨t, h, hist, k⟩ s' v ∧ K s'.t s'.h s'.hist s'.k = some r := by
  obtain ⟨g, h1, h2⟩ := ob_some.1 he
  have hk2 : o.kind ≠ 2 := by omega
  cases g with
  | true =>
    obtain ⟨g0, h3, h4⟩ := ob_some.1 (show (ob (headH hist) fun g => ob (evalOp o.op t g) fun r => og (sameAt t o.op r.1 (Nat.sub k o.lo) (tailH hist)) (K (putD t o.dst r.1) h hist k)) = some r from h2)
    obtain ⟨p, h5, h6⟩ := ob_some.1 h4
    obtain ⟨h7, h8⟩ := og_some.1 h6
    cases hist with
    | nil => cases h3
    | cons g1 rest =>
      cases h3
      exact ⟨p.1, ⟨putD t o.dst p.1, h, g0 :: rest, k⟩, ⟨rfl, true, h1, .inl ⟨hk2, rfl, rfl, .inr (.inl ⟨rfl, hk, rfl, g0, rest, p.2, rfl, h5, h7⟩)⟩⟩, h8⟩
  | false => exact ⟨undefV, ⟨putD t o.dst undefV, h, hist, k⟩, ⟨rfl, false, h1, .inl ⟨hk2, rfl, rfl, .inl ⟨rfl, rfl, rfl⟩⟩⟩, h2⟩
theorem drawn2_some (hk : o.kind = 2) (he : drawn2 call o t h hist k K = some r) : ∃ v s', StepR call o ⟨t, h, hist, k⟩ s' v ∧ K s'.t s'.h s'.hist s'.k = some r := by
  obtain ⟨g, h1, h2⟩ := ob_some.1 he
  cases g with
  | true =>
    obtain ⟨p, h3, h4⟩ := ob_some.1 (show (ob (oi o.isCall (evalAny call t h o.op) (evalOp o.op t h)) fun r => K (putD t o.dst r.1) r.2 (r.2 :: hist) (Nat.succ k)) = some r from h2)
    exact ⟨p.1, ⟨putD t o.dst p.1, p.2, p.2 :: hist, k + 1⟩, ⟨rfl, true, h1, .inr ⟨hk, rfl, rfl, .inr ⟨rfl, h3⟩⟩⟩, h4⟩
  | false => exact ⟨undefV, ⟨putD t o.dst undefV, h, h :: hist, k + 1⟩, ⟨rfl, false, h1, .inr ⟨hk, rfl, rfl, .inl ⟨rfl, rfl, rfl⟩⟩⟩, h2⟩
end

/-- The run, as a row of states. -/
theorem runDrawn_trace {call : CallF} : ∀ (l : List AOper), (∀ o ∈ l, o.kind = kindOf o.op) → ∀ (t : TM) (h : Heap) (hist : List Heap) (k : Nat) (t' : TM) (h' : Heap), runDrawn call l t h hist k = some (t', h') →
    ∃ (S : Nat → St) (V : Nat → Value), S 0 = ⟨t, h, hist, k⟩ ∧ (S l.length).t = t' ∧ (S l.length).h = h' ∧ ∀ (p : Nat) (o : AOper), l[p]? = some o → StepR call o (S p) (S (p + 1)) (V p)
  | [], _, t, h, hist, k, t', h', hr => by
    cases hr
    exact ⟨fun _ => ⟨t, h, hist, k⟩, fun _ => undefV, rfl, rfl, rfl, fun p o hp => by simp at hp⟩
  | o :: l, hl, t, h, hist, k, t', h', hr => by
    rw [runDrawn_cons] at hr
    have hk := hl o (by simp)
    obtain ⟨v, s', h1, h2⟩ : ∃ v s', StepR call o ⟨t, h, hist, k⟩ s' v ∧ runDrawn call l s'.t s'.h s'.hist s'.k = some (t', h') := by
      rcases kindOf_le o.op with e | e | e | e <;> rw [← hk] at e <;> rw [e] at hr
      · exact drawn0_some (.inl e) hr
      · exact drawn1_some e hr
      · exact drawn2_some e hr
      · exact drawn0_some (.inr e) hr
    obtain ⟨S, V, g1, g2, g3, g4⟩ := runDrawn_trace l (fun x hx => hl x (by simp [hx])) _ _ _ _ _ _ h2
    refine ⟨fun p => match p with | 0 => ⟨t, h, hist, k⟩ | p + 1 => S p, fun p => match p with | 0 => v | p + 1 => V p, rfl, g2, g3, fun p x hp => ?_⟩
    cases p with
    | zero =>
      simp at hp; subst hp
      show StepR call o _ (S 0) v
      rw [g1]; exact h1
    | succ p => exact g4 p x (by simpa using hp)

/-! ### Equal values. -/
theorem veq1_eq {a b : Value} (h : veq1 a b = true) : a = b := by
  unfold veq1 at h
  split at h
  · rename_i x y; cases x <;> cases y <;> first | rfl | cases h
  · rename_i j x k y
    cases hk : kindEq j k with
    | false => rw [hk] at h; cases h
    | true =>
      rw [hk] at h
      obtain rfl := kindEq_iff.1 hk
      have h : intEq x y = true := h
      rw [intEq_eq] at h
      rw [beq_iff_eq.1 h]
  · rename_i j x k y
    cases hk : fkindEq j k with
    | false => rw [hk] at h; cases h
    | true =>
      rw [hk] at h
      have h : Nat.beq x y = true := h
      have e : j = k := by cases j <;> cases k <;> first | rfl | cases hk
      rw [e, Nat.eq_of_beq_eq_true h]
  · rename_i x y; rw [textEq_iff.1 h]
  · rfl
  · rename_i b o c p
    cases hk : Nat.beq b c with
    | false => rw [hk] at h; cases h
    | true =>
      rw [hk] at h
      have h : Nat.beq o p = true := h
      rw [Nat.eq_of_beq_eq_true hk, Nat.eq_of_beq_eq_true h]
  · rename_i n c m d
    cases hk : Nat.beq n m with
    | false => rw [hk] at h; cases h
    | true =>
      rw [hk] at h
      have h : Nat.beq c d = true := h
      rw [Nat.eq_of_beq_eq_true hk, Nat.eq_of_beq_eq_true h]
  · rename_i b o n c b' o' n' c'
    cases h1 : Nat.beq b b' with
    | false => rw [h1] at h; cases h
    | true =>
      cases h2 : Nat.beq o o' with
      | false => rw [h1, h2] at h; cases h
      | true =>
        cases h3 : Nat.beq n n' with
        | false => rw [h1, h2, h3] at h; cases h
        | true =>
          rw [h1, h2, h3] at h
          have h : Nat.beq c c' = true := h
          rw [Nat.eq_of_beq_eq_true h1, Nat.eq_of_beq_eq_true h2, Nat.eq_of_beq_eq_true h3, Nat.eq_of_beq_eq_true h]
  · rfl
  · rw [Nat.eq_of_beq_eq_true h]
  · rfl
  · rfl
  · rw [Nat.eq_of_beq_eq_true h]
  · cases h
theorem veqs_eq : ∀ {a b : List Value}, veqs a b = true → a = b
  | [], [], _ => rfl
  | [], _ :: _, h => by cases h
  | _ :: _, [], h => by cases h
  | a :: x, b :: y, h => by
    unfold veqs at h
    cases h1 : veq1 a b with
    | false => rw [h1] at h; cases h
    | true =>
      rw [h1] at h
      rw [veq1_eq h1, veqs_eq (show veqs x y = true from h)]
theorem veq_eq {a b : Value} (h : veq a b = true) : a = b := by
  unfold veq at h
  split at h
  · rename_i x y
    have := veqs_eq h
    rw [Array.ext' this]
  · exact veq1_eq h

theorem sameAt_succ (t : TM) (o : AOp) (v : Value) (n : Nat) (g : Heap) (gs : List Heap) : sameAt t o v (n + 1) (g :: gs) = Option.rec (motive := fun _ => Bool) false (fun r => oi (veq v r.1) (sameAt t o v n gs) false) (evalOp o t g) := rfl
theorem sameAt_some {t : TM} {o : AOp} {v : Value} : ∀ {n : Nat} {gs : List Heap}, sameAt t o v n gs = true → ∀ j, j < n → ∀ g, gs[j]? = some g → ∃ h1, evalOp o t g = some (v, h1)
  | 0, _, _, j, hj, _, _ => by omega
  | n + 1, [], h, _, _, _, hg => by simp at hg
  | n + 1, g0 :: gs, h, j, hj, g, hg => by
    rw [sameAt_succ] at h
    cases he : evalOp o t g0 with
    | none => rw [he] at h; cases h
    | some r =>
      rw [he] at h
      have h : oi (veq v r.1) (sameAt t o v n gs) false = true := h
      cases hv : veq v r.1 with
      | false => rw [hv] at h; cases h
      | true =>
        rw [hv] at h
        cases j with
        | zero => simp at hg; subst hg; obtain ⟨u, h1⟩ := r; exact ⟨h1, by rw [he, veq_eq hv]⟩
        | succ j => exact sameAt_some h j (by omega) g (by simpa using hg)

/-- A block that stands alone. -/
theorem alloc_of {ap : AOp} {t : TM} {h h' : Heap} {v : Value} (hk : kindOf ap = 3) (he : evalOp ap t h = some (v, h')) : ∃ cells e, h' = h.alloc cells e 0 true := by
  cases ap with
  | alloc e z =>
    obtain ⟨_, he⟩ := og_some.1 he
    obtain ⟨_, he⟩ := og_some.1 he
    cases he; exact ⟨_, _, rfl⟩
  | box e x =>
    obtain ⟨_, _, he⟩ := ob_some.1 he
    obtain ⟨_, he⟩ := og_some.1 he
    cases he; exact ⟨_, _, rfl⟩
  | buildSlice e n z ps =>
    obtain ⟨_, he⟩ := og_some.1 he
    obtain ⟨_, _, he⟩ := ob_some.1 he
    obtain ⟨_, he⟩ := og_some.1 he
    cases he; exact ⟨_, _, rfl⟩
  | bin op d x y => simp only [kindOf] at hk; cases hd : Nat.beq d 2 <;> rw [hd] at hk <;> cases hk
  | _ => cases hk

def Same (h : Heap) (r : Option (Value × Heap)) : Prop := ∀ v h', r = some (v, h') → h' = h
section
variable {β : Type} {h : Heap}
theorem Same.ob {x : Option β} {f : β → Option (Value × Heap)} (k : ∀ a, Same h (f a)) : Same h (ob x f) := fun v h' e => by
  obtain ⟨a, _, h2⟩ := ob_some.1 e
  exact k a v h' h2
theorem Same.og {b : Bool} {r : Option (Value × Heap)} (k : Same h r) : Same h (og b r) := fun v h' e => k v h' (og_some.1 e).2
theorem Same.oi {b : Bool} {r s : Option (Value × Heap)} (k : Same h r) (l : Same h s) : Same h (oi b r s) := by cases b <;> assumption
theorem Same.val {v : Value} : Same h (some (v, h)) := fun _ _ e => by cases e; rfl
theorem Same.none : Same h none := fun _ _ e => by cases e
end
theorem pure_keeps {ap : AOp} {t : TM} {h : Heap} (hk : kindOf ap = 0) : Same h (evalOp ap t h) := by
  cases ap with
  | move x => exact .ob fun _ => .val
  | pick c a b => exact .ob fun _ => .ob fun d => .oi (.ob fun _ => .val) (.ob fun _ => .val)
  | build z ps => exact .og (.ob fun _ => .val)
  | nilCheck x =>
    refine .ob fun v => ?_
    cases v with
    | pointer a => exact .oi .none .val
    | func fn a b => exact .ob fun _ => .val
    | _ => exact .none
  | bin op d x y => exact .ob fun _ => .ob fun _ => .ob fun _ => .val
  | un op x => exact .ob fun _ => .ob fun _ => .val
  | toInt k x => exact .ob fun _ => .ob fun _ => .val
  | toFloat k x => exact .ob fun _ => .ob fun _ => .val
  | same x => exact .ob fun _ => .ob fun _ => .val
  | makeFunc fn a b => exact .ob fun _ => .ob fun _ => .val
  | sliceText x lo hi => exact .ob fun _ => .ob fun _ => .ob fun _ => .ob fun _ => .val
  | slice n x lo hi mx => exact .ob fun _ => .ob fun _ => .val
  | sliceArr l n x lo hi mx => exact .ob fun _ => .ob fun _ => .ob fun _ => .val
  | fieldAddr off x => exact .ob fun _ => .ob fun _ => .val
  | field off g n x => exact .ob fun _ => .ob fun _ => .ob fun _ => .ob fun _ => .val
  | indexArr l n x i => exact .ob fun _ => .ob fun _ => .ob fun _ => .ob fun _ => .og .val
  | indexSlice n x i => exact .ob fun _ => .ob fun _ => .ob fun _ => .ob fun _ => .ob fun _ => .og .val
  | indexAgg l n g x i => exact .ob fun _ => .ob fun _ => .ob fun _ => .ob fun _ => .og (.ob fun _ => .ob fun _ => .val)
  | indexText x i => exact .ob fun _ => .ob fun _ => .ob fun _ => .ob fun _ => .ob fun _ => .val
  | extract x i => exact .ob fun _ => .ob fun _ => .ob fun _ => .val
  | lenText x => exact .ob fun _ => .ob fun _ => .val
  | lenSlice x => exact .ob fun _ => .ob fun _ => .val
  | lenConst n => exact .val
  | capOf x =>
    refine .ob fun v => ?_
    show Same h (capV h v)
    unfold capV
    split
    · exact .og .val
    · exact .none
  | minMax b x y => exact .ob fun _ => .ob fun _ => .ob fun _ => .ob fun _ => .og .val
  | _ => cases hk

/-! ### A drawn region's run. -/
structure Tr (P : Program) (call : CallF) (m : Nat) (ops : Array Oper) where
  pi : Nat → Nat
  op : Nat → AOper
  S : Nat → St
  V : Nat → Value
  Ah : Nat → Nat → Prop
  comp : ∀ p, p < ops.size → ∃ o, ops[pi p]? = some o ∧ CompO P m ops o (op p)
  step : ∀ p, p < ops.size → StepR call (op p) (S p) (S (p + 1)) (V p)
  onto : ∀ i, i < ops.size → ∃ p, p < ops.size ∧ pi p = i
  pair : ∀ p q, p < q → q < ops.size → pi p ≠ pi q ∧ (Ah (pi q) (pi p) ∨ ((op q).kind ≠ 2 ∧ ∃ x y, ops[pi p]? = some x ∧ ops[pi q]? = some y ∧ x.apart ops y = true))
  edge : ∀ (i : Nat) (o : Oper), ops[i]? = some o → ∀ e ∈ o.after.toList, Region.binds .any e = true → e.on < i
  ahead : ∀ i j, Ah i j → ∃ o, ops[i]? = some o ∧ ∃ e ∈ o.after.toList, Region.binds .any e = true ∧ (j = e.on ∨ Ah e.on j)
  lo : ∀ p, p < ops.size → ∀ c, c ≤ ops.size → (∀ q, q < ops.size → (op q).kind = 2 → Ah (pi p) (pi q) → q < c) → (op p).lo ≤ (S c).k
  hist0 : (S 0).hist = [(S 0).h]
  k0 : (S 0).k = 0

namespace Tr
variable {P : Program} {call : CallF} {m : Nat} {ops : Array Oper} (T : Tr P call m ops)

def Cut (c : Nat) : Prop := c = 0 ∨ (T.op (c - 1)).kind = 2

theorem hist_at : ∀ p, p ≤ ops.size → ∀ c, c ≤ p → T.Cut c → (T.S c).k ≤ (T.S p).k ∧ ((T.S p).hist)[(T.S p).k - (T.S c).k]? = some (T.S c).h
  | 0, _, c, hc, _ => by
    obtain rfl : c = 0 := by omega
    exact ⟨Nat.le_refl _, by simp [T.hist0]⟩
  | p + 1, hp, c, hc, hcut => by
    obtain ⟨_, g, _, h2⟩ := T.step p (by omega)
    rcases h2 with ⟨h3, h4, h5, _⟩ | ⟨h3, h4, h5, _⟩
    · have hcp : c ≤ p := by
        rcases Nat.lt_or_ge p c with h | h
        · have : c = p + 1 := by omega
          subst this
          rcases hcut with h | h
          · omega
          · exact absurd h h3
        · exact h
      obtain ⟨k1, k2⟩ := hist_at p (by omega) c hcp hcut
      rw [h4, h5]; exact ⟨k1, k2⟩
    · rw [h4, h5]
      rcases Nat.lt_or_ge p c with h | h
      · have : c = p + 1 := by omega
        subst this
        rw [h5]; exact ⟨Nat.le_refl _, by simp⟩
      · obtain ⟨k1, k2⟩ := hist_at p (by omega) c h hcut
        refine ⟨by omega, ?_⟩
        rw [show (T.S p).k + 1 - (T.S c).k = ((T.S p).k - (T.S c).k) + 1 by omega]
        simpa using k2

/-- What a heap is behind a step. -/
theorem step_ok (hcall : CallR P call) (p : Nat) (hp : p < ops.size) : Ok P (T.S p).h (T.S (p + 1)).h := by
  obtain ⟨o, _, hc⟩ := T.comp p hp
  obtain ⟨_, g, _, h2⟩ := T.step p hp
  rcases h2 with ⟨_, _, _, h3⟩ | ⟨_, _, _, h3⟩
  · rcases h3 with ⟨_, _, h4⟩ | ⟨_, _, h4, _⟩ | ⟨_, _, h4⟩
    · rw [h4]; exact Ok.refl _
    · rw [h4]; exact Ok.refl _
    · exact evalOp_ok _ _ _ h4
  · rcases h3 with ⟨_, _, h4⟩ | ⟨_, h4⟩
    · rw [h4]; exact Ok.refl _
    · rw [hc.call] at h4
      cases hcp : isCallOp (T.op p).op with
      | false => rw [hcp] at h4; exact evalOp_ok _ _ _ h4
      | true => rw [hcp] at h4; exact call_ok hcall hc.op hcp h4
theorem ok (hcall : CallR P call) (p : Nat) : ∀ q, p ≤ q → q ≤ ops.size → Ok P (T.S p).h (T.S q).h := by
  intro q hpq
  induction hpq with
  | refl => intro _; exact Ok.refl _
  | step hpq ih => intro hq; exact (ih (by omega)).trans (T.step_ok hcall _ (by omega))

/-- Where a block is made that stands alone. -/
def NewAt (q b : Nat) : Prop := (T.op q).kind = 3 ∧ (T.S q).h.next = b ∧ (T.S (q + 1)).h.next = b + 1
open Classical in
noncomputable def nobj (b : Nat) : Option AObj := if h : ∃ q, q < ops.size ∧ T.NewAt q b then (T.S (Classical.choose h + 1)).h.objs.get b else none
theorem newAt_unique (hcall : CallR P call) {q q' b : Nat} (hq : q < ops.size) (hq' : q' < ops.size) (h : T.NewAt q b) (h' : T.NewAt q' b) : q = q' := by
  rcases Nat.lt_trichotomy q q' with hl | rfl | hl
  · have := (T.ok hcall (q + 1) q' hl (by omega)).1
    have h1 := h.2.2; have h2 := h'.2.1; omega
  · rfl
  · have := (T.ok hcall (q' + 1) q hl (by omega)).1
    have h1 := h'.2.2; have h2 := h.2.1; omega
theorem nobj_at (hcall : CallR P call) {q b : Nat} (hq : q < ops.size) (h : T.NewAt q b) : T.nobj b = (T.S (q + 1)).h.objs.get b := by
  have hex : ∃ q, q < ops.size ∧ T.NewAt q b := ⟨q, hq, h⟩
  unfold nobj
  rw [dif_pos hex]
  rw [T.newAt_unique hcall (Classical.choose_spec hex).1 hq (Classical.choose_spec hex).2 h]

/-- A step without an effect: nothing turns, or one block is new. -/
theorem quiet {q : Nat} (hq : q < ops.size) (hk : (T.op q).kind ≠ 2) : (T.S (q + 1)).h = (T.S q).h ∨
    ((T.op q).kind = 3 ∧ ∃ cells e, (T.S (q + 1)).h = (T.S q).h.alloc cells e 0 true ∧ wantedA (T.S q).t (T.op q).guard = some true ∧ evalOp (T.op q).op (T.S q).t (T.S q).h = some (T.V q, (T.S (q + 1)).h)) := by
  obtain ⟨o, _, hc⟩ := T.comp q hq
  obtain ⟨_, g, hg, h2⟩ := T.step q hq
  rcases h2 with ⟨_, _, _, h3⟩ | ⟨h3, _⟩
  · rcases h3 with ⟨_, _, h4⟩ | ⟨_, _, h4, _⟩ | ⟨hgt, h5, h4⟩
    · exact .inl h4
    · exact .inl h4
    · rcases kindOf_le (T.op q).op with e | e | e | e <;> have e' := hc.kind.trans e
      · exact .inl (pure_keeps e _ _ h4)
      · exact absurd e' h5
      · exact absurd e' hk
      · obtain ⟨cells, el, h6⟩ := alloc_of e h4
        exact .inr ⟨e', cells, el, h6, by rw [hg, hgt], h4⟩
  · exact absurd h3 hk

open Classical in
theorem heap_from (hcall : CallR P call) {c : Nat} : ∀ p, c ≤ p → p ≤ ops.size → (∀ q, c ≤ q → q < p → (T.op q).kind ≠ 2) → ∀ b,
    (T.S p).h.objs.get b = if ∃ q, c ≤ q ∧ q < p ∧ T.NewAt q b then T.nobj b else (T.S c).h.objs.get b := by
  intro p hcp
  induction hcp with
  | refl =>
    intro _ _ b
    rw [if_neg]
    rintro ⟨q, h1, h2, _⟩; omega
  | @step p hcp ih =>
    intro hp hq b
    have ih := ih (by omega) (fun q h1 h2 => hq q h1 (by omega)) b
    rcases T.quiet (q := p) (by omega) (hq p hcp (by omega)) with h | ⟨hk, cells, e, h, _, _⟩
    · rw [h, ih]
      have hn : ¬ T.NewAt p b := fun hn => by have h1 := hn.2.1; have h2 := hn.2.2; rw [h] at h2; omega
      by_cases hx : ∃ q, c ≤ q ∧ q < p ∧ T.NewAt q b
      · rw [if_pos hx, if_pos]
        obtain ⟨q, h1, h2, h3⟩ := hx; exact ⟨q, h1, by omega, h3⟩
      · rw [if_neg hx, if_neg]
        rintro ⟨q, h1, h2, h3⟩
        rcases Nat.lt_or_ge q p with h4 | h4
        · exact hx ⟨q, h1, h4, h3⟩
        · obtain rfl : q = p := by omega
          exact hn h3
    · by_cases hb : (T.S p).h.next = b
      · have hn : T.NewAt p b := ⟨hk, hb, by rw [h, alloc_next, hb]⟩
        rw [if_pos ⟨p, hcp, by omega, hn⟩, T.nobj_at hcall (by omega) hn]
      · have hget : (T.S (p + 1)).h.objs.get b = (T.S p).h.objs.get b := by
          rw [h, alloc_get]; exact if_neg hb
        rw [hget, ih]
        by_cases hx : ∃ q, c ≤ q ∧ q < p ∧ T.NewAt q b
        · rw [if_pos hx, if_pos]
          obtain ⟨q, h1, h2, h3⟩ := hx; exact ⟨q, h1, by omega, h3⟩
        · rw [if_neg hx, if_neg]
          rintro ⟨q, h1, h2, h3⟩
          rcases Nat.lt_or_ge q p with h4 | h4
          · exact hx ⟨q, h1, h4, h3⟩
          · obtain rfl : q = p := by omega
            exact hb h3.2.1

/-- Where a slot's value is from. -/
theorem slot_from : ∀ p, p ≤ ops.size → ∀ d v, (T.S p).t.get d = some v →
    (∃ q, q < p ∧ (T.op q).dst = some d ∧ T.V q = v ∧ ∀ q', q < q' → q' < p → (T.op q').dst ≠ some d) ∨ ((T.S 0).t.get d = some v ∧ ∀ q, q < p → (T.op q).dst ≠ some d)
  | 0, _, d, v, h => .inr ⟨h, fun q hq => by omega⟩
  | p + 1, hp, d, v, h => by
    obtain ⟨h1, _⟩ := T.step p (by omega)
    rw [h1] at h
    by_cases hd : (T.op p).dst = some d
    · rw [hd] at h
      have h : ((T.S p).t.set d (T.V p)).get d = some v := h
      rw [Go.Ev.T.get_set, if_pos rfl] at h
      cases h
      exact .inl ⟨p, by omega, hd, rfl, fun q' h1 h2 => by omega⟩
    · have hget : (putD (T.S p).t (T.op p).dst (T.V p)).get d = (T.S p).t.get d := by
        cases he : (T.op p).dst with
        | none => rfl
        | some d' =>
          show ((T.S p).t.set d' (T.V p)).get d = _
          rw [Go.Ev.T.get_set, if_neg (fun e => hd (by rw [he, e]))]
      rw [hget] at h
      rcases slot_from p (by omega) d v h with ⟨q, k1, k2, k3, k4⟩ | ⟨k1, k2⟩
      · refine .inl ⟨q, by omega, k2, k3, fun q' h1 h2 => ?_⟩
        rcases Nat.lt_or_ge q' p with h3 | h3
        · exact k4 q' h1 h3
        · obtain rfl : q' = p := by omega
          exact hd
      · refine .inr ⟨k1, fun q hq => ?_⟩
        rcases Nat.lt_or_ge q p with h3 | h3
        · exact k2 q h3
        · obtain rfl : q = p := by omega
          exact hd
end Tr
end Go.Ev
