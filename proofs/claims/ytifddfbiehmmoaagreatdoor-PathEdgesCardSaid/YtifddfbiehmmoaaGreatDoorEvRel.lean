/- What an abstract heap says of a world: values, blocks, and what is left alone. -/
import Derived.Test.YtifddfbiehmmoaaGreatDoorEv
import Derived.Laws.Sem
import Derived.Laws.Cells
import Derived.Laws.World
namespace Go.Ev
open Go
set_option linter.unusedSimpArgs false

/-! ### The small steps. -/
section
variable {α β : Type}
theorem ob_some {x : Option α} {f : α → Option β} {y : β} : ob x f = some y ↔ ∃ a, x = some a ∧ f a = some y := by cases x <;> simp [ob]
theorem og_some {b : Bool} {k : Option β} {y : β} : og b k = some y ↔ b = true ∧ k = some y := by cases b <;> simp [og]
@[simp] theorem oi_true (x y : β) : oi true x y = x := rfl
@[simp] theorem oi_false (x y : β) : oi false x y = y := rfl
theorem oi_eq (b : Bool) (x y : β) : oi b x y = if b then x else y := by cases b <;> rfl
end

/-! ### The tree. -/
namespace T
variable {α : Type}
@[simp] theorem get_nil (n : Nat) : (T.nil : T α).get n = none := rfl
theorem get_node (v : Option α) (l r : T α) (n : Nat) :
    (T.node v l r).get n = match n with | 0 => v | m + 1 => if m % 2 = 1 then r.get (m / 2) else l.get (m / 2) := by
  cases n with
  | zero => rfl
  | succ m =>
    show Bool.rec (motive := fun _ => Option α) (l.get (m / 2)) (r.get (m / 2)) (Nat.beq (m % 2) 1) = _
    by_cases h : m % 2 = 1
    · simp [h]
    · have : Nat.beq (m % 2) 1 = false := by rw [Bool.eq_false_iff]; intro hb; exact h (Nat.eq_of_beq_eq_true hb)
      simp [this, h]
theorem setF_succ (x : Option α) (f : Nat) (t : T α) (n : Nat) : setF x (f + 1) t n =
    match t with
    | .nil => (match n with | 0 => .node x .nil .nil | m + 1 => if m % 2 = 1 then .node none .nil (setF x f .nil (m / 2)) else .node none (setF x f .nil (m / 2)) .nil)
    | .node v l r => (match n with | 0 => .node x l r | m + 1 => if m % 2 = 1 then .node v l (setF x f r (m / 2)) else .node v (setF x f l (m / 2)) r) := by
  cases t with
  | nil =>
    cases n with
    | zero => rfl
    | succ m =>
      show Bool.rec (motive := fun _ => T α) (.node none (setF x f .nil (m / 2)) .nil) (.node none .nil (setF x f .nil (m / 2))) (Nat.beq (m % 2) 1) = _
      by_cases h : m % 2 = 1
      · simp [h]
      · have : Nat.beq (m % 2) 1 = false := by rw [Bool.eq_false_iff]; intro hb; exact h (Nat.eq_of_beq_eq_true hb)
        simp [this, h]
  | node v l r =>
    cases n with
    | zero => rfl
    | succ m =>
      show Bool.rec (motive := fun _ => T α) (.node v (setF x f l (m / 2)) r) (.node v l (setF x f r (m / 2))) (Nat.beq (m % 2) 1) = _
      by_cases h : m % 2 = 1
      · simp [h]
      · have : Nat.beq (m % 2) 1 = false := by rw [Bool.eq_false_iff]; intro hb; exact h (Nat.eq_of_beq_eq_true hb)
        simp [this, h]
theorem get_setF (x : Option α) : ∀ (f : Nat) (t : T α) (n m : Nat), n < f → (setF x f t n).get m = if n = m then x else t.get m := by
  intro f
  induction f with
  | zero => intro t n m h; omega
  | succ f ih =>
    intro t n m h
    rw [setF_succ]
    cases t with
    | nil =>
      cases n with
      | zero => cases m <;> simp [get_node]
      | succ k =>
        have hk : k / 2 < f := by omega
        by_cases hp : k % 2 = 1
        · simp only [hp, if_true, get_node]
          cases m with
          | zero => simp
          | succ j =>
            by_cases hj : j % 2 = 1
            · simp only [hj, if_true, ih _ _ _ hk]
              by_cases e : k / 2 = j / 2
              · have : k = j := by omega
                simp [this]
              · have : k ≠ j := fun h => e (by rw [h])
                simp [e, this]
            · have : k ≠ j := fun h => hj (by rw [← h]; exact hp)
              simp [hj, this]
        · simp only [hp, if_false, get_node]
          cases m with
          | zero => simp
          | succ j =>
            by_cases hj : j % 2 = 1
            · have : k ≠ j := fun h => hp (by rw [h]; exact hj)
              simp [hj, this]
            · simp only [hj, if_false, ih _ _ _ hk]
              by_cases e : k / 2 = j / 2
              · have : k = j := by omega
                simp [this]
              · have : k ≠ j := fun h => e (by rw [h])
                simp [e, this]
    | node v l r =>
      cases n with
      | zero => cases m <;> simp [get_node]
      | succ k =>
        have hk : k / 2 < f := by omega
        by_cases hp : k % 2 = 1
        · simp only [hp, if_true, get_node]
          cases m with
          | zero => simp
          | succ j =>
            by_cases hj : j % 2 = 1
            · simp only [hj, if_true, ih _ _ _ hk]
              by_cases e : k / 2 = j / 2
              · have : k = j := by omega
                simp [this]
              · have : k ≠ j := fun h => e (by rw [h])
                simp [e, this]
            · have : k ≠ j := fun h => hj (by rw [← h]; exact hp)
              simp [hj, this]
        · simp only [hp, if_false, get_node]
          cases m with
          | zero => simp
          | succ j =>
            by_cases hj : j % 2 = 1
            · have : k ≠ j := fun h => hp (by rw [h]; exact hj)
              simp [hj, this]
            · simp only [hj, if_false, ih _ _ _ hk]
              by_cases e : k / 2 = j / 2
              · have : k = j := by omega
                simp [this]
              · have : k ≠ j := fun h => e (by rw [h])
                simp [e, this]
theorem get_put (t : T α) (n m : Nat) (x : Option α) : (t.put n x).get m = if n = m then x else t.get m := get_setF x _ t n m (Nat.lt_succ_self n)
theorem get_set (t : T α) (n m : Nat) (x : α) : (t.set n x).get m = if n = m then some x else t.get m := get_setF _ _ t n m (Nat.lt_succ_self n)
end T

/-! ### Values. -/
/-- Where an abstract block lies: its block, its first cell; where it may grow: the cells of an element, and how many cells there are from its first one on. -/
structure Loc where
  blk : Nat
  base : Nat
  esz : Nat
  cells : Nat
abbrev Ren := Nat → Option Loc

mutual
inductive VR (ρ : Ren) : Value → Value → Prop
  | bool (b : Bool) : VR ρ (.bool b) (.bool b)
  | int (k : IntKind) (n : Int) : VR ρ (.int k n) (.int k n)
  | float (k : FloatKind) (n : Nat) : VR ρ (.float k n) (.float k n)
  | string (s : ByteArray) : VR ρ (.string s) (.string s)
  | pnil : VR ρ (.pointer none) (.pointer none)
  | ptr {b o : Nat} {L : Loc} (h : ρ b = some L) : VR ρ (.pointer (some ⟨b, o, none⟩)) (.pointer (some ⟨L.blk, L.base + o, none⟩))
  | snil : VR ρ (.slice none 0 0) (.slice none 0 0)
  | slice {b o n cc c : Nat} {L : Loc} (h : ρ b = some L) (h1 : n ≤ cc / 3) (h2 : cc / 3 ≤ c) (h3 : cc % 3 = 1 → c = cc / 3) (h4 : cc % 3 = 0 → o + c * L.esz = L.cells) :
      VR ρ (.slice (some ⟨b, o, none⟩) n cc) (.slice (some ⟨L.blk, L.base + o, none⟩) n c)
  | slice0 {a : Addr} {b o cc : Nat} (h : cc / 3 = 0) : VR ρ (.slice (some a) 0 cc) (.slice (some ⟨b, o, none⟩) 0 0)
  | mnil : VR ρ (.map none) (.map none)
  | map {r : Nat} {L : Loc} (h : ρ r = some L) : VR ρ (.map (some r)) (.map (some L.blk))
  | func {fn : Fn} {a a' b b' : List Value} (hn : ∀ l, fn ≠ .yield l) (h1 : VRL ρ a a') (h2 : VRL ρ b b') : VR ρ (.func fn ⟨a⟩ ⟨b⟩) (.func fn ⟨a'⟩ ⟨b'⟩)
  | yield {k : Nat} {L : Loc} (h : ρ k = some L) : VR ρ (.func (.yield k) ⟨[]⟩ ⟨[]⟩) (.func (.yield L.blk) ⟨[]⟩ ⟨[]⟩)
  | nilFunc : VR ρ .nilFunc .nilFunc
  | nilIface : VR ρ .nilIface .nilIface
  | agg {a a' : List Value} (h : VRL ρ a a') : VR ρ (.agg ⟨a⟩) (.agg ⟨a'⟩)
  | tuple {a a' : List Value} (h : VRL ρ a a') : VR ρ (.tuple ⟨a⟩) (.tuple ⟨a'⟩)
inductive VRL (ρ : Ren) : List Value → List Value → Prop
  | nil : VRL ρ [] []
  | cons {v v' : Value} {l l' : List Value} (h : VR ρ v v') (ht : VRL ρ l l') : VRL ρ (v :: l) (v' :: l')
end

def Ren.le (ρ ρ' : Ren) : Prop := ∀ b L, ρ b = some L → ρ' b = some L
theorem Ren.le_refl (ρ : Ren) : ρ.le ρ := fun _ _ h => h
theorem Ren.le_trans {ρ ρ' ρ'' : Ren} (h : ρ.le ρ') (h' : ρ'.le ρ'') : ρ.le ρ'' := fun b L e => h' b L (h b L e)

mutual
theorem VR.mono {ρ ρ' : Ren} (hle : ρ.le ρ') : ∀ {v v' : Value}, VR ρ v v' → VR ρ' v v'
  | _, _, .bool b => .bool b
  | _, _, .int k n => .int k n
  | _, _, .float k n => .float k n
  | _, _, .string s => .string s
  | _, _, .pnil => .pnil
  | _, _, .ptr h => .ptr (hle _ _ h)
  | _, _, .snil => .snil
  | _, _, .slice h h1 h2 h3 h4 => .slice (hle _ _ h) h1 h2 h3 h4
  | _, _, .slice0 h => .slice0 h
  | _, _, .mnil => .mnil
  | _, _, .map h => .map (hle _ _ h)
  | _, _, .func hn h1 h2 => .func hn (VRL.mono hle h1) (VRL.mono hle h2)
  | _, _, .yield h => .yield (hle _ _ h)
  | _, _, .nilFunc => .nilFunc
  | _, _, .nilIface => .nilIface
  | _, _, .agg h => .agg (VRL.mono hle h)
  | _, _, .tuple h => .tuple (VRL.mono hle h)
theorem VRL.mono {ρ ρ' : Ren} (hle : ρ.le ρ') : ∀ {l l' : List Value}, VRL ρ l l' → VRL ρ' l l'
  | _, _, .nil => .nil
  | _, _, .cons h ht => .cons (VR.mono hle h) (VRL.mono hle ht)
end

theorem VR.undef (ρ : Ren) : VR ρ undefV undef := .tuple .nil

section VRL
variable {ρ : Ren}
theorem VRL.length {l l' : List Value} (h : VRL ρ l l') : l.length = l'.length := by
  induction l generalizing l' with
  | nil => cases h; rfl
  | cons v l ih => cases h with | cons h ht => simp [ih ht]
theorem VRL.get {l l' : List Value} (h : VRL ρ l l') : ∀ (i : Nat) (v : Value), l[i]? = some v → ∃ v', l'[i]? = some v' ∧ VR ρ v v' := by
  induction l generalizing l' with
  | nil => intro i v hv; simp at hv
  | cons x l ih =>
    cases h with
    | cons h ht =>
      intro i v hv
      cases i with
      | zero => simp at hv; subst hv; exact ⟨_, rfl, h⟩
      | succ i => exact ih ht i v (by simpa using hv)
theorem VRL.append {l l' m m' : List Value} (h : VRL ρ l l') (k : VRL ρ m m') : VRL ρ (l ++ m) (l' ++ m') := by
  induction l generalizing l' with
  | nil => cases h; exact k
  | cons v l ih => cases h with | cons h ht => exact .cons h (ih ht)
theorem VRL.take {l l' : List Value} (h : VRL ρ l l') (n : Nat) : VRL ρ (l.take n) (l'.take n) := by
  induction n generalizing l l' with
  | zero => exact .nil
  | succ n ih => cases h with | nil => exact .nil | cons h ht => exact .cons h (ih ht)
theorem VRL.drop {l l' : List Value} (h : VRL ρ l l') (n : Nat) : VRL ρ (l.drop n) (l'.drop n) := by
  induction n generalizing l l' with
  | zero => exact h
  | succ n ih => cases h with | nil => exact .nil | cons h ht => exact ih ht
theorem VR.one {v v' : Value} (h : VR ρ v v') : one v = v'.oneCell' := by cases h <;> rfl
theorem VRL.allOne {l l' : List Value} (h : VRL ρ l l') : allOne l = true → ∀ v ∈ l', v.oneCell' = true := by
  induction l generalizing l' with
  | nil => cases h; simp
  | cons v l ih =>
    cases h with
    | cons h ht =>
      intro ha
      have ha' : oi (Ev.one v) (Ev.allOne l) false = true := ha
      cases hv : Ev.one v with
      | false => rw [hv] at ha'; cases ha'
      | true =>
        rw [hv] at ha'
        intro u hu
        cases hu with
        | head => rw [← h.one]; exact hv
        | tail _ hu => exact ih ht ha' u hu
theorem VR.cells : ∀ {v v' : Value}, VR ρ v v' → VRL ρ (cellsL v) v'.cells.toList
  | _, _, .bool b => .cons (.bool b) .nil
  | _, _, .int k n => .cons (.int k n) .nil
  | _, _, .float k n => .cons (.float k n) .nil
  | _, _, .string s => .cons (.string s) .nil
  | _, _, .pnil => .cons .pnil .nil
  | _, _, .ptr h => .cons (.ptr h) .nil
  | _, _, .snil => .cons .snil .nil
  | _, _, .slice h h1 h2 h3 h4 => .cons (.slice h h1 h2 h3 h4) .nil
  | _, _, .slice0 h => .cons (.slice0 h) .nil
  | _, _, .mnil => .cons .mnil .nil
  | _, _, .map h => .cons (.map h) .nil
  | _, _, .func hn h1 h2 => .cons (.func hn h1 h2) .nil
  | _, _, .yield h => .cons (.yield h) .nil
  | _, _, .nilFunc => .cons .nilFunc .nil
  | _, _, .nilIface => .cons .nilIface .nil
  | _, _, .agg h => h
  | _, _, .tuple h => .cons (.tuple h) .nil
end VRL

/-- Two values without addresses are one. -/
theorem plain_refl {v : Value} (h : plain v = true) (ρ : Ren) : VR ρ v v := by
  cases v with
  | bool b => exact .bool b
  | int k n => exact .int k n
  | float k n => exact .float k n
  | string s => exact .string s
  | pointer a => cases a with | none => exact .pnil | some a => exact absurd h (by simp [plain, isNoneA])
  | slice a n c =>
    cases a with
    | none =>
      have h' : oi (Nat.beq n 0) (Nat.beq c 0) false = true := h
      cases hn : Nat.beq n 0 with
      | false => rw [hn] at h'; cases h'
      | true =>
        rw [hn] at h'
        obtain rfl := Nat.eq_of_beq_eq_true hn
        obtain rfl := Nat.eq_of_beq_eq_true h'
        exact .snil
    | some a => exact absurd h (by simp [plain, isNoneA])
  | map r => cases r with | none => exact .mnil | some a => exact absurd h (by simp [plain, isNoneN])
  | nilFunc => exact .nilFunc
  | nilIface => exact .nilIface
  | complex => cases h
  | chan => cases h
  | func => cases h
  | iface => cases h
  | agg => cases h
  | tuple => cases h
theorem plain_eq {ρ : Ren} {v v' : Value} (h : VR ρ v v') (hp : plain v = true) : v' = v := by
  cases h <;> first | rfl | (exact absurd hp (by simp [plain, isNoneA, isNoneN]))
theorem plains_refl {l : List Value} (h : plains l = true) (ρ : Ren) : VRL ρ l l := by
  induction l with
  | nil => exact .nil
  | cons v l ih =>
    have h' : oi (plain v) (plains l) false = true := h
    cases hv : plain v with
    | false => rw [hv] at h'; cases h'
    | true => rw [hv] at h'; exact .cons (plain_refl hv ρ) (ih h')
theorem constOk_refl {v : Value} (h : constOk v = true) (ρ : Ren) : VR ρ v v := by
  unfold constOk at h
  cases hp : plain v with
  | true => exact plain_refl hp ρ
  | false =>
    rw [hp] at h
    cases v with
    | agg a => obtain ⟨l⟩ := a; exact .agg (plains_refl h ρ)
    | _ => exact absurd h (by simp [asAgg])

structure TR (ρ : Ren) (t : TM) (a : Array Value) : Prop where
  rel : ∀ i v, t.get i = some v → ∃ v', a[i]? = some v' ∧ VR ρ v v'
theorem TR.mono {ρ ρ' : Ren} (hle : ρ.le ρ') {t : TM} {a : Array Value} (h : TR ρ t a) : TR ρ' t a := ⟨fun i v hv => let ⟨v', h1, h2⟩ := h.rel i v hv; ⟨v', h1, h2.mono hle⟩⟩

/-! ### Blocks, and the heap. -/
inductive MR (ρ : Ren) : List MapEntry → List MapEntry → Prop
  | nil : MR ρ [] []
  | cons {k k' v v' : Value} {n : Nat} {l l' : List MapEntry} (hk : VR ρ k k') (hp : plain k = true) (hv : VR ρ v v') (ht : MR ρ l l') : MR ρ (⟨k, v, n⟩ :: l) (⟨k', v', n⟩ :: l')
theorem MR.mono {ρ ρ' : Ren} (hle : ρ.le ρ') {l l' : List MapEntry} (h : MR ρ l l') : MR ρ' l l' := by
  induction h with
  | nil => exact .nil
  | cons hk hp hv _ ih => exact .cons (hk.mono hle) hp (hv.mono hle) ih

def frozenAt (fz : Nat × Nat) (off : Nat) : Bool := decide (fz.1 ≤ off) && decide (off < fz.2)

def stOf : Nat → LoopState
  | 0 => .ready
  | 1 => .busy
  | 2 => .done
  | _ => .exhausted
def codeOf : AExit → Code
  | .normal => .skip
  | .exit i => .exit i
  | .ret => .ret
def OR (ρ : Ren) (o : AObj) (L : Loc) (r : Obj) : Prop :=
  match o with
  | .cells c _ z cl => ∃ (C : Array Value) (e : TypeId) (fz : Nat × Nat), r = .cells C e fz ∧
      (∀ i v, c.get i = some v → ∃ v', C[L.base + i]? = some v' ∧ VR ρ v v') ∧ (z ≠ 0 → L.esz = z ∧ L.base + L.cells = C.size) ∧ (cl = true → fz = (0, 0)) ∧
      (∀ off, off < C.size → frozenAt fz off = false)
  | .map es clock => ∃ es', r = .map es' clock ∧ MR ρ es es'.toList
  | .text s pos => r = .stringIter s pos ∧ L.base = 0
  | .loop R => ∃ q : Loop, r = .loop q ∧ q.state = stOf R.st ∧ q.pending = R.pend.map codeOf ∧ q.params.toList = R.ps ∧ q.assign = R.ca ∧ q.body = R.cb ∧ TR ρ R.t q.tmps ∧ R.n ≤ q.tmps.size

theorem OR.mono {ρ ρ' : Ren} (hle : ρ.le ρ') {o : AObj} {L : Loc} {r : Obj} (h : OR ρ o L r) : OR ρ' o L r := by
  cases o with
  | cells c e z cl =>
    obtain ⟨C, e', fz, h1, h2, h3⟩ := h
    exact ⟨C, e', fz, h1, fun i v hv => let ⟨v', a, b⟩ := h2 i v hv; ⟨v', a, b.mono hle⟩, h3⟩
  | map es c => obtain ⟨es', h1, h2⟩ := h; exact ⟨es', h1, h2.mono hle⟩
  | text s pos => exact h
  | loop R => obtain ⟨q, h1, h2, h3, h4, h5, h6, h7, h8⟩ := h; exact ⟨q, h1, h2, h3, h4, h5, h6, h7.mono hle, h8⟩

abbrev Objs := Nat → Option AObj
structure HR (ρ : Ren) (m : Objs) (w : World) : Prop where
  obj : ∀ b o, m b = some o → ∃ L r, ρ b = some L ∧ w.heap[L.blk]? = some r ∧ OR ρ o L r
  inj : ∀ b c o p L M, m b = some o → m c = some p → ρ b = some L → ρ c = some M → L.blk = M.blk → b = c

/-- From a world to a later one: of what is not the heap's nothing has turned. -/
structure Fr (ρ : Ren) (m : Objs) (w : World) (ρ' : Ren) (m' : Objs) (w' : World) (lo hi : Nat) : Prop where
  ext : ρ.le ρ'
  new : ∀ b L, ρ' b = some L → ρ b = some L ∨ (lo ≤ b ∧ b < hi)
  size : w.heap.size ≤ w'.heap.size
  junk : ∀ r, r < w.heap.size → (∀ b o L, m b = some o → ρ b = some L → L.blk ≠ r) → w'.heap[r]? = w.heap[r]?
  own : ∀ b o L, m' b = some o → ρ' b = some L → (∃ b0 o0 L0, m b0 = some o0 ∧ ρ b0 = some L0 ∧ L0.blk = L.blk) ∨ w.heap.size ≤ L.blk
  os : w'.os = w.os
  output : w'.output = w.output
  tape : w'.tape = w.tape

theorem Fr.refl (ρ : Ren) (m : Objs) (w : World) (lo hi : Nat) : Fr ρ m w ρ m w lo hi :=
  ⟨ρ.le_refl, fun _ _ h => .inl h, Nat.le_refl _, fun _ _ _ => rfl, fun b o L h h' => .inl ⟨b, o, L, h, h', rfl⟩, rfl, rfl, rfl⟩

theorem Fr.trans {ρ ρ' ρ'' : Ren} {m m' m'' : Objs} {w w' w'' : World} {lo mid hi : Nat} (hlm : lo ≤ mid) (hmh : mid ≤ hi)
    (h : Fr ρ m w ρ' m' w' lo mid) (k : Fr ρ' m' w' ρ'' m'' w'' mid hi) : Fr ρ m w ρ'' m'' w'' lo hi where
  ext := Ren.le_trans h.ext k.ext
  new := fun b L hb => by
    rcases k.new b L hb with h1 | ⟨h1, h2⟩
    · rcases h.new b L h1 with h3 | ⟨h3, h4⟩
      · exact .inl h3
      · exact .inr ⟨h3, by omega⟩
    · exact .inr ⟨by omega, h2⟩
  size := Nat.le_trans h.size k.size
  junk := fun r hr hj => by
    rw [k.junk r (Nat.lt_of_lt_of_le hr h.size) (fun b o L hb hL e => ?_), h.junk r hr hj]
    rcases h.own b o L hb hL with ⟨b0, o0, L0, h1, h2, h3⟩ | h1
    · exact hj b0 o0 L0 h1 h2 (h3.trans e)
    · omega
  own := fun b o L hb hL => by
    rcases k.own b o L hb hL with ⟨b0, o0, L0, h1, h2, h3⟩ | h1
    · rcases h.own b0 o0 L0 h1 h2 with ⟨b1, o1, L1, h4, h5, h6⟩ | h4
      · exact .inl ⟨b1, o1, L1, h4, h5, h6.trans h3⟩
      · exact .inr (by omega)
    · exact .inr (Nat.le_trans h.size h1)
  os := k.os.trans h.os
  output := k.output.trans h.output
  tape := k.tape.trans h.tape

theorem Fr.wider {ρ ρ' : Ren} {m m' : Objs} {w w' : World} {lo hi lo' hi' : Nat} (h : Fr ρ m w ρ' m' w' lo hi) (h1 : lo' ≤ lo) (h2 : hi ≤ hi') : Fr ρ m w ρ' m' w' lo' hi' :=
  { h with new := fun b L hb => (h.new b L hb).imp id fun ⟨a, c⟩ => ⟨by omega, by omega⟩ }

/-- The heap may be said of in part. -/
theorem HR.sub {ρ : Ren} {m m' : Objs} {w : World} (h : HR ρ m w) (hs : ∀ b o, m' b = some o → m b = some o) : HR ρ m' w :=
  ⟨fun b o hb => h.obj b o (hs b o hb), fun b c o p L M hb hc => h.inj b c o p L M (hs b o hb) (hs c p hc)⟩

theorem HR.drew {ρ : Ren} {m : Objs} {w : World} (h : HR ρ m w) (n : Nat) : HR ρ m { w with drawn := n } := ⟨h.obj, h.inj⟩

/-- One block turns, of those that are there. -/
theorem HR.upd {ρ : Ren} {m : Objs} {w : World} (h : HR ρ m w) {b : Nat} {o' : AObj} {L : Loc} {r' : Obj} (hb : ∃ o, m b = some o) (hL : ρ b = some L) (ho : OR ρ o' L r') :
    HR ρ (fun x => if b = x then some o' else m x) { w with heap := w.heap.setIfInBounds L.blk r' } := by
  obtain ⟨o, hb⟩ := hb
  have hlt : L.blk < w.heap.size := by
    obtain ⟨L', r, h1, h2, _⟩ := h.obj b o hb
    rw [hL] at h1; cases h1
    exact (Array.getElem?_eq_some_iff.1 h2).1
  refine ⟨fun c p hc => ?_, fun c d p q M N hc hd hM hN e => ?_⟩
  · by_cases hbc : b = c
    · subst hbc
      simp at hc; subst hc
      exact ⟨L, r', hL, by simp [hlt], ho⟩
    · simp [hbc] at hc
      obtain ⟨M, r, h1, h2, h3⟩ := h.obj c p hc
      refine ⟨M, r, h1, ?_, h3⟩
      have hne : L.blk ≠ M.blk := fun e => hbc (h.inj b c o p L M hb hc hL h1 e)
      simp [Array.getElem?_setIfInBounds_ne hne, h2]
  · have key : ∀ x y, (if b = x then some o' else m x) = some y → ∃ z, m x = some z := fun x y hx => by
      by_cases hbx : b = x
      · subst hbx; exact ⟨o, hb⟩
      · simp [hbx] at hx; exact ⟨y, hx⟩
    obtain ⟨p', hc'⟩ := key c p hc
    obtain ⟨q', hd'⟩ := key d q hd
    exact h.inj c d p' q' M N hc' hd' hM hN e

theorem Fr.upd {ρ : Ren} {m : Objs} {w : World} {b : Nat} {o o' : AObj} {L : Loc} (r' : Obj) (hb : m b = some o) (hL : ρ b = some L) (lo hi : Nat) :
    Fr ρ m w ρ (fun x => if b = x then some o' else m x) { w with heap := w.heap.setIfInBounds L.blk r' } lo hi where
  ext := ρ.le_refl
  new := fun _ _ h => .inl h
  size := by simp
  junk := fun r _ hj => by
    have hne : L.blk ≠ r := hj b o L hb hL
    simp [Array.getElem?_setIfInBounds_ne hne]
  own := fun c p M hc hM => by
    by_cases hbc : b = c
    · subst hbc; exact .inl ⟨b, o, M, hb, hM, rfl⟩
    · simp [hbc] at hc; exact .inl ⟨c, p, M, hc, hM, rfl⟩
  os := rfl
  output := rfl
  tape := rfl

/-- A new block. -/
def Ren.add (ρ : Ren) (b : Nat) (L : Loc) : Ren := fun x => if b = x then some L else ρ x
theorem Ren.le_add {ρ : Ren} {b : Nat} (h : ρ b = none) (L : Loc) : ρ.le (ρ.add b L) := fun x M hx => by
  have : b ≠ x := fun e => by rw [e, hx] at h; cases h
  simp [Ren.add, this, hx]
theorem HR.new {ρ : Ren} {m : Objs} {w : World} (h : HR ρ m w) {b : Nat} {o' : AObj} {r' : Obj} {L : Loc} (hb : ρ b = none) (hL : L.blk = w.heap.size) (ho : OR (ρ.add b L) o' L r') :
    HR (ρ.add b L) (fun x => if b = x then some o' else m x) { w with heap := w.heap.push r' } := by
  have hle := Ren.le_add hb L
  have old : ∀ c p M, b ≠ c → m c = some p → (ρ.add b L) c = some M → ρ c = some M ∧ M.blk < w.heap.size := fun c p M hbc hc hM => by
    have hM' : ρ c = some M := by simpa [Ren.add, hbc] using hM
    obtain ⟨M', r, h1, h2, _⟩ := h.obj c p hc
    rw [hM'] at h1; cases h1
    exact ⟨hM', (Array.getElem?_eq_some_iff.1 h2).1⟩
  refine ⟨fun c p hc => ?_, fun c d p q M N hc hd hM hN e => ?_⟩
  · by_cases hbc : b = c
    · subst hbc
      simp at hc; subst hc
      exact ⟨L, r', by simp [Ren.add], by simp [hL], ho⟩
    · simp [hbc] at hc
      obtain ⟨M, r, h1, h2, h3⟩ := h.obj c p hc
      refine ⟨M, r, hle _ _ h1, ?_, h3.mono hle⟩
      have hlt := (Array.getElem?_eq_some_iff.1 h2).1
      simp [Array.getElem?_push, Nat.ne_of_lt hlt, h2]
  · by_cases hbc : b = c
    · by_cases hbd : b = d
      · exact hbc.symm.trans hbd
      · simp [hbd] at hd
        have := (old d q N hbd hd hN).2
        subst hbc
        simp [Ren.add] at hM
        subst hM; omega
    · simp [hbc] at hc
      have h1 := old c p M hbc hc hM
      by_cases hbd : b = d
      · subst hbd
        simp [Ren.add] at hN
        subst hN; omega
      · simp [hbd] at hd
        have h2 := old d q N hbd hd hN
        exact h.inj c d p q M N hc hd h1.1 h2.1 e
theorem Fr.add {ρ : Ren} {m : Objs} {w : World} {b : Nat} {o' : AObj} (r' : Obj) {L : Loc} (hb : ρ b = none) (hL : L.blk = w.heap.size) :
    Fr ρ m w (ρ.add b L) (fun x => if b = x then some o' else m x) { w with heap := w.heap.push r' } b (b + 1) where
  ext := Ren.le_add hb L
  new := fun c M h => by
    by_cases hbc : b = c
    · exact .inr (by omega)
    · exact .inl (by simpa [Ren.add, hbc] using h)
  size := by simp
  junk := fun r hr _ => by simp [Array.getElem?_push, Nat.ne_of_lt hr]
  own := fun c p M hc hM => by
    by_cases hbc : b = c
    · subst hbc; simp [Ren.add] at hM; subst hM; exact .inr (Nat.le_of_eq hL.symm)
    · simp [hbc] at hc
      exact .inl ⟨c, p, M, hc, by simpa [Ren.add, hbc] using hM, rfl⟩
  os := rfl
  output := rfl
  tape := rfl

/-! ### Slots. -/
theorem TR.put {ρ : Ren} {t : TM} {a : Act} (h : TR ρ t a.tmps) {dst : Option Nat} {v v' : Value} (hd : dstOk a.tmps.size dst = true) (hv : VR ρ v v') : TR ρ (putD t dst v) (a.put dst v').tmps := by
  cases dst with
  | none => exact h
  | some d =>
    have hlt : d < a.tmps.size := Nat.le_of_ble_eq_true hd
    refine ⟨fun i u hu => ?_⟩
    have hu' : (t.set d v).get i = some u := hu
    rw [T.get_set] at hu'
    by_cases e : d = i
    · subst e
      simp at hu'; subst hu'
      exact ⟨v', by simp [Act.put, hlt], hv⟩
    · simp [e] at hu'
      obtain ⟨u', h1, h2⟩ := h.rel i u hu'
      exact ⟨u', by simp [Act.put, Array.getElem?_setIfInBounds_ne e, h1], h2⟩
@[simp] theorem size_put (a : Act) (dst : Option Nat) (v : Value) : (a.put dst v).tmps.size = a.tmps.size := by cases dst <;> simp [Act.put]
@[simp] theorem defers_put (a : Act) (dst : Option Nat) (v : Value) : (a.put dst v).defers = a.defers := by cases dst <;> rfl

/-- What is known of an operation's operands. -/
def OpsR (ρ : Ren) (t : TM) (a : Act) (xs : List Operand) : Prop := ∀ x ∈ xs, ∀ v, opd t x = some v → VR ρ v (a.eval x)
theorem TR.opd {ρ : Ren} {t : TM} {a : Act} (h : TR ρ t a.tmps) {x : Operand} {v : Value} (hx : opd t x = some v) : VR ρ v (a.eval x) := by
  cases x with
  | tmp i =>
    obtain ⟨v', h1, h2⟩ := h.rel i v hx
    simpa [Act.eval, h1] using h2
  | const u =>
    have hx' : og (constOk u) (some u) = some v := hx
    obtain ⟨h1, h2⟩ := og_some.1 hx'
    cases h2
    exact constOk_refl h1 ρ
  | global g => cases hx
  | func f => cases hx; exact .func (by simp) .nil .nil
theorem TR.ops {ρ : Ren} {t : TM} {a : Act} (h : TR ρ t a.tmps) (xs : List Operand) : OpsR ρ t a xs := fun _ _ _ hx => h.opd hx
end Go.Ev
