/- An executable, deterministic reading of the model's code over an abstract heap: definitions only. -/
import Derived.Orders
import Derived.KernelRfl
namespace Go.Ev
open Go

/-! ### A map from numbers, as a tree. -/
inductive T (α : Type) : Type
  | nil
  | node (v : Option α) (l r : T α)

namespace T
variable {α : Type}
noncomputable def get (t : T α) : Nat → Option α :=
  T.rec (motive := fun _ => Nat → Option α) (fun _ => none)
    (fun v _ _ gl gr n => Nat.rec (motive := fun _ => Option α) v
      (fun m _ => Bool.rec (motive := fun _ => Option α) (gl (Nat.div m (nat_lit 2))) (gr (Nat.div m (nat_lit 2))) (Nat.beq (Nat.mod m (nat_lit 2)) (nat_lit 1))) n) t
noncomputable def setF (x : Option α) (f : Nat) : T α → Nat → T α :=
  Nat.rec (motive := fun _ => T α → Nat → T α) (fun t _ => t)
    (fun _ ih t n => T.rec (motive := fun _ => T α)
      (Nat.rec (motive := fun _ => T α) (.node x .nil .nil)
        (fun m _ => Bool.rec (motive := fun _ => T α) (.node none (ih .nil (Nat.div m (nat_lit 2))) .nil) (.node none .nil (ih .nil (Nat.div m (nat_lit 2)))) (Nat.beq (Nat.mod m (nat_lit 2)) (nat_lit 1))) n)
      (fun v l r _ _ => Nat.rec (motive := fun _ => T α) (.node x l r)
        (fun m _ => Bool.rec (motive := fun _ => T α) (.node v (ih l (Nat.div m (nat_lit 2))) r) (.node v l (ih r (Nat.div m (nat_lit 2)))) (Nat.beq (Nat.mod m (nat_lit 2)) (nat_lit 1))) n) t) f
noncomputable def put (t : T α) (n : Nat) (x : Option α) : T α := setF x (Nat.succ n) t n
noncomputable def set (t : T α) (n : Nat) (x : α) : T α := setF (some x) (Nat.succ n) t n
end T


/-! ### Elementary steps, each small: the kernel copies what it opens. -/
noncomputable def ob {α β : Type} (x : Option α) (f : α → Option β) : Option β := Option.rec (motive := fun _ => Option β) none f x
noncomputable def og {β : Type} (b : Bool) (k : Option β) : Option β := Bool.rec (motive := fun _ => Option β) none k b
noncomputable def oi {β : Type} (b : Bool) (x y : β) : β := Bool.rec (motive := fun _ => β) y x b


/-! ### What a value is: eliminations with closed minor premises (the kernel then copies nothing). -/
noncomputable def ptrAt (a : Option Addr) : Option (Nat × Nat) :=
  Option.rec (motive := fun _ => Option (Nat × Nat)) none (fun a => Addr.rec (motive := fun _ => Option (Nat × Nat)) (fun b o s => Option.rec (motive := fun _ => Option (Nat × Nat)) (some (b, o)) (fun _ => none) s) a) a
/-- A function's number, twice; a loop's, twice and one. -/
noncomputable def funcOf (fn : Fn) (a b : List Value) : Option (Nat × List Value × List Value) :=
  (Fn.rec (motive := fun _ => List Value → List Value → Option (Nat × List Value × List Value)) (fun f a b => some (Nat.mul (nat_lit 2) f, a, b)) (fun _ _ _ => none) (fun _ _ _ _ => none) (fun _ _ _ _ _ _ => none) (fun l a b => some (Nat.succ (Nat.mul (nat_lit 2) l), a, b)) fn) a b
noncomputable def asPtr (v : Value) : Option (Nat × Nat) :=
  Value.rec (motive_1 := fun _ => Option (Nat × Nat)) (motive_2 := fun _ => Unit) (motive_3 := fun _ => Unit)
    (fun _ => none) (fun _ _ => none) (fun _ _ => none) (fun _ _ _ => none) (fun _ => none) (fun a => ptrAt a) (fun _ _ _ => none) (fun _ => none) (fun _ => none) (fun _ _ _ _ _ => none) (none) (fun _ _ _ => none) (none) (fun _ _ => none) (fun _ _ => none)
    (fun _ _ => ()) () (fun _ _ _ _ => ()) v
noncomputable def asBool (v : Value) : Option Bool :=
  Value.rec (motive_1 := fun _ => Option Bool) (motive_2 := fun _ => Unit) (motive_3 := fun _ => Unit)
    (fun b => some b) (fun _ _ => none) (fun _ _ => none) (fun _ _ _ => none) (fun _ => none) (fun _ => none) (fun _ _ _ => none) (fun _ => none) (fun _ => none) (fun _ _ _ _ _ => none) (none) (fun _ _ _ => none) (none) (fun _ _ => none) (fun _ _ => none)
    (fun _ _ => ()) () (fun _ _ _ _ => ()) v
noncomputable def asInt (v : Value) : Option (IntKind × Int) :=
  Value.rec (motive_1 := fun _ => Option (IntKind × Int)) (motive_2 := fun _ => Unit) (motive_3 := fun _ => Unit)
    (fun _ => none) (fun k n => some (k, n)) (fun _ _ => none) (fun _ _ _ => none) (fun _ => none) (fun _ => none) (fun _ _ _ => none) (fun _ => none) (fun _ => none) (fun _ _ _ _ _ => none) (none) (fun _ _ _ => none) (none) (fun _ _ => none) (fun _ _ => none)
    (fun _ _ => ()) () (fun _ _ _ _ => ()) v
noncomputable def asFloat (v : Value) : Option (FloatKind × Nat) :=
  Value.rec (motive_1 := fun _ => Option (FloatKind × Nat)) (motive_2 := fun _ => Unit) (motive_3 := fun _ => Unit)
    (fun _ => none) (fun _ _ => none) (fun k n => some (k, n)) (fun _ _ _ => none) (fun _ => none) (fun _ => none) (fun _ _ _ => none) (fun _ => none) (fun _ => none) (fun _ _ _ _ _ => none) (none) (fun _ _ _ => none) (none) (fun _ _ => none) (fun _ _ => none)
    (fun _ _ => ()) () (fun _ _ _ _ => ()) v
noncomputable def asText (v : Value) : Option ByteArray :=
  Value.rec (motive_1 := fun _ => Option ByteArray) (motive_2 := fun _ => Unit) (motive_3 := fun _ => Unit)
    (fun _ => none) (fun _ _ => none) (fun _ _ => none) (fun _ _ _ => none) (fun s => some s) (fun _ => none) (fun _ _ _ => none) (fun _ => none) (fun _ => none) (fun _ _ _ _ _ => none) (none) (fun _ _ _ => none) (none) (fun _ _ => none) (fun _ _ => none)
    (fun _ _ => ()) () (fun _ _ _ _ => ()) v
noncomputable def asAgg (v : Value) : Option (List Value) :=
  Value.rec (motive_1 := fun _ => Option (List Value)) (motive_2 := fun _ => Unit) (motive_3 := fun _ => Unit)
    (fun _ => none) (fun _ _ => none) (fun _ _ => none) (fun _ _ _ => none) (fun _ => none) (fun _ => none) (fun _ _ _ => none) (fun _ => none) (fun _ => none) (fun _ _ _ _ _ => none) (none) (fun _ _ _ => none) (none) (fun a _ => some a.toList) (fun _ _ => none)
    (fun _ _ => ()) () (fun _ _ _ _ => ()) v
noncomputable def asTuple (v : Value) : Option (List Value) :=
  Value.rec (motive_1 := fun _ => Option (List Value)) (motive_2 := fun _ => Unit) (motive_3 := fun _ => Unit)
    (fun _ => none) (fun _ _ => none) (fun _ _ => none) (fun _ _ _ => none) (fun _ => none) (fun _ => none) (fun _ _ _ => none) (fun _ => none) (fun _ => none) (fun _ _ _ _ _ => none) (none) (fun _ _ _ => none) (none) (fun _ _ => none) (fun a _ => some a.toList)
    (fun _ _ => ()) () (fun _ _ _ _ => ()) v
noncomputable def asMap (v : Value) : Option Nat :=
  Value.rec (motive_1 := fun _ => Option Nat) (motive_2 := fun _ => Unit) (motive_3 := fun _ => Unit)
    (fun _ => none) (fun _ _ => none) (fun _ _ => none) (fun _ _ _ => none) (fun _ => none) (fun _ => none) (fun _ _ _ => none) (fun r => r) (fun _ => none) (fun _ _ _ _ _ => none) (none) (fun _ _ _ => none) (none) (fun _ _ => none) (fun _ _ => none)
    (fun _ _ => ()) () (fun _ _ _ _ => ()) v
noncomputable def asSlice (v : Value) : Option (Option Addr × Nat × Nat) :=
  Value.rec (motive_1 := fun _ => Option (Option Addr × Nat × Nat)) (motive_2 := fun _ => Unit) (motive_3 := fun _ => Unit)
    (fun _ => none) (fun _ _ => none) (fun _ _ => none) (fun _ _ _ => none) (fun _ => none) (fun _ => none) (fun a n c => some (a, n, c)) (fun _ => none) (fun _ => none) (fun _ _ _ _ _ => none) (none) (fun _ _ _ => none) (none) (fun _ _ => none) (fun _ _ => none)
    (fun _ _ => ()) () (fun _ _ _ _ => ()) v
noncomputable def asFunc (v : Value) : Option (Nat × List Value × List Value) :=
  Value.rec (motive_1 := fun _ => Option (Nat × List Value × List Value)) (motive_2 := fun _ => Unit) (motive_3 := fun _ => Unit)
    (fun _ => none) (fun _ _ => none) (fun _ _ => none) (fun _ _ _ => none) (fun _ => none) (fun _ => none) (fun _ _ _ => none) (fun _ => none) (fun _ => none) (fun fn a b _ _ => funcOf fn a.toList b.toList) (none) (fun _ _ _ => none) (none) (fun _ _ => none) (fun _ _ => none)
    (fun _ _ => ()) () (fun _ _ _ _ => ()) v
noncomputable def one (v : Value) : Bool :=
  Value.rec (motive_1 := fun _ => Bool) (motive_2 := fun _ => Unit) (motive_3 := fun _ => Unit)
    (fun _ => true) (fun _ _ => true) (fun _ _ => true) (fun _ _ _ => true) (fun _ => true) (fun _ => true) (fun _ _ _ => true) (fun _ => true) (fun _ => true) (fun _ _ _ _ _ => true) (true) (fun _ _ _ => true) (true) (fun _ _ => false) (fun _ _ => false)
    (fun _ _ => ()) () (fun _ _ _ _ => ()) v

/-! ### Operations with all that is known of types at hand. -/
inductive AOp
  | move (x : Operand)
  | pick (c a b : Operand)
  | alloc (e : TypeId) (zero : List Value)
  | box (e : TypeId) (x : Operand)
  | build (zero : List Value) (parts : List (Nat × Nat × Operand))
  | buildSlice (e : TypeId) (len : Nat) (zero : List Value) (parts : List (Nat × Nat × Operand))
  | load (agg : Bool) (n : Nat) (a : Operand)
  | store (n : Nat) (a x : Operand)
  | nilCheck (x : Operand)
  | bin (op : BinOp) (d : Nat) (x y : Operand)
  | un (op : UnOp) (x : Operand)
  | toInt (k : IntKind) (x : Operand)
  | toFloat (k : FloatKind) (x : Operand)
  | same (x : Operand)
  | bytesOf (e : TypeId) (x : Operand)
  | textOf (x : Operand)
  | makeFunc (fn : Fn) (first captured : List Operand)
  | makeMap
  | makeSlice (e : TypeId) (bytes : Nat) (zero : List Value) (l c : Operand)
  | sliceText (x : Operand) (lo hi : Option Operand)
  | slice (size : Nat) (x : Operand) (lo hi mx : Option Operand)
  | sliceArr (len size : Nat) (x : Operand) (lo hi mx : Option Operand)
  | fieldAddr (off : Nat) (x : Operand)
  | field (off : Nat) (agg : Bool) (n : Nat) (x : Operand)
  | indexArr (len size : Nat) (x i : Operand)
  | indexSlice (size : Nat) (x i : Operand)
  | indexAgg (len size : Nat) (agg : Bool) (x i : Operand)
  | indexText (x i : Operand)
  | lookup (kk : Nat) (zero : Value) (x i : Operand) (ok : Bool)
  | mapUpdate (kk : Nat) (m k x : Operand)
  | mapEntry (kk : Nat) (zero : Value) (m k : Operand)
  | entryStore (m s x : Operand)
  | delete (kk : Nat) (m k : Operand)
  | rangeText (x : Operand)
  | nextText (x : Operand)
  | extract (x : Operand) (i : Nat)
  | lenText (x : Operand)
  | lenSlice (x : Operand)
  | lenMap (x : Operand)
  | lenConst (n : Nat)
  | capOf (x : Operand)
  | append (e : TypeId) (size bytes : Nat) (s x : Operand)
  | appendZeros (e : TypeId) (size bytes : Nat) (zero : List Value) (s x : Operand)
  | copy (size : Nat) (d s : Operand)
  | clear (zero : List Value) (x : Operand)
  | minMax (isMax : Bool) (x y : Operand)
  | call (f : Operand) (args : List Operand)

structure AOper where
  dst : Option Nat
  guard : Option (Nat × Bool)
  op : AOp
  isCall : Bool
  /-- (a drawn region) 0: touches no heap; 1: reads; 2: an effect; 3: makes a block -/
  kind : Nat
  /-- how many effects must be ahead of it -/
  lo : Nat

inductive ACode
  | skip
  | ops (l : List AOper)
  | drawn (l : List AOper)
  | seq (a b : ACode)
  | cond (c : Operand) (a b : ACode)
  | block (id : Nat) (a : ACode)
  | loop (a : ACode)
  | exit (id : Nat)
  | ret
  | range (n : Nat) (g : Operand) (ps : List Nat) (ca cb : Code) (a b : ACode)

/-- How code is left. -/
inductive AExit
  | normal
  | exit (id : Nat)
  | ret

inductive ARes
  | tmp (t : Nat)
  | cell (a : Nat) (agg : Bool) (n : Nat)

structure AFun where
  body : ACode
  res : List ARes

/-! ### The abstract heap. -/
/-- A loop over a function: the slots where it began; its parameters; its code; 0: it waits for a round, 1: it is in one, 2: a round has left it, 3: it is over; how it was left. -/
structure ALoop where
  t : T Value
  n : Nat
  ps : List Nat
  ca : Code
  cb : Code
  a : ACode
  b : ACode
  st : Nat
  pend : Option AExit

/-- A block: cells (z: not 0: it may be longer in truth, its elements have z cells; clean: no mark of a string's bytes), a map, or a text that is gone through. -/
inductive AObj
  | cells (c : T Value) (elem : TypeId) (z : Nat) (clean : Bool)
  | map (es : List MapEntry) (clock : Nat)
  | text (s : ByteArray) (pos : Nat)
  | loop (r : ALoop)

structure Heap where
  next : Nat
  objs : T AObj

abbrev TM := T Value

noncomputable def Heap.empty : Heap := ⟨0, .nil⟩
noncomputable def Heap.new (h : Heap) (o : AObj) : Heap := ⟨h.next + 1, h.objs.set h.next o⟩
noncomputable def Heap.upd (h : Heap) (b : Nat) (o : AObj) : Heap := ⟨h.next, h.objs.set b o⟩
noncomputable def Heap.kill (h : Heap) (b : Nat) : Heap := ⟨h.next, h.objs.put b none⟩

noncomputable def fillFrom (c : T Value) (i : Nat) (vs : List Value) : T Value :=
  List.rec (motive := fun _ => T Value → Nat → T Value) (fun c _ => c) (fun v _ ih c i => ih (c.set i v) (Nat.succ i)) vs c i
noncomputable def readFrom (c : T Value) (i n : Nat) : Option (List Value) :=
  Nat.rec (motive := fun _ => Nat → Option (List Value)) (fun _ => some []) (fun _ ih i => ob (c.get i) fun v => ob (ih (Nat.succ i)) fun vs => some (v :: vs)) n i
/-- Cells that are there are written; none that is not there is made. -/
noncomputable def writeFrom (c : T Value) (i : Nat) (vs : List Value) : Option (T Value) :=
  List.rec (motive := fun _ => T Value → Nat → Option (T Value)) (fun c _ => some c) (fun v _ ih c i => ob (c.get i) fun _ => og (one v) (ih (c.set i v) (Nat.succ i))) vs c i

noncomputable def onCells {β : Type} (o : AObj) (k : T Value → TypeId → Nat → Bool → Option β) : Option β :=
  AObj.rec (motive := fun _ => Option β) k (fun _ _ => none) (fun _ _ => none) (fun _ => none) o
noncomputable def onCellsR (o : AObj) (k : T Value → TypeId → Nat → Bool → Option (Value × Heap)) : Option (Value × Heap) := onCells o k
noncomputable def Heap.read (h : Heap) (b off n : Nat) : Option (List Value) := ob (h.objs.get b) fun o => onCells o fun c _ _ _ => readFrom c off n
noncomputable def Heap.write (h : Heap) (b off : Nat) (vs : List Value) : Option Heap :=
  ob (h.objs.get b) fun o => onCells o fun c e z cl => ob (writeFrom c off vs) fun c' => some (h.upd b (.cells c' e z cl))
noncomputable def allOne (vs : List Value) : Bool := List.rec (motive := fun _ => Bool) true (fun v _ ih => oi (one v) ih false) vs
noncomputable def Heap.alloc (h : Heap) (vs : List Value) (e : TypeId) (z : Nat) (clean : Bool) : Heap := h.new (.cells (fillFrom .nil 0 vs) e z clean)

/-! ### Values. -/
/-- A value without addresses. -/
noncomputable def isNoneA (a : Option Addr) : Bool := Option.rec (motive := fun _ => Bool) true (fun _ => false) a
noncomputable def isNoneN (a : Option Nat) : Bool := Option.rec (motive := fun _ => Bool) true (fun _ => false) a
noncomputable def plain (v : Value) : Bool :=
  Value.rec (motive_1 := fun _ => Bool) (motive_2 := fun _ => Unit) (motive_3 := fun _ => Unit)
    (fun _ => true) (fun _ _ => true) (fun _ _ => true) (fun _ _ _ => false) (fun _ => true) (fun a => isNoneA a) (fun a n c => oi (isNoneA a) (oi (Nat.beq n (nat_lit 0)) (Nat.beq c (nat_lit 0)) false) false) (fun r => isNoneN r) (fun _ => false) (fun _ _ _ _ _ => false) (true) (fun _ _ _ => false) (true) (fun _ _ => false) (fun _ _ => false)
    (fun _ _ => ()) () (fun _ _ _ _ => ()) v
noncomputable def plains (vs : List Value) : Bool := List.rec (motive := fun _ => Bool) true (fun v _ ih => oi (plain v) ih false) vs
noncomputable def constOk (v : Value) : Bool := oi (plain v) true (Option.rec (motive := fun _ => Bool) false plains (asAgg v))

noncomputable def undefV : Value := .tuple #[]
noncomputable def opTmp (i : Nat) (t : TM) : Option Value := t.get i
noncomputable def opConst (v : Value) (_ : TM) : Option Value := og (constOk v) (some v)
noncomputable def opGlobal (_ : Nat) (_ : TM) : Option Value := none
noncomputable def opFunc (f : Nat) (_ : TM) : Option Value := some (.func (.func f) ⟨[]⟩ ⟨[]⟩)
noncomputable def opd (t : TM) (x : Operand) : Option Value := (Operand.rec (motive := fun _ => TM → Option Value) opTmp opConst opGlobal opFunc x) t
noncomputable def opds (t : TM) (xs : List Operand) : Option (List Value) :=
  List.rec (motive := fun _ => Option (List Value)) (some []) (fun x _ ih => ob (opd t x) fun v => ob ih fun vs => some (v :: vs)) xs

noncomputable def cellsL (v : Value) : List Value := Option.rec (motive := fun _ => List Value) [v] (fun l => l) (asAgg v)

/-- A part of a row, one value of so many cells. -/
noncomputable def lenL {α : Type} (l : List α) : Nat := List.rec (motive := fun _ => Nat) (nat_lit 0) (fun _ _ ih => Nat.succ ih) l
noncomputable def appL (l m : List Value) : List Value := List.rec (motive := fun _ => List Value) m (fun v _ ih => v :: ih) l
noncomputable def isNil (l : List Value) : Bool := List.rec (motive := fun _ => Bool) true (fun _ _ _ => false) l
noncomputable def only (l : List Value) : Option Value := List.rec (motive := fun _ => Option Value) none (fun v r _ => og (isNil r) (some v)) l
noncomputable def partL (agg : Bool) (_ : Nat) (vs : List Value) : Option Value := oi agg (some (.agg ⟨vs⟩)) (only vs)
noncomputable def takeN (n : Nat) (l : List Value) : Option (List Value) :=
  (Nat.rec (motive := fun _ => List Value → Option (List Value)) (fun _ => some []) (fun _ ih l => List.rec (motive := fun _ => Option (List Value)) none (fun v r _ => ob (ih r) fun x => some (v :: x)) l) n) l
noncomputable def dropN (n : Nat) (l : List Value) : List Value :=
  (Nat.rec (motive := fun _ => List Value → List Value) (fun l => l) (fun _ ih l => List.rec (motive := fun _ => List Value) [] (fun _ r _ => ih r) l) n) l
noncomputable def overlay (l vs : List Value) : Option (List Value) :=
  (List.rec (motive := fun _ => List Value → Option (List Value)) (fun l => some l) (fun v _ ih l => List.rec (motive := fun _ => Option (List Value)) none (fun _ r _ => ob (ih r) fun x => some (v :: x)) l) vs) l
noncomputable def overlayAt (n : Nat) (l vs : List Value) : Option (List Value) :=
  (Nat.rec (motive := fun _ => List Value → Option (List Value)) (fun l => overlay l vs) (fun _ ih l => List.rec (motive := fun _ => Option (List Value)) none (fun x r _ => ob (ih r) fun y => some (x :: y)) l) n) l
noncomputable def fill1 (t : TM) (cells : List Value) (p : Nat × Nat × Operand) : Option (List Value) :=
  ob (opd t p.2.2) fun v => og (Nat.beq (lenL (cellsL v)) p.2.1) (overlayAt p.1 cells (cellsL v))
noncomputable def fills (t : TM) (cells : List Value) (parts : List (Nat × Nat × Operand)) : Option (List Value) :=
  (List.rec (motive := fun _ => List Value → Option (List Value)) (fun cells => some cells) (fun p _ ih cells => ob (fill1 t cells p) ih) parts) cells
noncomputable def repeatL (zero : List Value) (n : Nat) : List Value := Nat.rec (motive := fun _ => List Value) [] (fun _ ih => appL zero ih) n

noncomputable def bytesEq (a b : List UInt8) : Bool :=
  (List.rec (motive := fun _ => List UInt8 → Bool) (fun b => List.rec (motive := fun _ => Bool) true (fun _ _ _ => false) b)
    (fun x _ ih b => List.rec (motive := fun _ => Bool) false (fun y r _ => oi (Nat.beq x.toNat y.toNat) (ih r) false) b) a) b
noncomputable def textEq (a b : ByteArray) : Bool := bytesEq a.data.toList b.data.toList

noncomputable def kindNo (k : IntKind) : Nat := IntKind.rec (motive := fun _ => Nat) (nat_lit 0) (nat_lit 1) (nat_lit 2) (nat_lit 3) (nat_lit 4) (nat_lit 5) (nat_lit 6) (nat_lit 7) k
noncomputable def kindEq (j k : IntKind) : Bool := Nat.beq (kindNo j) (kindNo k)
noncomputable def fkindNo (k : FloatKind) : Nat := FloatKind.rec (motive := fun _ => Nat) (nat_lit 0) (nat_lit 1) k
noncomputable def fkindEq (j k : FloatKind) : Bool := Nat.beq (fkindNo j) (fkindNo k)
noncomputable def intEqN (a : Nat) (b : Int) : Bool := (Int.rec (motive := fun _ => Nat → Bool) (fun b a => Nat.beq a b) (fun _ _ => false) b) a
noncomputable def intEqM (a : Nat) (b : Int) : Bool := (Int.rec (motive := fun _ => Nat → Bool) (fun _ _ => false) (fun b a => Nat.beq a b) b) a
noncomputable def intEq (a b : Int) : Bool := (Int.rec (motive := fun _ => Int → Bool) intEqN intEqM a) b
noncomputable def intLtN (a : Nat) (b : Int) : Bool := (Int.rec (motive := fun _ => Nat → Bool) (fun b a => Nat.ble (Nat.succ a) b) (fun _ _ => false) b) a
noncomputable def intLtM (a : Nat) (b : Int) : Bool := (Int.rec (motive := fun _ => Nat → Bool) (fun _ _ => true) (fun b a => Nat.ble (Nat.succ b) a) b) a
noncomputable def intLt (a b : Int) : Bool := (Int.rec (motive := fun _ => Int → Bool) intLtN intLtM a) b
noncomputable def natOf (n : Int) : Option Nat := Int.rec (motive := fun _ => Option Nat) (fun m => some m) (fun _ => none) n

/-- Two values of which no part is an address within: one and the same? (false says nothing) -/
noncomputable def veq1 : Value → Value → Bool
  | .bool a, .bool b => bif a then b else !b
  | .int j a, .int k b => bif kindEq j k then intEq a b else false
  | .float j a, .float k b => bif fkindEq j k then Nat.beq a b else false
  | .string a, .string b => textEq a b
  | .pointer none, .pointer none => true
  | .pointer (some ⟨b, o, none⟩), .pointer (some ⟨c, p, none⟩) => bif Nat.beq b c then Nat.beq o p else false
  | .slice none n c, .slice none m d => bif Nat.beq n m then Nat.beq c d else false
  | .slice (some ⟨b, o, none⟩) n c, .slice (some ⟨b', o', none⟩) n' c' => bif Nat.beq b b' then bif Nat.beq o o' then bif Nat.beq n n' then Nat.beq c c' else false else false else false
  | .map none, .map none => true
  | .map (some r), .map (some s) => Nat.beq r s
  | .nilFunc, .nilFunc => true
  | .nilIface, .nilIface => true
  | .func (.func f) ⟨[]⟩ ⟨[]⟩, .func (.func g) ⟨[]⟩ ⟨[]⟩ => Nat.beq f g
  | _, _ => false
noncomputable def veqs : List Value → List Value → Bool
  | [], [] => true
  | a :: x, b :: y => bif veq1 a b then veqs x y else false
  | _, _ => false
noncomputable def veq : Value → Value → Bool
  | .agg a, .agg b => veqs a.toList b.toList
  | a, b => veq1 a b

/-! ### Operations on values. -/
noncomputable def notB (b : Bool) : Bool := oi b false true
noncomputable def orB (a b : Bool) : Bool := oi a true b
abbrev CI := Int → Int → Option Bool
noncomputable def cmpInt (op : BinOp) : CI :=
  BinOp.rec (motive := fun _ => CI) (fun _ _ => none) (fun _ _ => none) (fun _ _ => none) (fun _ _ => none) (fun _ _ => none) (fun _ _ => none) (fun _ _ => none) (fun _ _ => none) (fun _ _ => none) (fun _ _ => none) (fun _ _ => none)
    (fun a b => some (intEq a b)) (fun a b => some (notB (intEq a b))) (fun a b => some (intLt a b)) (fun a b => some (notB (intLt b a))) (fun a b => some (intLt b a)) (fun a b => some (notB (intLt a b))) op
/-- Most numbers are small. -/
noncomputable def wrapSmall (k : IntKind) (m : Nat) : Int := k.wrap (.ofNat m)
noncomputable def wrapNat (k : IntKind) (m : Nat) : Int :=
  oi (Nat.ble m (nat_lit 127)) (.ofNat m) ((IntKind.rec (motive := fun _ => Nat → Int) (wrapSmall .i8) (wrapSmall .i16) (wrapSmall .i32)
    (fun m => oi (Nat.ble m (nat_lit 9223372036854775807)) (.ofNat m) (wrapSmall .i64 m)) (wrapSmall .u8) (wrapSmall .u16) (wrapSmall .u32)
    (fun m => oi (Nat.ble m (nat_lit 18446744073709551615)) (.ofNat m) (wrapSmall .u64 m)) k) m)
noncomputable def wrapM (k : IntKind) (m : Nat) : Int := k.wrap (.negSucc m)
noncomputable def wrapI (k : IntKind) (n : Int) : Int := (Int.rec (motive := fun _ => IntKind → Int) (fun m k => wrapNat k m) (fun m k => wrapM k m) n) k
noncomputable def addI (a b : Int) : Int :=
  (Int.rec (motive := fun _ => Int → Int) (fun m b => (Int.rec (motive := fun _ => Nat → Int) (fun n m => .ofNat (Nat.add m n)) (fun n m => Int.add (.ofNat m) (.negSucc n)) b) m) (fun m b => Int.add (.negSucc m) b) a) b
noncomputable def subNN (n m : Nat) : Int := oi (Nat.ble n m) (.ofNat (Nat.sub m n)) (.negSucc (Nat.pred (Nat.sub n m)))
noncomputable def subI (a b : Int) : Int :=
  (Int.rec (motive := fun _ => Int → Int) (fun m b => (Int.rec (motive := fun _ => Nat → Int) subNN (fun n m => Int.sub (.ofNat m) (.negSucc n)) b) m) (fun m b => Int.sub (.negSucc m) b) a) b
abbrev AI := IntKind → Int → Int → Option Int
noncomputable def aAnd : AI := fun k a b => some (k.wrap ((BitVec.ofInt k.bits a &&& BitVec.ofInt k.bits b).toNat : Nat))
noncomputable def aOr : AI := fun k a b => some (k.wrap ((BitVec.ofInt k.bits a ||| BitVec.ofInt k.bits b).toNat : Nat))
noncomputable def aXor : AI := fun k a b => some (k.wrap ((BitVec.ofInt k.bits a ^^^ BitVec.ofInt k.bits b).toNat : Nat))
noncomputable def aAndNot : AI := fun k a b => some (k.wrap ((BitVec.ofInt k.bits a &&& ~~~ BitVec.ofInt k.bits b).toNat : Nat))
noncomputable def aQuo : AI := fun k a b => oi (intEq b 0) none (some (wrapI k (a.tdiv b)))
noncomputable def aRem : AI := fun _ a b => oi (intEq b 0) none (some (a.tmod b))
noncomputable def arithInt (op : BinOp) : AI :=
  BinOp.rec (motive := fun _ => AI) (fun k a b => some (wrapI k (addI a b))) (fun k a b => some (wrapI k (subI a b))) (fun k a b => some (wrapI k (Int.mul a b))) aQuo aRem aAnd aOr aXor
    (fun _ _ _ => none) (fun _ _ _ => none) aAndNot (fun _ _ _ => none) (fun _ _ _ => none) (fun _ _ _ => none) (fun _ _ _ => none) (fun _ _ _ => none) (fun _ _ _ => none) op
noncomputable def aShl (k : IntKind) (a b : Int) : Option Int := some (k.wrap (a * 2 ^ (min b.toNat k.bits)))
noncomputable def aShr (k : IntKind) (a b : Int) : Option Int := some (a.fdiv (2 ^ (min b.toNat k.bits)))
noncomputable def shiftOp (op : BinOp) : AI :=
  BinOp.rec (motive := fun _ => AI) (fun _ _ _ => none) (fun _ _ _ => none) (fun _ _ _ => none) (fun _ _ _ => none) (fun _ _ _ => none) (fun _ _ _ => none) (fun _ _ _ => none) (fun _ _ _ => none)
    aShl aShr (fun _ _ _ => none) (fun _ _ _ => none) (fun _ _ _ => none) (fun _ _ _ => none) (fun _ _ _ => none) (fun _ _ _ => none) (fun _ _ _ => none) op
noncomputable def shiftInt (op : BinOp) (k : IntKind) (a b : Int) : Option Int := oi (intLt b 0) none (shiftOp op k a b)
noncomputable def ordEq : Option Ordering → Option Ordering → Bool
  | none, none => true
  | some .lt, some .lt => true
  | some .eq, some .eq => true
  | some .gt, some .gt => true
  | _, _ => false
noncomputable def cmpFloat (op : BinOp) (c : Option Ordering) : Option Bool :=
  match op with
  | .eql => some (ordEq c (some .eq))
  | .neq => some (!ordEq c (some .eq))
  | .lss => some (ordEq c (some .lt))
  | .leq => some (ordEq c (some .lt) || ordEq c (some .eq))
  | .gtr => some (ordEq c (some .gt))
  | .geq => some (ordEq c (some .gt) || ordEq c (some .eq))
  | _ => none
noncomputable def arithFloat (op : BinOp) (k : FloatKind) (a b : Nat) : Option Nat :=
  match op with
  | .add => k.format.add a b
  | .sub => k.format.sub a b
  | .mul => k.format.mul a b
  | .quo => k.format.div a b
  | _ => none
noncomputable def isCmp (op : BinOp) : Bool := BinOp.rec (motive := fun _ => Bool) false false false false false false false false false false false true true true true true true op
noncomputable def isShift (op : BinOp) : Bool := BinOp.rec (motive := fun _ => Bool) false false false false false false false false true true false false false false false false false op
noncomputable def bytesLt : List UInt8 → List UInt8 → Bool
  | _, [] => false
  | [], _ :: _ => true
  | a :: x, b :: y => bif Nat.ble (a.toNat + 1) b.toNat then true else bif Nat.beq a.toNat b.toNat then bytesLt x y else false
noncomputable def binText (op : BinOp) (a b : ByteArray) : Option Value :=
  match op with
  | .add => bif Nat.ble (a.size + b.size) 1099511627776 then some (.string ⟨⟨a.data.toList ++ b.data.toList⟩⟩) else none
  | .eql => some (.bool (textEq a b))
  | .neq => some (.bool (!textEq a b))
  | .lss => some (.bool (bytesLt a.data.toList b.data.toList))
  | .leq => some (.bool (bytesLt a.data.toList b.data.toList || textEq a b))
  | .gtr => some (.bool (!(bytesLt a.data.toList b.data.toList || textEq a b)))
  | .geq => some (.bool (!bytesLt a.data.toList b.data.toList))
  | _ => none
noncomputable def isEql (op : BinOp) : Option Bool := BinOp.rec (motive := fun _ => Option Bool) none none none none none none none none none none none (some true) (some false) none none none none op
noncomputable def eqBool (e r : Bool) : Value := .bool (oi e r (notB r))

/-- An address's block holds clean cells. -/
noncomputable def Heap.isClean (h : Heap) (b : Nat) : Bool := Option.rec (motive := fun _ => Bool) false (fun o => AObj.rec (motive := fun _ => Bool) (fun _ _ _ cl => cl) (fun _ _ => false) (fun _ _ => false) (fun _ => false) o) (h.objs.get b)

noncomputable def binInt (op : BinOp) (j : IntKind) (a : Int) (y : Value) : Option Value :=
  ob (asInt y) fun q => oi (isShift op) (ob (shiftInt op j a q.2) fun n => some (.int j n)) (og (kindEq j q.1) (oi (isCmp op) (ob (cmpInt op a q.2) fun r => some (.bool r)) (ob (arithInt op j a q.2) fun n => some (.int j n))))
noncomputable def binFloat (op : BinOp) (j : FloatKind) (a : Nat) (y : Value) : Option Value :=
  ob (asFloat y) fun q => og (fkindEq j q.1) (oi (isCmp op) (ob (cmpFloat op (j.format.order a q.2)) fun r => some (.bool r)) (ob (arithFloat op j a q.2) fun n => some (.float j n)))
noncomputable def binTextV (op : BinOp) (a : ByteArray) (y : Value) : Option Value := ob (asText y) (binText op a)
/-- Equal, not equal: pointers (2 with nothing), slices and maps against nil, truths. -/
noncomputable def eqPtr2 (h : Heap) (p q : Nat × Nat) : Option Bool :=
  og (h.isClean p.1) (og (h.isClean q.1) (some (oi (Nat.beq p.1 q.1) (Nat.beq p.2 q.2) false)))
noncomputable def eqPtr (h : Heap) (a b : Option Addr) : Option Bool :=
  oi (isNoneA a) (some (isNoneA b)) (oi (isNoneA b) (some false) (ob (ptrAt a) fun p => ob (ptrAt b) fun q => eqPtr2 h p q))
noncomputable def eqNil (a b : Bool) : Option Bool := oi a (some b) (oi b (some a) none)
noncomputable def asPtrO (v : Value) : Option (Option Addr) :=
  Value.rec (motive_1 := fun _ => Option (Option Addr)) (motive_2 := fun _ => Unit) (motive_3 := fun _ => Unit)
    (fun _ => none) (fun _ _ => none) (fun _ _ => none) (fun _ _ _ => none) (fun _ => none) (fun a => some a) (fun _ _ _ => none) (fun _ => none) (fun _ => none) (fun _ _ _ _ _ => none) (none) (fun _ _ _ => none) (none) (fun _ _ => none) (fun _ _ => none)
    (fun _ _ => ()) () (fun _ _ _ _ => ()) v
noncomputable def asMapO (v : Value) : Option (Option Nat) :=
  Value.rec (motive_1 := fun _ => Option (Option Nat)) (motive_2 := fun _ => Unit) (motive_3 := fun _ => Unit)
    (fun _ => none) (fun _ _ => none) (fun _ _ => none) (fun _ _ _ => none) (fun _ => none) (fun _ => none) (fun _ _ _ => none) (fun r => some r) (fun _ => none) (fun _ _ _ _ _ => none) (none) (fun _ _ _ => none) (none) (fun _ _ => none) (fun _ _ => none)
    (fun _ _ => ()) () (fun _ _ _ _ => ()) v
abbrev EQ := Heap → Value → Value → Option Bool
noncomputable def eqB : EQ := fun _ x y => ob (asBool x) fun a => ob (asBool y) fun b => some (oi a b (notB b))
noncomputable def eqP : EQ := fun h x y => ob (asPtrO x) fun a => ob (asPtrO y) fun b => eqPtr h a b
noncomputable def eqS : EQ := fun _ x y => ob (asSlice x) fun a => ob (asSlice y) fun b => eqNil (isNoneA a.1) (isNoneA b.1)
noncomputable def eqM : EQ := fun _ x y => ob (asMapO x) fun a => ob (asMapO y) fun b => eqNil (isNoneN a) (isNoneN b)
/-- By the type's kind. -/
noncomputable def eqNo : Nat → EQ := fun n h x y =>
  oi (Nat.beq n (nat_lit 1)) (eqB h x y) (oi (Nat.beq n (nat_lit 2)) (eqP h x y) (oi (Nat.beq n (nat_lit 3)) (eqS h x y) (oi (Nat.beq n (nat_lit 4)) (eqM h x y) none)))
noncomputable def binEql (h : Heap) (d : Nat) (x y : Value) (e : Bool) : Option Value := ob (eqNo d h x y) fun r => some (eqBool e r)
abbrev BV := BinOp → Nat → Heap → Value → Option Value
noncomputable def binBy (v : Value) : Value → BV :=
  Value.rec (motive_1 := fun _ => Value → BV) (motive_2 := fun _ => Unit) (motive_3 := fun _ => Unit)
    (fun _ => fun x op d h y => ob (isEql op) (binEql h d x y)) (fun j a => fun _ op _ _ y => binInt op j a y) (fun j a => fun _ op _ _ y => binFloat op j a y) (fun _ _ _ => fun x op d h y => ob (isEql op) (binEql h d x y)) (fun a => fun _ op _ _ y => binTextV op a y) (fun _ => fun x op d h y => ob (isEql op) (binEql h d x y)) (fun _ _ _ => fun x op d h y => ob (isEql op) (binEql h d x y)) (fun _ => fun x op d h y => ob (isEql op) (binEql h d x y)) (fun _ => fun x op d h y => ob (isEql op) (binEql h d x y)) (fun _ _ _ _ _ => fun x op d h y => ob (isEql op) (binEql h d x y)) (fun x op d h y => ob (isEql op) (binEql h d x y)) (fun _ _ _ => fun x op d h y => ob (isEql op) (binEql h d x y)) (fun x op d h y => ob (isEql op) (binEql h d x y)) (fun _ _ => fun x op d h y => ob (isEql op) (binEql h d x y)) (fun _ _ => fun x op d h y => ob (isEql op) (binEql h d x y))
    (fun _ _ => ()) () (fun _ _ _ _ => ()) v
noncomputable def bin (h : Heap) (op : BinOp) (d : Nat) (x y : Value) : Option Value := binBy x x op d h y
noncomputable def descNo (d : TypeDesc) : Nat :=
  match d with
  | .bool => 1
  | .pointer _ => 2
  | .slice _ => 3
  | .map _ _ => 4
  | _ => 0

noncomputable def un (op : UnOp) (x : Value) : Option Value :=
  match op, x with
  | .neg, .int k n => some (.int k (k.wrap (0 - n)))
  | .xor, .int k n => match arithInt .xor k (if k.signed then -1 else k.max) n with | none => none | some r => some (.int k r)
  | .neg, .float k b => some (.float k (Op.negFloat k b))
  | .not, .bool b => some (.bool (!b))
  | _, _ => none

noncomputable def toFloat (k : FloatKind) : Value → Option Value
  | .int _ n => some (.float k (k.nearest n))
  | .float j b => bif fkindEq j k then some (.float k b) else none
  | _ => none
noncomputable def toInt (k : IntKind) : Value → Option Value
  | .int _ n => some (.int k (k.wrap n))
  | .float j b => match (j.decode b).toInt .zero with
    | some n => bif intLt n k.min then none else bif intLt k.max n then none else some (.int k n)
    | none => none
  | _ => none

noncomputable def idx (i : Value) : Option Nat := ob (asInt i) fun p => natOf p.2

noncomputable def bytesVals : List UInt8 → List Value
  | [] => []
  | b :: bs => .int .u8 b.toNat :: bytesVals bs
noncomputable def valsBytes : List Value → Option (List UInt8)
  | [] => some []
  | .int .u8 n :: vs => match valsBytes vs with
    | none => none
    | some bs => some (UInt8.ofNat n.toNat :: bs)
  | _ :: _ => none

/-! ### Maps: keys that are numbers, texts, truths. -/
noncomputable def keyKind (v : Value) : Nat :=
  Value.rec (motive_1 := fun _ => Nat) (motive_2 := fun _ => Unit) (motive_3 := fun _ => Unit)
    (fun _ => (nat_lit 0)) (fun _ _ => (nat_lit 1)) (fun _ _ => (nat_lit 0)) (fun _ _ _ => (nat_lit 0)) (fun _ => (nat_lit 2)) (fun _ => (nat_lit 0)) (fun _ _ _ => (nat_lit 0)) (fun _ => (nat_lit 0)) (fun _ => (nat_lit 0)) (fun _ _ _ _ _ => (nat_lit 0)) ((nat_lit 0)) (fun _ _ _ => (nat_lit 0)) ((nat_lit 0)) (fun _ _ => (nat_lit 0)) (fun _ _ => (nat_lit 0))
    (fun _ _ => ()) () (fun _ _ _ _ => ()) v
noncomputable def keyEqI (j : IntKind) (a : Int) (y : Value) : Option Bool := ob (asInt y) fun q => og (kindEq j q.1) (some (intEq a q.2))
noncomputable def keyEq (v : Value) : Value → Option Bool :=
  Value.rec (motive_1 := fun _ => Value → Option Bool) (motive_2 := fun _ => Unit) (motive_3 := fun _ => Unit)
    (fun a => fun y => ob (asBool y) fun b => some (oi a b (notB b))) (fun j a => keyEqI j a) (fun _ _ => fun _ => none) (fun _ _ _ => fun _ => none) (fun a => fun y => ob (asText y) fun b => some (textEq a b)) (fun _ => fun _ => none) (fun _ _ _ => fun _ => none) (fun _ => fun _ => none) (fun _ => fun _ => none) (fun _ _ _ _ _ => fun _ => none) (fun _ => none) (fun _ _ _ => fun _ => none) (fun _ => none) (fun _ _ => fun _ => none) (fun _ _ => fun _ => none)
    (fun _ _ => ()) () (fun _ _ _ _ => ()) v
noncomputable def findKey (k : Value) (es : List MapEntry) : Nat → Option (Option (Nat × MapEntry)) :=
  List.rec (motive := fun _ => Nat → Option (Option (Nat × MapEntry))) (fun _ => some none) (fun e _ ih i => ob (keyEq k e.key) fun r => oi r (some (some (i, e))) (ih (Nat.succ i))) es
noncomputable def setEntry (k v : Value) : List MapEntry → Nat → List MapEntry
  | [], _ => []
  | e :: es, 0 => ⟨k, v, e.born⟩ :: es
  | e :: es, n + 1 => e :: setEntry k v es n
noncomputable def dropEntry : List MapEntry → Nat → List MapEntry
  | [], _ => []
  | _ :: es, 0 => es
  | e :: es, n + 1 => e :: dropEntry es n
noncomputable def findBorn (n : Int) : List MapEntry → Nat → Option (Nat × MapEntry)
  | [], _ => none
  | e :: es, i => bif intEq (.ofNat e.born) n then some (i, e) else findBorn n es (i + 1)

noncomputable def Heap.getMap (h : Heap) (r : Nat) : Option (List MapEntry × Nat) :=
  ob (h.objs.get r) fun o => AObj.rec (motive := fun _ => Option (List MapEntry × Nat)) (fun _ _ _ _ => none) (fun es c => some (es, c)) (fun _ _ => none) (fun _ => none) o

/-! ### Slices. A slice's third number: three times what it can surely hold; one more: that is exact; two more: it may hold more, but is not to grow. -/
noncomputable def bound (x : Value) (top : Nat) : Option Nat := ob (idx x) fun n => og (Nat.ble n top) (some n)
noncomputable def boundOr (t : TM) (x : Option Operand) (top dflt : Nat) : Option Nat := Option.rec (motive := fun _ => Option Nat) (some dflt) (fun o => ob (opd t o) fun v => bound v top) x
noncomputable def hasSome (x : Option Operand) : Bool := Option.rec (motive := fun _ => Bool) false (fun _ => true) x
noncomputable def capMark (mx : Option Operand) (l cc : Nat) : Nat :=
  oi (hasSome mx) (nat_lit 1) (oi (Nat.beq (Nat.mod cc (nat_lit 3)) (nat_lit 1)) (nat_lit 1) (oi (Nat.beq (Nat.mod cc (nat_lit 3)) (nat_lit 0)) (oi (Nat.beq l (nat_lit 0)) (nat_lit 0) (nat_lit 2)) (nat_lit 2)))
noncomputable def capCode (mx : Option Operand) (m l cc : Nat) : Nat := Nat.add (Nat.mul (nat_lit 3) (Nat.sub m l)) (capMark mx l cc)
noncomputable def sliceAt (size : Nat) (a : Option Addr) (mx : Option Operand) (cc m hN l : Nat) : Option Value :=
  oi (isNoneA a) (og (Nat.beq m (nat_lit 0)) (some (.slice none 0 0)))
    (ob (ptrAt a) fun p => some (.slice (some ⟨p.1, Nat.add p.2 (Nat.mul l size), none⟩) (Nat.sub hN l) (capCode mx m l cc)))
noncomputable def sliceV (t : TM) (size : Nat) (x : Value) (lo hi mx : Option Operand) : Option Value :=
  ob (asSlice x) fun s => ob (boundOr t mx (Nat.div s.2.2 (nat_lit 3)) (Nat.div s.2.2 (nat_lit 3))) fun m => ob (boundOr t hi m s.2.1) fun hN => ob (boundOr t lo hN (nat_lit 0)) fun l =>
    og (Nat.ble l hN) (og (Nat.ble hN m) (sliceAt size s.1 mx s.2.2 m hN l))

noncomputable def readBase (h : Heap) (n : Nat) (a : Option Addr) : Option (List Value) :=
  oi (isNoneA a) (og (Nat.beq n (nat_lit 0)) (some [])) (ob (ptrAt a) fun p => h.read p.1 p.2 n)
noncomputable def readSlice' (v : Value) : Heap → Nat → Nat → Option (List Value) :=
  Value.rec (motive_1 := fun _ => Heap → Nat → Nat → Option (List Value)) (motive_2 := fun _ => Unit) (motive_3 := fun _ => Unit)
    (fun _ => fun _ _ _ => none) (fun _ _ => fun _ _ _ => none) (fun _ _ => fun _ _ _ => none) (fun _ _ _ => fun _ _ _ => none) (fun s => fun _ size n => og (Nat.beq size (nat_lit 1)) (takeN n (bytesVals s.data.toList))) (fun _ => fun _ _ _ => none) (fun a _ _ => fun h size n => readBase h (Nat.mul n size) a) (fun _ => fun _ _ _ => none) (fun _ => fun _ _ _ => none) (fun _ _ _ _ _ => fun _ _ _ => none) (fun _ _ _ => none) (fun _ _ _ => fun _ _ _ => none) (fun _ _ _ => none) (fun _ _ => fun _ _ _ => none) (fun _ _ => fun _ _ _ => none)
    (fun _ _ => ()) () (fun _ _ _ _ => ()) v
noncomputable def readSlice (h : Heap) (size n : Nat) (v : Value) : Option (List Value) := readSlice' v h size n
noncomputable def lenV (v : Value) : Option Nat :=
  Value.rec (motive_1 := fun _ => Option Nat) (motive_2 := fun _ => Unit) (motive_3 := fun _ => Unit)
    (fun _ => none) (fun _ _ => none) (fun _ _ => none) (fun _ _ _ => none) (fun s => some (lenL s.data.toList)) (fun _ => none) (fun _ n _ => some n) (fun _ => none) (fun _ => none) (fun _ _ _ _ _ => none) (none) (fun _ _ _ => none) (none) (fun _ _ => none) (fun _ _ => none)
    (fun _ _ => ()) () (fun _ _ _ _ => ()) v
/-- append: what is put behind is read already. -/
noncomputable def madeSlice (h : Heap) (need : Nat) : Value := .slice (some ⟨h.next, 0, none⟩) need (Nat.mul (nat_lit 3) need)
noncomputable def growKill (h : Heap) (e size need b : Nat) (cells : List Value) : Option (Value × Heap) :=
  ob (h.objs.get b) fun o => onCellsR o fun _ e' z cl => og (Nat.beq z size) (og (Nat.beq e e') (some (madeSlice h need, (h.kill b).alloc cells e size cl)))
noncomputable def growFrom (h : Heap) (e size need cc : Nat) (a : Option Addr) (cells : List Value) : Option (Value × Heap) :=
  og (Nat.beq (lenL cells) (Nat.mul need size)) (og (allOne cells)
    (oi (isNoneA a) (some (madeSlice h need, h.alloc cells e size true))
      (ob (ptrAt a) fun p => oi (Nat.beq (Nat.mod cc (nat_lit 3)) (nat_lit 1)) (some (madeSlice h need, h.alloc cells e size true)) (og (Nat.beq (Nat.mod cc (nat_lit 3)) (nat_lit 0)) (growKill h e size need p.1 cells)))))
noncomputable def inPlace (h : Heap) (size n len cc need : Nat) (s : Value) (a : Option Addr) (new : List Value) : Option (Value × Heap) :=
  oi (isNoneA a) (og (Nat.beq n (nat_lit 0)) (some (s, h))) (ob (ptrAt a) fun p => ob (h.write p.1 (Nat.add p.2 (Nat.mul len size)) new) fun h' => some (.slice a need cc, h'))
noncomputable def appendV (h : Heap) (e : TypeId) (size bytes : Nat) (s : Value) (n : Nat) (new : List Value) : Option (Value × Heap) :=
  ob (asSlice s) fun q => og (Nat.ble (Nat.mul (Nat.add q.2.1 n) (Nat.succ bytes)) (nat_lit 1099511627776))
    (oi (Nat.ble (Nat.add q.2.1 n) (Nat.div q.2.2 (nat_lit 3))) (inPlace h size n q.2.1 q.2.2 (Nat.add q.2.1 n) s q.1 new)
      (ob (readSlice h size q.2.1 s) fun old => growFrom h e size (Nat.add q.2.1 n) q.2.2 q.1 (appL old new)))

noncomputable def nthL {α : Type} (l : List α) (i : Nat) : Option α := (List.rec (motive := fun _ => Nat → Option α) (fun _ => none) (fun v _ ih i => Nat.rec (motive := fun _ => Option α) (some v) (fun j _ => ih j) i) l) i
noncomputable def ret1 (h : Heap) (v : Value) : Option (Value × Heap) := some (v, h)

noncomputable def oMove (x : Operand) (t : TM) (h : Heap) : Option (Value × Heap) := ob (opd t x) (ret1 h)
noncomputable def oPick (c a b : Operand) (t : TM) (h : Heap) : Option (Value × Heap) :=
  ob (opd t c) fun v => ob (asBool v) fun d => oi d (oMove a t h) (oMove b t h)
noncomputable def oAlloc (e : TypeId) (zero : List Value) (_ : TM) (h : Heap) : Option (Value × Heap) :=
  og (allOne zero) (og (plains zero) (some (.pointer (some ⟨h.next, 0, none⟩), h.alloc zero e 0 true)))
noncomputable def oBox (e : TypeId) (x : Operand) (t : TM) (h : Heap) : Option (Value × Heap) :=
  ob (opd t x) fun v => og (allOne (cellsL v)) (some (.pointer (some ⟨h.next, 0, none⟩), h.alloc (cellsL v) e 0 true))
noncomputable def oBuild (zero : List Value) (parts : List (Nat × Nat × Operand)) (t : TM) (h : Heap) : Option (Value × Heap) :=
  og (plains zero) (ob (fills t zero parts) fun cs => some (.agg ⟨cs⟩, h))
noncomputable def oBuildSlice (e : TypeId) (len : Nat) (zero : List Value) (parts : List (Nat × Nat × Operand)) (t : TM) (h : Heap) : Option (Value × Heap) :=
  og (plains zero) (ob (fills t (repeatL zero len) parts) fun cs => og (allOne cs) (some (.slice (some ⟨h.next, 0, none⟩) len (Nat.succ (Nat.mul (nat_lit 3) len)), h.alloc cs e 0 true)))
noncomputable def oLoad (agg : Bool) (n : Nat) (a : Operand) (t : TM) (h : Heap) : Option (Value × Heap) :=
  ob (opd t a) fun v => ob (asPtr v) fun p => ob (h.read p.1 p.2 n) fun vs => ob (partL agg n vs) (ret1 h)
noncomputable def oStore (n : Nat) (a x : Operand) (t : TM) (h : Heap) : Option (Value × Heap) :=
  ob (opd t a) fun v => ob (asPtr v) fun p => ob (opd t x) fun u => og (Nat.beq (lenL (cellsL u)) n) (ob (h.write p.1 p.2 (cellsL u)) fun h' => some (undefV, h'))
noncomputable def nilCheckV (v : Value) : Value → Heap → Option (Value × Heap) :=
  Value.rec (motive_1 := fun _ => Value → Heap → Option (Value × Heap)) (motive_2 := fun _ => Unit) (motive_3 := fun _ => Unit)
    (fun _ => fun _ _ => none) (fun _ _ => fun _ _ => none) (fun _ _ => fun _ _ => none) (fun _ _ _ => fun _ _ => none) (fun _ => fun _ _ => none) (fun a => fun v h => oi (isNoneA a) none (some (v, h))) (fun _ _ _ => fun _ _ => none) (fun _ => fun _ _ => none) (fun _ => fun _ _ => none) (fun fn a b _ _ => fun v h => ob (funcOf fn a.toList b.toList) fun _ => some (v, h)) (fun _ _ => none) (fun _ _ _ => fun _ _ => none) (fun _ _ => none) (fun _ _ => fun _ _ => none) (fun _ _ => fun _ _ => none)
    (fun _ _ => ()) () (fun _ _ _ _ => ()) v
noncomputable def oNilCheck (x : Operand) (t : TM) (h : Heap) : Option (Value × Heap) := ob (opd t x) fun v => nilCheckV v v h
noncomputable def oBin (op : BinOp) (d : Nat) (x y : Operand) (t : TM) (h : Heap) : Option (Value × Heap) :=
  ob (opd t x) fun v => ob (opd t y) fun u => ob (bin h op d v u) (ret1 h)
noncomputable def oUn (op : UnOp) (x : Operand) (t : TM) (h : Heap) : Option (Value × Heap) := ob (opd t x) fun v => ob (un op v) (ret1 h)
noncomputable def oToInt (k : IntKind) (x : Operand) (t : TM) (h : Heap) : Option (Value × Heap) := ob (opd t x) fun v => ob (toInt k v) (ret1 h)
noncomputable def oToFloat (k : FloatKind) (x : Operand) (t : TM) (h : Heap) : Option (Value × Heap) := ob (opd t x) fun v => ob (toFloat k v) (ret1 h)
noncomputable def oSame (x : Operand) (t : TM) (h : Heap) : Option (Value × Heap) := ob (opd t x) fun v => ob (asText v) fun s => some (.string s, h)
noncomputable def oBytesOf (e : TypeId) (x : Operand) (t : TM) (h : Heap) : Option (Value × Heap) :=
  ob (opd t x) fun v => ob (asText v) fun s => some (madeSlice h (lenL (bytesVals s.data.toList)), h.alloc (bytesVals s.data.toList) e 1 false)
noncomputable def textOfV (h : Heap) (v : Value) : Option (Value × Heap) :=
  match v with
  | .slice none _ _ => some (.string ⟨⟨[]⟩⟩, h)
  | .slice (some ⟨b, o, none⟩) n _ => ob (h.read b o n) fun vs => ob (valsBytes vs) fun bs => some (.string ⟨⟨bs⟩⟩, h)
  | _ => none
noncomputable def oTextOf (x : Operand) (t : TM) (h : Heap) : Option (Value × Heap) := ob (opd t x) (textOfV h)
noncomputable def oMakeFunc (fn : Fn) (first captured : List Operand) (t : TM) (h : Heap) : Option (Value × Heap) :=
  ob (opds t first) fun a => ob (opds t captured) fun b => some (.func fn ⟨a⟩ ⟨b⟩, h)
noncomputable def oMakeMap (_ : TM) (h : Heap) : Option (Value × Heap) := some (.map (some h.next), h.new (.map [] 0))
noncomputable def oMakeSlice (e : TypeId) (bytes : Nat) (zero : List Value) (l c : Operand) (t : TM) (h : Heap) : Option (Value × Heap) :=
  og (allOne zero) (og (plains zero) (ob (opd t l) fun lv => ob (opd t c) fun cv => ob (idx lv) fun n => ob (idx cv) fun m =>
    og (Nat.ble n m) (og (Nat.ble (m * (bytes + 1)) 1099511627776) (some (.slice (some ⟨h.next, 0, none⟩) n (Nat.succ (Nat.mul (nat_lit 3) m)), h.alloc (repeatL zero m) e 0 true)))))
noncomputable def oSliceText (x : Operand) (lo hi : Option Operand) (t : TM) (h : Heap) : Option (Value × Heap) :=
  ob (opd t x) fun v => ob (asText v) fun s => ob (boundOr t hi s.data.toList.length s.data.toList.length) fun hN => ob (boundOr t lo hN 0) fun l =>
    some (.string ⟨⟨(s.data.toList.take hN).drop l⟩⟩, h)
noncomputable def oSlice (size : Nat) (x : Operand) (lo hi mx : Option Operand) (t : TM) (h : Heap) : Option (Value × Heap) :=
  ob (opd t x) fun v => ob (sliceV t size v lo hi mx) (ret1 h)
noncomputable def oSliceArr (len size : Nat) (x : Operand) (lo hi mx : Option Operand) (t : TM) (h : Heap) : Option (Value × Heap) :=
  ob (opd t x) fun v => ob (asPtr v) fun p => ob (sliceV t size (.slice (some ⟨p.1, p.2, none⟩) len (Nat.succ (Nat.mul (nat_lit 3) len))) lo hi mx) (ret1 h)
noncomputable def oFieldAddr (off : Nat) (x : Operand) (t : TM) (h : Heap) : Option (Value × Heap) :=
  ob (opd t x) fun v => ob (asPtr v) fun p => some (.pointer (some ⟨p.1, Nat.add p.2 off, none⟩), h)
noncomputable def oField (off : Nat) (agg : Bool) (n : Nat) (x : Operand) (t : TM) (h : Heap) : Option (Value × Heap) :=
  ob (opd t x) fun v => ob (asAgg v) fun cs => ob (takeN n (dropN off cs)) fun vs => ob (partL agg n vs) (ret1 h)
noncomputable def oIndexArr (len size : Nat) (x i : Operand) (t : TM) (h : Heap) : Option (Value × Heap) :=
  ob (opd t x) fun v => ob (asPtr v) fun p => ob (opd t i) fun iv => ob (idx iv) fun n => og (Nat.ble (Nat.succ n) len) (some (.pointer (some ⟨p.1, Nat.add p.2 (Nat.mul n size), none⟩), h))
noncomputable def oIndexSlice (size : Nat) (x i : Operand) (t : TM) (h : Heap) : Option (Value × Heap) :=
  ob (opd t x) fun v => ob (asSlice v) fun p => ob (ptrAt p.1) fun q => ob (opd t i) fun iv => ob (idx iv) fun n => og (Nat.ble (Nat.succ n) p.2.1) (some (.pointer (some ⟨q.1, Nat.add q.2 (Nat.mul n size), none⟩), h))
noncomputable def oIndexAgg (len size : Nat) (agg : Bool) (x i : Operand) (t : TM) (h : Heap) : Option (Value × Heap) :=
  ob (opd t x) fun v => ob (asAgg v) fun cs => ob (opd t i) fun iv => ob (idx iv) fun n => og (Nat.ble (n + 1) len)
    (ob (takeN size (dropN (n * size) cs)) fun vs => ob (partL agg size vs) (ret1 h))
noncomputable def oIndexText (x i : Operand) (t : TM) (h : Heap) : Option (Value × Heap) :=
  ob (opd t x) fun v => ob (asText v) fun s => ob (opd t i) fun iv => ob (idx iv) fun n => ob (nthL s.data.toList n) fun b => some (.int .u8 b.toNat, h)
noncomputable def found (zero : Value) (ok : Bool) (h : Heap) (r : Option (Nat × MapEntry)) : Option (Value × Heap) :=
  match r with
  | none => some (oi ok (.tuple ⟨[zero, .bool false]⟩) zero, h)
  | some (_, e) => some (oi ok (.tuple ⟨[e.val, .bool true]⟩) e.val, h)
noncomputable def lookupV (zero : Value) (ok : Bool) (h : Heap) (k v : Value) : Option (Value × Heap) :=
  match v with
  | .map none => found zero ok h none
  | .map (some r) => ob (h.getMap r) fun m => ob (findKey k m.1 0) (found zero ok h)
  | _ => none
noncomputable def oLookup (kk : Nat) (zero : Value) (x i : Operand) (ok : Bool) (t : TM) (h : Heap) : Option (Value × Heap) :=
  og (constOk zero) (ob (opd t i) fun k => og (Nat.beq (keyKind k) kk) (ob (opd t x) (lookupV zero ok h k)))
noncomputable def updated (r : Nat) (es : List MapEntry) (c : Nat) (kv v : Value) (h : Heap) (f : Option (Nat × MapEntry)) : Option (Value × Heap) :=
  match f with
  | none => some (undefV, h.upd r (.map (es ++ [⟨kv, v, c⟩]) (c + 1)))
  | some (i, _) => some (undefV, h.upd r (.map (setEntry kv v es i) c))
noncomputable def oMapUpdate (kk : Nat) (m k x : Operand) (t : TM) (h : Heap) : Option (Value × Heap) :=
  ob (opd t m) fun mv => ob (asMap mv) fun r => ob (opd t k) fun kv => ob (opd t x) fun v => ob (h.getMap r) fun es => og (Nat.beq (keyKind kv) kk) (ob (findKey kv es.1 0) (updated r es.1 es.2 kv v h))
noncomputable def entered (zero : Value) (r : Nat) (es : List MapEntry) (c : Nat) (kv : Value) (h : Heap) (f : Option (Nat × MapEntry)) : Option (Value × Heap) :=
  match f with
  | none => some (.tuple ⟨[zero, .int .i64 c]⟩, h.upd r (.map (es ++ [⟨kv, zero, c⟩]) (c + 1)))
  | some (i, e) => some (.tuple ⟨[e.val, .int .i64 e.born]⟩, h.upd r (.map (setEntry kv e.val es i) c))
noncomputable def oMapEntry (kk : Nat) (zero : Value) (m k : Operand) (t : TM) (h : Heap) : Option (Value × Heap) :=
  og (constOk zero) (ob (opd t m) fun mv => ob (asMap mv) fun r => ob (opd t k) fun kv => ob (h.getMap r) fun es => og (Nat.beq (keyKind kv) kk) (ob (findKey kv es.1 0) (entered zero r es.1 es.2 kv h)))
noncomputable def oEntryStore (m s x : Operand) (t : TM) (h : Heap) : Option (Value × Heap) :=
  ob (opd t m) fun mv => ob (asMap mv) fun r => ob (opd t s) fun sv => ob (asInt sv) fun sn => ob (opd t x) fun v => ob (h.getMap r) fun es => ob (findBorn sn.2 es.1 0) fun ie =>
    some (undefV, h.upd r (.map (setEntry ie.2.key v es.1 ie.1) es.2))
noncomputable def deleted (r : Nat) (es : List MapEntry) (c : Nat) (h : Heap) (f : Option (Nat × MapEntry)) : Option (Value × Heap) :=
  match f with
  | none => some (undefV, h)
  | some (i, _) => some (undefV, h.upd r (.map (dropEntry es i) c))
noncomputable def oDelete (kk : Nat) (m k : Operand) (t : TM) (h : Heap) : Option (Value × Heap) :=
  ob (opd t m) fun mv => ob (asMap mv) fun r => ob (opd t k) fun kv => ob (h.getMap r) fun es => og (Nat.beq (keyKind kv) kk) (ob (findKey kv es.1 0) (deleted r es.1 es.2 h))
noncomputable def oRangeText (x : Operand) (t : TM) (h : Heap) : Option (Value × Heap) :=
  ob (opd t x) fun v => ob (asText v) fun s => some (.pointer (some ⟨h.next, 0, none⟩), h.new (.text s 0))
noncomputable def nextV (h : Heap) (r : Nat) (o : AObj) : Option (Value × Heap) :=
  match o with
  | .text s pos => oi (Nat.ble (pos + 1) s.data.toList.length)
      (some (.tuple ⟨[.bool true, .int .i64 pos, .int .i32 (Utf8.decode s pos).1]⟩, h.upd r (.text s (pos + (Utf8.decode s pos).2))))
      (some (.tuple ⟨[.bool false]⟩, h))
  | _ => none
noncomputable def oNextText (x : Operand) (t : TM) (h : Heap) : Option (Value × Heap) :=
  ob (opd t x) fun v => ob (asPtr v) fun p => og (Nat.beq p.2 0) (ob (h.objs.get p.1) (nextV h p.1))
noncomputable def oExtract (x : Operand) (i : Nat) (t : TM) (h : Heap) : Option (Value × Heap) :=
  ob (opd t x) fun v => ob (asTuple v) fun vs => ob (nthL vs i) (ret1 h)
noncomputable def oLenText (x : Operand) (t : TM) (h : Heap) : Option (Value × Heap) :=
  ob (opd t x) fun v => ob (asText v) fun s => some (.int .i64 (.ofNat (lenL s.data.toList)), h)
noncomputable def oLenSlice (x : Operand) (t : TM) (h : Heap) : Option (Value × Heap) :=
  ob (opd t x) fun v => ob (asSlice v) fun p => some (.int .i64 (.ofNat p.2.1), h)
noncomputable def lenMapV (h : Heap) (v : Value) : Option (Value × Heap) :=
  match v with
  | .map none => some (.int .i64 0, h)
  | .map (some r) => ob (h.getMap r) fun es => some (.int .i64 (.ofNat es.1.length), h)
  | _ => none
noncomputable def oLenMap (x : Operand) (t : TM) (h : Heap) : Option (Value × Heap) := ob (opd t x) (lenMapV h)
noncomputable def oLenConst (n : Nat) (_ : TM) (h : Heap) : Option (Value × Heap) := some (.int .i64 (.ofNat n), h)
noncomputable def capV (h : Heap) (v : Value) : Option (Value × Heap) :=
  match v with
  | .slice _ _ cc => og (Nat.beq (cc % 3) 1) (some (.int .i64 (.ofNat (cc / 3)), h))
  | _ => none
noncomputable def oCapOf (x : Operand) (t : TM) (h : Heap) : Option (Value × Heap) := ob (opd t x) (capV h)
noncomputable def oAppend (e : TypeId) (size bytes : Nat) (s x : Operand) (t : TM) (h : Heap) : Option (Value × Heap) :=
  ob (opd t s) fun sv => ob (opd t x) fun xv => ob (lenV xv) fun n => ob (readSlice h size n xv) fun new => appendV h e size bytes sv n new
noncomputable def oAppendZeros (e : TypeId) (size bytes : Nat) (zero : List Value) (s x : Operand) (t : TM) (h : Heap) : Option (Value × Heap) :=
  og (plains zero) (ob (opd t s) fun sv => ob (opd t x) fun xv => ob (idx xv) fun n => og (Nat.beq zero.length size) (og (Nat.ble (n * (bytes + 1)) 1099511627776)
    (appendV h e size bytes sv n (repeatL zero n))))
noncomputable def copied (h : Heap) (n size : Nat) (vs : List Value) (base : Option Addr) : Option (Value × Heap) :=
  match base with
  | none => og (Nat.beq (n * size) 0) (some (.int .i64 (.ofNat n), h))
  | some ⟨b, o, none⟩ => ob (h.write b o vs) fun h' => some (.int .i64 (.ofNat n), h')
  | _ => none
noncomputable def copyV (h : Heap) (size : Nat) (sv dv : Value) : Option (Value × Heap) :=
  match dv with
  | .slice base len _ => ob (lenV sv) fun m => ob (readSlice h size (oi (Nat.ble m len) m len) sv) fun vs => copied h (oi (Nat.ble m len) m len) size vs base
  | _ => none
noncomputable def oCopy (size : Nat) (d s : Operand) (t : TM) (h : Heap) : Option (Value × Heap) := ob (opd t d) fun dv => ob (opd t s) fun sv => copyV h size sv dv
noncomputable def clearV (zero : List Value) (h : Heap) (v : Value) : Option (Value × Heap) :=
  match v with
  | .slice none _ _ => some (undefV, h)
  | .slice (some ⟨b, o, none⟩) n _ => oi (Nat.beq n 0) (some (undefV, h)) (ob (h.write b o (repeatL zero n)) fun h' => some (undefV, h'))
  | _ => none
noncomputable def oClear (zero : List Value) (x : Operand) (t : TM) (h : Heap) : Option (Value × Heap) := og (plains zero) (ob (opd t x) (clearV zero h))
noncomputable def minMaxV (isMax : Bool) (v u : Value) (h : Heap) : Option (Value × Heap) :=
  ob (asInt v) fun p => ob (asInt u) fun q => og (kindEq p.1 q.1) (some (.int p.1 (oi isMax (oi (intLt p.2 q.2) q.2 p.2) (oi (intLt q.2 p.2) q.2 p.2)), h))
noncomputable def oMinMax (isMax : Bool) (x y : Operand) (t : TM) (h : Heap) : Option (Value × Heap) :=
  ob (opd t x) fun v => ob (opd t y) fun u => minMaxV isMax v u h
noncomputable def oCall (_ : Operand) (_ : List Operand) (_ : TM) (_ : Heap) : Option (Value × Heap) := none

/-- One operation; calls are not among them. -/
noncomputable def evalOp (o : AOp) : TM → Heap → Option (Value × Heap) :=
  AOp.rec (motive := fun _ => TM → Heap → Option (Value × Heap))
    oMove oPick oAlloc oBox oBuild oBuildSlice oLoad oStore oNilCheck oBin oUn oToInt oToFloat oSame oBytesOf oTextOf oMakeFunc oMakeMap oMakeSlice
    oSliceText oSlice oSliceArr oFieldAddr oField oIndexArr oIndexSlice oIndexAgg oIndexText oLookup oMapUpdate oMapEntry oEntryStore oDelete oRangeText oNextText
    oExtract oLenText oLenSlice oLenMap oLenConst oCapOf oAppend oAppendZeros oCopy oClear oMinMax oCall o

noncomputable def wantedV (want : Bool) (v : Value) : Bool := Option.rec (motive := fun _ => Bool) false (fun b => oi want b (oi b false true)) (asBool v)
noncomputable def wantedA (t : TM) (g : Option (Nat × Bool)) : Option Bool :=
  Option.rec (motive := fun _ => Option Bool) (some true) (fun p => ob (t.get p.1) fun v => some (wantedV p.2 v)) g

noncomputable def putD (t : TM) (dst : Option Nat) (v : Value) : TM := Option.rec (motive := fun _ => TM) t (fun d => t.set d v) dst

abbrev CallF := Nat → List Value → Heap → Option (Value × Heap)

noncomputable def doCall (call : CallF) (t : TM) (h : Heap) (f : Operand) (args : List Operand) : Option (Value × Heap) :=
  ob (opd t f) fun v => ob (asFunc v) fun g => ob (opds t args) fun vs => call g.1 (appL g.2.1 (appL vs g.2.2)) h
noncomputable def evalAny (call : CallF) (t : TM) (h : Heap) (o : AOp) : Option (Value × Heap) :=
  match o with
  | .call f args => doCall call t h f args
  | o => evalOp o t h

/-- Operations in the order in which they stand. -/
noncomputable def runOne (call : CallF) (o : AOper) (t : TM) (h : Heap) (k : TM → Heap → Option (TM × Heap)) : Option (TM × Heap) :=
  ob (wantedA t o.guard) fun g => oi g (ob (oi o.isCall (evalAny call t h o.op) (evalOp o.op t h)) fun r => k (putD t o.dst r.1) r.2) (k (putD t o.dst undefV) h)
noncomputable def runOps (call : CallF) (l : List AOper) : TM → Heap → Option (TM × Heap) :=
  List.rec (motive := fun _ => TM → Heap → Option (TM × Heap)) (fun t h => some (t, h)) (fun o _ ih t h => runOne call o t h ih) l

/-- What is read is the same at all these heaps. -/
noncomputable def sameAt (t : TM) (o : AOp) (v : Value) (n : Nat) : List Heap → Bool :=
  Nat.rec (motive := fun _ => List Heap → Bool) (fun _ => true)
    (fun _ ih gs => List.rec (motive := fun _ => Bool) false (fun g gs _ => Option.rec (motive := fun _ => Bool) false (fun r => oi (veq v r.1) (ih gs) false) (evalOp o t g)) gs) n

noncomputable def headH (hist : List Heap) : Option Heap := List.rec (motive := fun _ => Option Heap) none (fun g _ _ => some g) hist
noncomputable def tailH (hist : List Heap) : List Heap := List.rec (motive := fun _ => List Heap) [] (fun _ gs _ => gs) hist
abbrev Cont := TM → Heap → List Heap → Nat → Option (TM × Heap)
noncomputable def drawn0 (o : AOper) (t : TM) (h : Heap) (hist : List Heap) (k : Nat) (K : Cont) : Option (TM × Heap) :=
  ob (wantedA t o.guard) fun w => oi w (ob (evalOp o.op t h) fun r => K (putD t o.dst r.1) r.2 hist k) (K (putD t o.dst undefV) h hist k)
noncomputable def drawn1 (o : AOper) (t : TM) (h : Heap) (hist : List Heap) (k : Nat) (K : Cont) : Option (TM × Heap) :=
  ob (wantedA t o.guard) fun w => oi w (ob (headH hist) fun g => ob (evalOp o.op t g) fun r => og (sameAt t o.op r.1 (Nat.sub k o.lo) (tailH hist)) (K (putD t o.dst r.1) h hist k))
    (K (putD t o.dst undefV) h hist k)
noncomputable def drawn2 (call : CallF) (o : AOper) (t : TM) (h : Heap) (hist : List Heap) (k : Nat) (K : Cont) : Option (TM × Heap) :=
  ob (wantedA t o.guard) fun w => oi w (ob (oi o.isCall (evalAny call t h o.op) (evalOp o.op t h)) fun r => K (putD t o.dst r.1) r.2 (r.2 :: hist) (Nat.succ k)) (K (putD t o.dst undefV) h (h :: hist) (Nat.succ k))
/-- A region that draws its order: its operations in one order that stands for all; hist: the heaps behind each effect so far, the last first; k: how many effects there were. -/
noncomputable def runDrawn (call : CallF) (l : List AOper) : Cont :=
  List.rec (motive := fun _ => Cont) (fun t h _ _ => some (t, h))
    (fun o _ ih t h hist k => oi (Nat.beq o.kind (nat_lit 0)) (drawn0 o t h hist k ih) (oi (Nat.beq o.kind (nat_lit 1)) (drawn1 o t h hist k ih) (oi (Nat.beq o.kind (nat_lit 3)) (drawn0 o t h hist k ih) (drawn2 call o t h hist k ih)))) l

abbrev Out := Option (AExit × TM × Heap)

structure Both where
  call : CallF
  exec : ACode → TM → Heap → Out
noncomputable def outOf (r : Option (TM × Heap)) : Out := ob r fun p => some (.normal, p.1, p.2)
noncomputable def onNormal (r : Out) (k : TM → Heap → Out) : Out :=
  ob r fun p => AExit.rec (motive := fun _ => Out) (k p.2.1 p.2.2) (fun i => some (.exit i, p.2.1, p.2.2)) (some (.ret, p.2.1, p.2.2)) p.1
noncomputable def onExit (id : Nat) (r : Out) : Out :=
  ob r fun p => AExit.rec (motive := fun _ => Out) (some (.normal, p.2.1, p.2.2)) (fun i => oi (Nat.beq i id) (some (.normal, p.2.1, p.2.2)) (some (.exit i, p.2.1, p.2.2))) (some (.ret, p.2.1, p.2.2)) p.1
noncomputable def sSkip (_ : Both) (t : TM) (h : Heap) : Out := some (.normal, t, h)
noncomputable def sOps (l : List AOper) (B : Both) (t : TM) (h : Heap) : Out := outOf (runOps B.call l t h)
noncomputable def sDrawn (l : List AOper) (B : Both) (t : TM) (h : Heap) : Out := outOf (runDrawn B.call l t h [h] 0)
noncomputable def sSeq (a b : ACode) (_ _ : Both → TM → Heap → Out) (B : Both) (t : TM) (h : Heap) : Out := onNormal (B.exec a t h) (B.exec b)
noncomputable def sCond (c : Operand) (a b : ACode) (_ _ : Both → TM → Heap → Out) (B : Both) (t : TM) (h : Heap) : Out :=
  ob (opd t c) fun v => ob (asBool v) fun d => oi d (B.exec a t h) (B.exec b t h)
noncomputable def sBlock (id : Nat) (a : ACode) (_ : Both → TM → Heap → Out) (B : Both) (t : TM) (h : Heap) : Out := onExit id (B.exec a t h)
noncomputable def sLoop (a : ACode) (_ : Both → TM → Heap → Out) (B : Both) (t : TM) (h : Heap) : Out := onNormal (B.exec a t h) (B.exec (.loop a))
noncomputable def sExit (id : Nat) (_ : Both) (t : TM) (h : Heap) : Out := some (.exit id, t, h)
noncomputable def sRet (_ : Both) (t : TM) (h : Heap) : Out := some (.ret, t, h)
noncomputable def onLoop {β : Type} (o : AObj) (k : ALoop → Option β) : Option β :=
  AObj.rec (motive := fun _ => Option β) (fun _ _ _ _ => none) (fun _ _ => none) (fun _ _ => none) k o
noncomputable def ALoop.turn (r : ALoop) (st : Nat) (pend : Option AExit) : ALoop := ⟨r.t, r.n, r.ps, r.ca, r.cb, r.a, r.b, st, pend⟩
noncomputable def putPs (t : TM) (ps : List Nat) (vs : List Value) : Option TM :=
  (List.rec (motive := fun _ => List Value → TM → Option TM) (fun vs t => og (isNil vs) (some t)) (fun p _ ih vs t => List.rec (motive := fun _ => Option TM) none (fun v r _ => ih r (t.set p v)) vs) ps) vs t
/-- Behind a round. -/
noncomputable def endRoundV (k : Nat) (x : AExit) (h : Heap) : Option (Value × Heap) :=
  ob (h.objs.get k) fun o => onLoop o fun r => AExit.rec (motive := fun _ => Option (Value × Heap))
    (some (.bool true, h.upd k (.loop (r.turn (nat_lit 0) none)))) (fun i => some (.bool false, h.upd k (.loop (r.turn (nat_lit 2) (some (.exit i)))))) (some (.bool false, h.upd k (.loop (r.turn (nat_lit 2) (some .ret))))) x
noncomputable def onlyNormal (r : Out) (k : TM → Heap → Option (Value × Heap)) : Option (Value × Heap) :=
  ob r fun p => AExit.rec (motive := fun _ => Option (Value × Heap)) (k p.2.1 p.2.2) (fun _ => none) none p.1
noncomputable def roundBody (k : Nat) (b : ACode) (B : Both) (t : TM) (h : Heap) : Option (Value × Heap) :=
  ob (h.objs.get k) fun o => onLoop o fun r => og (Nat.beq r.st (nat_lit 0)) (ob (B.exec b t (h.upd k (.loop (r.turn (nat_lit 1) r.pend)))) fun p => endRoundV k p.1 p.2.2)
/-- A call of yield. -/
noncomputable def callYield (B : Both) (k : Nat) (args : List Value) (h : Heap) : Option (Value × Heap) :=
  ob (h.objs.get k) fun o => onLoop o fun r => ob (putPs r.t r.ps args) fun t => onlyNormal (B.exec r.a t h) (roundBody k r.b B)
noncomputable def exitOf (x : Option AExit) : AExit := Option.rec (motive := fun _ => AExit) .normal (fun y => y) x
noncomputable def endLoopV (k : Nat) (t : TM) (h : Heap) : Out :=
  ob (h.objs.get k) fun o => onLoop o fun r => oi (Nat.beq r.st (nat_lit 1)) none (some (exitOf r.pend, t, h.upd k (.loop (r.turn (nat_lit 3) r.pend))))
noncomputable def isEven (n : Nat) : Bool := Nat.beq (Nat.mod n (nat_lit 2)) (nat_lit 0)
noncomputable def sRange (n : Nat) (g : Operand) (ps : List Nat) (ca cb : Code) (a b : ACode) (_ _ : Both → TM → Heap → Out) (B : Both) (t : TM) (h : Heap) : Out :=
  ob (opd t g) fun v => ob (asFunc v) fun q => og (isEven q.1)
    (ob (B.call q.1 (appL q.2.1 (appL [.func (.yield h.next) ⟨[]⟩ ⟨[]⟩] q.2.2)) (h.new (.loop ⟨t, n, ps, ca, cb, a, b, 0, none⟩))) fun r => endLoopV h.next t r.2)
noncomputable def step (c : ACode) : Both → TM → Heap → Out :=
  ACode.rec (motive := fun _ => Both → TM → Heap → Out) sSkip sOps sDrawn sSeq sCond sBlock sLoop sExit sRet sRange c

noncomputable def rTmp (i : Nat) (t : TM) (_ : Heap) : Option Value := t.get i
noncomputable def rCell (a : Nat) (agg : Bool) (n : Nat) (t : TM) (h : Heap) : Option Value := ob (t.get a) fun v => ob (asPtr v) fun p => ob (h.read p.1 p.2 n) fun vs => partL agg n vs
noncomputable def resV (r : ARes) : TM → Heap → Option Value := ARes.rec (motive := fun _ => TM → Heap → Option Value) rTmp rCell r
noncomputable def resVs (t : TM) (h : Heap) (rs : List ARes) : Option (List Value) :=
  List.rec (motive := fun _ => Option (List Value)) (some []) (fun r _ ih => ob (resV r t h) fun v => ob ih fun vs => some (v :: vs)) rs
noncomputable def result (t : TM) (h : Heap) (rs : List ARes) : Option Value :=
  ob (resVs t h rs) fun vs => some (Option.rec (motive := fun _ => Value) (.tuple ⟨vs⟩) (fun v => v) (only vs))

/-- Functions: how they are compiled; and those that are told by hand (with the calls that they make). -/
structure Fns where
  fn : Nat → Option AFun
  hook : Nat → Option (CallF → List Value → Heap → Option (Value × Heap))

noncomputable def finish (res : List ARes) (p : AExit × TM × Heap) : Option (Value × Heap) :=
  AExit.rec (motive := fun _ => Option (Value × Heap)) (ob (result p.2.1 p.2.2 res) (ret1 p.2.2)) (fun _ => none) (ob (result p.2.1 p.2.2 res) (ret1 p.2.2)) p.1
noncomputable def enterFn (B : Both) (args : List Value) (h : Heap) (fn : AFun) : Option (Value × Heap) := ob (B.exec fn.body (fillFrom .nil 0 args) h) (finish fn.res)
noncomputable def callFn (F : Fns) (B : Both) (f : Nat) (args : List Value) (h : Heap) : Option (Value × Heap) :=
  Option.rec (motive := fun _ => Option (Value × Heap)) (ob (F.fn f) (enterFn B args h)) (fun k => k B.call args h) (F.hook f)
noncomputable def callOf (F : Fns) (B : Both) (f : Nat) (args : List Value) (h : Heap) : Option (Value × Heap) :=
  oi (isEven f) (callFn F B (Nat.div f (nat_lit 2)) args h) (callYield B (Nat.div f (nat_lit 2)) args h)

/-- Both at once: calls, and code. -/
noncomputable def both (F : Fns) (n : Nat) : Both :=
  Nat.rec (motive := fun _ => Both) ⟨fun _ _ _ => none, fun _ _ _ => none⟩ (fun _ B => ⟨callOf F B, fun c => step c B⟩) n

/-! ### From the model's code. -/
section
variable (P : Program)
noncomputable def isAggT (t : TypeId) : Option Bool :=
  match P.underlying t with
  | some (.struct _) => some true
  | some (.array _ _) => some true
  | some _ => some false
  | none => none
noncomputable def sizeT (t : TypeId) : Option Nat := match P.info? t with | some i => some i.size | none => none
noncomputable def bytesT (t : TypeId) : Option Nat := match P.info? t with | some i => some i.bytes | none => none
noncomputable def zeroT (t : TypeId) : Option Value := match P.info? t with | some i => i.zero | none => none
noncomputable def zerosT (t : TypeId) : Option (List Value) := match zeroT P t with | some v => some (cellsL v) | none => none
noncomputable def fieldsT (t : TypeId) : Option (Array Field) := match P.underlying t with | some (.struct fs) => some fs | _ => none

noncomputable def sizedAll : List Field → Bool
  | [] => true
  | f :: fs => match sizeT P f.type with | some _ => sizedAll fs | none => false
noncomputable def partsOf (fs : Array Field) : List (Nat × Operand) → Option (List (Nat × Nat × Operand))
  | [] => some []
  | (i, x) :: rest => do
    let f ← fs.toList[i]?
    let n ← sizeT P f.type
    let r ← partsOf fs rest
    pure ((f.offset, n, x) :: r)
noncomputable def partsEach (n : Nat) : List (Nat × Operand) → List (Nat × Nat × Operand)
  | [] => []
  | (i, x) :: rest => (i * n, n, x) :: partsEach n rest

noncomputable def compBuiltin (b : Builtin) (args : List Operand) (ts : List TypeId) : Option AOp :=
  match b, args, ts with
  | .len, [x], [t] => (match P.underlying t with
    | some .string => some (.lenText x)
    | some (.slice _) => some (.lenSlice x)
    | some (.map _ _) => some (.lenMap x)
    | some (.array n _) => some (.lenConst n)
    | some (.pointer a) => (match P.underlying a with | some (.array n _) => some (.lenConst n) | _ => none)
    | _ => none)
  | .cap, [x], [t] => (match P.underlying t with | some (.slice _) => some (.capOf x) | _ => none)
  | .append, [s, x], [st, xt] => (match P.underlying st with
    | some (.slice e) => (match sizeT P e, bytesT P e, P.underlying xt with
      | some n, some by_, some (.int _) => (match zerosT P e with | some z => bif Nat.beq z.length n then some (.appendZeros e n by_ z s x) else none | none => none)
      | some n, some by_, some (.slice _) => (match zerosT P e with | some z => bif Nat.beq z.length n then some (.append e n by_ s x) else none | none => none)
      | some n, some by_, some .string => (match zerosT P e with | some z => bif Nat.beq z.length n then some (.append e n by_ s x) else none | none => none)
      | _, _, _ => none)
    | _ => none)
  | .copy, [d, s], dt :: _ => (match P.underlying dt with
    | some (.slice e) => (match sizeT P e with | some n => some (.copy n d s) | none => none)
    | _ => none)
  | .clear, [x], [t] => (match P.underlying t with
    | some (.slice e) => (match zerosT P e with | some z => some (.clear z x) | none => none)
    | _ => none)
  | .delete, [m, k], [t, _] => (match P.underlying t with
    | some (.map kt _) => (match P.underlying kt with
      | some (.int _) => some (.delete 1 m k)
      | some .string => some (.delete 2 m k)
      | _ => none)
    | _ => none)
  | .max, [x, y], _ => some (.minMax true x y)
  | .min, [x, y], _ => some (.minMax false x y)
  | _, _, _ => none

noncomputable def keyOk (t : TypeId) : Nat :=
  match P.underlying t with
  | some (.int _) => 1
  | some .string => 2
  | _ => 0

noncomputable def compOp (o : Oper) : Option AOp :=
  match o.op with
  | .move x => some (.move x)
  | .assign x => some (.move x)
  | .pick c a b => some (.pick c a b)
  | .alloc e => do let z ← zerosT P e; pure (.alloc e z)
  | .box e x => some (.box e x)
  | .build t ps => do
    let z ← zerosT P t
    match P.underlying t with
    | some (.struct fs) => (bif sizedAll P fs.toList then (match partsOf P fs ps.toList with | some r => some (.build z r) | none => none) else none)
    | some (.array _ e) => let n ← sizeT P e; pure (.build z (partsEach n ps.toList))
    | _ => none
  | .buildSlice t len ps => match P.underlying t with
    | some (.slice e) => do
      let n ← sizeT P e
      let z ← zerosT P e
      bif Nat.ble 1 n then bif Nat.ble (len * n) 16777216 then bif Nat.beq z.length n then pure (.buildSlice e len z (partsEach n ps.toList)) else none else none else none
    | _ => none
  | .load t a => do let g ← isAggT P t; let n ← sizeT P t; bif g then pure (.load true n a) else pure (.load false 1 a)
  | .store t a x => do let n ← sizeT P t; pure (.store n a x)
  | .nilCheck x => some (.nilCheck x)
  | .binOp op t x y _ => match P.underlying t with
    | some (.pointer e) => (match sizeT P e with | some (_ + 1) => some (.bin op 2 x y) | _ => none)
    | some d => some (.bin op (descNo d) x y)
    | none => none
  | .unOp op _ x => some (.un op x)
  | .convert s d x => match P.underlying s, P.underlying d with
    | some (.int _), some (.int k) => some (.toInt k x)
    | some (.float _), some (.int k) => some (.toInt k x)
    | some (.int _), some (.float k) => some (.toFloat k x)
    | some (.float _), some (.float k) => some (.toFloat k x)
    | some .string, some .string => some (.same x)
    | some .string, some (.slice e) => (match P.underlying e with | some (.int .u8) => some (.bytesOf e x) | _ => none)
    | some (.slice e), some .string => (match P.underlying e with | some (.int .u8) => some (.textOf x) | _ => none)
    | _, _ => none
  | .makeFunc fn a b => (match fn with | .yield _ => none | _ => some (.makeFunc fn a.toList b.toList))
  | .makeMap _ none => some .makeMap
  | .makeSlice t l c => match P.underlying t with
    | some (.slice e) => do
      let by_ ← bytesT P e
      let z ← zerosT P e
      let n ← sizeT P e
      bif Nat.ble 1 n then bif Nat.beq z.length n then pure (.makeSlice e by_ z l c) else none else none
    | _ => none
  | .slice t x lo hi mx => match P.underlying t with
    | some .string => (match mx with | none => some (.sliceText x lo hi) | some _ => none)
    | some (.slice e) => if mx.isSome && hi.isNone then none else do let n ← sizeT P e; pure (.slice n x lo hi mx)
    | some (.array len e) => if mx.isSome && hi.isNone then none else do let n ← sizeT P e; pure (.sliceArr len n x lo hi mx)
    | _ => none
  | .fieldAddr t x i => do
    let fs ← fieldsT P t
    let f ← fs.toList[i]?
    let n ← sizeT P f.type
    bif Nat.ble 1 n then pure (.fieldAddr f.offset x) else none
  | .field t x i => do
    let fs ← fieldsT P t
    let f ← fs.toList[i]?
    let g ← isAggT P f.type
    let n ← sizeT P f.type
    bif g then pure (.field f.offset true n x) else pure (.field f.offset false 1 x)
  | .indexAddr t x i => match P.underlying t with
    | some (.array len e) => do let n ← sizeT P e; pure (.indexArr len n x i)
    | some (.slice e) => do let n ← sizeT P e; pure (.indexSlice n x i)
    | _ => none
  | .index t x i => match P.underlying t with
    | some .string => some (.indexText x i)
    | some (.array len e) => do
      let g ← isAggT P e
      let n ← sizeT P e
      bif g then pure (.indexAgg len n true x i) else bif Nat.beq n 1 then pure (.indexAgg len 1 false x i) else none
    | _ => none
  | .lookup t x i ok => match P.underlying t with
    | some (.map k e) => bif Nat.ble 1 (keyOk P k) then (match zeroT P e with | some z => some (.lookup (keyOk P k) z x i ok) | none => none) else none
    | _ => none
  | .mapUpdate t m k x => match P.underlying t with
    | some (.map kt _) => bif Nat.ble 1 (keyOk P kt) then some (.mapUpdate (keyOk P kt) m k x) else none
    | _ => none
  | .insert t m k x => match P.underlying t with
    | some (.map kt _) => bif Nat.ble 1 (keyOk P kt) then some (.mapUpdate (keyOk P kt) m k x) else none
    | _ => none
  | .mapEntry t m k => match P.underlying t with
    | some (.map kt e) => bif Nat.ble 1 (keyOk P kt) then (match zeroT P e with | some z => some (.mapEntry (keyOk P kt) z m k) | none => none) else none
    | _ => none
  | .entryStore _ m s x => some (.entryStore m s x)
  | .range t x => match P.underlying t with
    | some .string => some (.rangeText x)
    | _ => none
  | .next x true => some (.nextText x)
  | .extract x i => some (.extract x i)
  | .call c => match c.callee with
    | .value f => some (.call f c.args.toList)
    | .builtin b => compBuiltin P b c.args.toList c.argTypes.toList
    | .invoke _ _ => none
  | _ => none

/-- 0: no heap; 1: it reads; 2: an effect; 3: a new block that stands alone. -/
noncomputable def kindOf : AOp → Nat
  | .load _ _ _ => 1
  | .lookup _ _ _ _ _ => 1
  | .lenMap _ => 1
  | .textOf _ => 1
  | .bin _ d _ _ => bif Nat.beq d 2 then 1 else 0
  | .move _ => 0
  | .pick _ _ _ => 0
  | .build _ _ => 0
  | .nilCheck _ => 0
  | .un _ _ => 0
  | .toInt _ _ => 0
  | .toFloat _ _ => 0
  | .same _ => 0
  | .makeFunc _ _ _ => 0
  | .sliceText _ _ _ => 0
  | .slice _ _ _ _ _ => 0
  | .sliceArr _ _ _ _ _ _ => 0
  | .fieldAddr _ _ => 0
  | .field _ _ _ _ => 0
  | .indexArr _ _ _ _ => 0
  | .indexSlice _ _ _ => 0
  | .indexAgg _ _ _ _ _ => 0
  | .indexText _ _ => 0
  | .extract _ _ => 0
  | .lenText _ => 0
  | .lenSlice _ => 0
  | .lenConst _ => 0
  | .capOf _ => 0
  | .minMax _ _ _ => 0
  | .alloc _ _ => 3
  | .box _ _ => 3
  | .buildSlice _ _ _ _ => 3
  | _ => 2
noncomputable def isCallOp : AOp → Bool
  | .call _ _ => true
  | _ => false
noncomputable def dstOk (n : Nat) : Option Nat → Bool
  | none => true
  | some d => Nat.ble (d + 1) n
noncomputable def compOper (n : Nat) (ops : Array Oper) (o : Oper) : Option AOper :=
  bif dstOk n o.dst then
  match compOp P o with
  | none => none
  | some a => match o.guard with
    | none => some ⟨o.dst, none, a, isCallOp a, kindOf a, 0⟩
    | some (j, w) => match ops.toList[j]? with
      | some g => (match g.dst with
        | some d => some ⟨o.dst, some (d, w), a, isCallOp a, kindOf a, 0⟩
        | none => none)
      | none => none
  else none
noncomputable def compOpers (n : Nat) (ops : Array Oper) : List Oper → Option (List AOper)
  | [] => some []
  | o :: os => match compOper P n ops o with
    | none => none
    | some a => match compOpers n ops os with | none => none | some r => some (a :: r)

/-- What must be ahead of each operation, as bits: by its edges, and theirs. -/
noncomputable def aheadOf (o : Oper) (acc : List Nat) : Nat :=
  o.after.toList.foldl (fun s e => if Region.binds .any e then s ||| 2 ^ e.on ||| (acc.getD e.on 0) else s) 0
noncomputable def aheads : List Oper → List Nat → List Nat
  | [], acc => acc
  | o :: os, acc => aheads os (acc ++ [aheadOf o acc])
/-- The order that stands for all: ahead of each effect what it hangs on, the rest behind. -/
noncomputable def effects : List AOper → Nat → List Nat
  | [], _ => []
  | o :: os, i => if Nat.beq o.kind 2 then i :: effects os (i + 1) else effects os (i + 1)
noncomputable def hangsOn (b : List Nat) (n : Nat) (e : Nat) (done : Nat) : List Nat :=
  (List.range n).filter fun i => (b.getD e 0).testBit i && !done.testBit i
noncomputable def orderOf (b : List Nat) (n : Nat) : List Nat → Nat → List Nat
  | [], done => (List.range n).filter fun i => !done.testBit i
  | e :: es, done =>
    let l := hangsOn b n e done
    l ++ e :: orderOf b n es (l.foldl (fun d i => d ||| 2 ^ i) (done ||| 2 ^ e))
/-- What an operation looks at, and two that meet in a slot. -/
noncomputable def apartAll (ops : Array Oper) (x : Oper) : List Oper → Bool
  | [] => true
  | y :: ys => x.apart ops y && apartAll ops x ys
noncomputable def isEff (l : List AOper) (i : Nat) : Bool := match l[i]? with | some o => Nat.beq o.kind 2 | none => false
/-- For a pair of places of the order, the first ahead: where they meet in a slot, or both are effects, or the second is an effect, the first must be ahead of the second. -/
noncomputable def pairOk (ops : Array Oper) (l : List AOper) (b : List Nat) (i j : Nat) : Bool :=
  !(Nat.beq i j) && ((b.getD j 0).testBit i || (!isEff l j && (match ops[i]?, ops[j]? with | some x, some y => x.apart ops y | _, _ => false)))
noncomputable def pairsOk (ops : Array Oper) (l : List AOper) (b : List Nat) : List Nat → Bool
  | [] => true
  | i :: r => r.all (fun j => pairOk ops l b i j) && pairsOk ops l b r
noncomputable def loOf (l : List AOper) (b : List Nat) (i : Nat) (π : List Nat) : Nat := (π.filter fun e => isEff l e && (b.getD i 0).testBit e).length
noncomputable def pick1 (l : List AOper) (b : List Nat) (π : List Nat) (i : Nat) : Option AOper := match l[i]? with | some o => some { o with lo := loOf l b i π } | none => none
noncomputable def picks (l : List AOper) (b : List Nat) (π : List Nat) : List Nat → Option (List AOper)
  | [] => some []
  | i :: r => match pick1 l b π i with
    | none => none
    | some o => match picks l b π r with | none => none | some os => some (o :: os)
noncomputable def permOk (n : Nat) (π : List Nat) : Bool := Nat.beq π.length n && (List.range n).all fun i => π.contains i
/-- What is ahead of an operation stands ahead of it. -/
noncomputable def inOrder : List Nat → Nat → Bool
  | [], _ => true
  | x :: xs, i => Nat.ble (x + 1) (2 ^ i) && inOrder xs (i + 1)
noncomputable def planOf (ops : Array Oper) (l : List AOper) : Option (List AOper) :=
  let b := aheads ops.toList []
  let π := orderOf b l.length (effects l 0) 0
  if permOk ops.size π && pairsOk ops l b π && inOrder b 0 then picks l b π π else none

/-- No loop over a function in it. -/
noncomputable def noRange : ACode → Bool
  | .seq a b => noRange a && noRange b
  | .cond _ a b => noRange a && noRange b
  | .block _ a => noRange a
  | .loop a => noRange a
  | .range _ _ _ _ _ _ _ => false
  | _ => true
noncomputable def psOk (n : Nat) (ps : List Nat) : Bool := ps.all fun p => Nat.ble (p + 1) n
noncomputable def compCode (n : Nat) : Code → Option ACode
  | .skip => some .skip
  | .region _ ops false => match compOpers P n ops ops.toList with | none => none | some l => some (.ops l)
  | .region _ ops true => match compOpers P n ops ops.toList with
    | none => none
    | some l => match planOf ops l with | none => none | some r => some (.drawn r)
  | .seq a b => match compCode n a with | none => none | some x => match compCode n b with | none => none | some y => some (.seq x y)
  | .cond c a b => match compCode n a with | none => none | some x => match compCode n b with | none => none | some y => some (.cond c x y)
  | .block id a => match compCode n a with | none => none | some x => some (.block id x)
  | .loop a => match compCode n a with | none => none | some x => some (.loop x)
  | .exit id => some (.exit id)
  | .ret => some .ret
  | .scope a => compCode n a
  | .label _ => some .skip
  | .rangeFunc g ps a b => match compCode n a with | none => none | some x => match compCode n b with
    | none => none
    | some y => bif noRange x && noRange y && psOk n ps.toList then some (.range n g ps.toList a b x y) else none
  | _ => none

noncomputable def compRes : List ResultVar → Option (List ARes)
  | [] => some []
  | .tmp t :: rs => match compRes rs with | none => none | some r => some (.tmp t :: r)
  | .cell a t :: rs => match isAggT P t, sizeT P t, compRes rs with
    | some true, some n, some r => some (.cell a true n :: r)
    | some false, some _, some r => some (.cell a false 1 :: r)
    | _, _, _ => none

noncomputable def compFn (fn : Func) : Option AFun :=
  match fn.body with
  | none => none
  | some c => match compCode P fn.ntmps c with
    | none => none
    | some b => match compRes P fn.results.toList with | none => none | some r => some ⟨b, r⟩

noncomputable def fnOf (f : Nat) : Option AFun := match P.funcs[f]? with | some fn => bif fn.name == "runtime.NumGoroutine" then none else compFn P fn | none => none
end
end Go.Ev
