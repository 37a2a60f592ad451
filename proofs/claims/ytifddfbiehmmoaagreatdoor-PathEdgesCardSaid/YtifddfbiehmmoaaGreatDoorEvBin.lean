/- Two operands: numbers, texts, truths, and what is held against nil. -/
import Derived.Test.YtifddfbiehmmoaaGreatDoorEvPure
namespace Go.Ev
open Go
set_option linter.unusedSimpArgs false

section
variable {P : Program} {ρ : Ren} {t : TM} {a : Act} {h h' : Heap} {v : Value}

/-- What 'binOp' makes of the two, behind its guard. -/
def RunsBin (P : Program) (op : BinOp) (s : TypeId) (X Y : Operand) (x y r : Value) : Prop := ∀ w, (do eqGuard op s X Y x y; binOp op s x y : Sem Value).run P w = .ok r w

theorem decide_le (a b : Int) : decide (a ≤ b) = !decide (b < a) := by rw [Bool.eq_iff_iff]; simp
theorem bin_int {op : BinOp} {j : IntKind} {n : Int} {y r : Value} (s : TypeId) (X Y : Operand) (hb : binInt op j n y = some r) : ∃ k m, y = .int k m ∧ plain r = true ∧ RunsBin P op s X Y (.int j n) y r := by
  obtain ⟨q, h1, h2⟩ := ob_some.1 hb
  rw [asInt_some] at h1; subst h1
  refine ⟨_, _, rfl, ?_⟩
  obtain ⟨k, m⟩ := q
  simp only at h2
  have ari : ∀ (op : BinOp), isShift op = false → isCmp op = false → oi (isShift op) (ob (shiftInt op j n m) fun n => some (Value.int j n)) (og (kindEq j k) (oi (isCmp op) (ob (cmpInt op n m) fun r => some (Value.bool r)) (ob (arithInt op j n m) fun n => some (Value.int j n)))) = some r →
      j = k ∧ ∃ i, arithInt op j n m = some i ∧ r = .int j i := by
    intro op e1 e2 hh
    rw [e1, e2] at hh
    obtain ⟨h3, h4⟩ := og_some.1 (show og (kindEq j k) (ob (arithInt op j n m) fun n => some (Value.int j n)) = some r from hh)
    obtain ⟨i, h5, h6⟩ := ob_some.1 h4
    cases h6
    exact ⟨kindEq_iff.1 h3, i, h5, rfl⟩
  have cmp : ∀ (op : BinOp) (b : Bool), isShift op = false → isCmp op = true → cmpInt op n m = some b → oi (isShift op) (ob (shiftInt op j n m) fun n => some (Value.int j n)) (og (kindEq j k) (oi (isCmp op) (ob (cmpInt op n m) fun r => some (Value.bool r)) (ob (arithInt op j n m) fun n => some (Value.int j n)))) = some r →
      j = k ∧ r = .bool b := by
    intro op b e1 e2 e3 hh
    rw [e1, e2, e3] at hh
    obtain ⟨h3, h4⟩ := og_some.1 (show og (kindEq j k) (ob (some b) fun r => some (Value.bool r)) = some r from hh)
    cases h4
    exact ⟨kindEq_iff.1 h3, rfl⟩
  have shf : ∀ (op : BinOp), isShift op = true → oi (isShift op) (ob (shiftInt op j n m) fun n => some (Value.int j n)) (og (kindEq j k) (oi (isCmp op) (ob (cmpInt op n m) fun r => some (Value.bool r)) (ob (arithInt op j n m) fun n => some (Value.int j n)))) = some r →
      ¬ m < 0 ∧ ∃ i, shiftOp op j n m = some i ∧ r = .int j i := by
    intro op e1 hh
    rw [e1] at hh
    obtain ⟨i, h5, h6⟩ := ob_some.1 (show ob (shiftInt op j n m) (fun n => some (Value.int j n)) = some r from hh)
    cases h6
    unfold shiftInt at h5
    rw [intLt_eq] at h5
    by_cases hm : m < 0
    · simp [hm] at h5
    · simp [hm] at h5; exact ⟨hm, i, h5, rfl⟩
  cases op with
  | add => obtain ⟨rfl, i, h3, rfl⟩ := ari .add rfl rfl h2; cases h3; exact ⟨rfl, fun w => by simp [eqGuard, binOp, Op.intArith, wrapI_eq, addI_eq]⟩
  | sub => obtain ⟨rfl, i, h3, rfl⟩ := ari .sub rfl rfl h2; cases h3; exact ⟨rfl, fun w => by simp [eqGuard, binOp, Op.intArith, wrapI_eq, subI_eq]⟩
  | mul => obtain ⟨rfl, i, h3, rfl⟩ := ari .mul rfl rfl h2; cases h3; exact ⟨rfl, fun w => by simp [eqGuard, binOp, Op.intArith, wrapI_eq]⟩
  | quo =>
    obtain ⟨rfl, i, h3, rfl⟩ := ari .quo rfl rfl h2
    have h3' : oi (intEq m 0) none (some (wrapI j (n.tdiv m))) = some i := h3
    cases hq : intEq m 0 with
    | true => rw [hq] at h3'; cases h3'
    | false =>
      have hm : m ≠ 0 := by rw [intEq_eq] at hq; simpa using hq
      rw [hq] at h3'; cases h3'
      exact ⟨rfl, fun w => by simp [eqGuard, binOp, Op.intDiv, hm, wrapI_eq]⟩
  | rem =>
    obtain ⟨rfl, i, h3, rfl⟩ := ari .rem rfl rfl h2
    have h3' : oi (intEq m 0) none (some (n.tmod m)) = some i := h3
    cases hq : intEq m 0 with
    | true => rw [hq] at h3'; cases h3'
    | false =>
      have hm : m ≠ 0 := by rw [intEq_eq] at hq; simpa using hq
      rw [hq] at h3'; cases h3'
      exact ⟨rfl, fun w => by simp [eqGuard, binOp, Op.intDiv, hm]⟩
  | and => obtain ⟨rfl, i, h3, rfl⟩ := ari .and rfl rfl h2; cases h3; exact ⟨rfl, fun w => by simp [eqGuard, binOp, Op.intBits]⟩
  | or => obtain ⟨rfl, i, h3, rfl⟩ := ari .or rfl rfl h2; cases h3; exact ⟨rfl, fun w => by simp [eqGuard, binOp, Op.intBits]⟩
  | xor => obtain ⟨rfl, i, h3, rfl⟩ := ari .xor rfl rfl h2; cases h3; exact ⟨rfl, fun w => by simp [eqGuard, binOp, Op.intBits]⟩
  | andNot => obtain ⟨rfl, i, h3, rfl⟩ := ari .andNot rfl rfl h2; cases h3; exact ⟨rfl, fun w => by simp [eqGuard, binOp, Op.intBits]⟩
  | shl => obtain ⟨hm, i, h3, rfl⟩ := shf .shl rfl h2; cases h3; exact ⟨rfl, fun w => by simp [eqGuard, binOp, Op.shift, hm]⟩
  | shr => obtain ⟨hm, i, h3, rfl⟩ := shf .shr rfl h2; cases h3; exact ⟨rfl, fun w => by simp [eqGuard, binOp, Op.shift, hm]⟩
  | eql => obtain ⟨rfl, rfl⟩ := cmp .eql _ rfl rfl rfl h2; exact ⟨rfl, fun w => by simp [eqGuard, binOp, Op.intCmp, intEq_eq]⟩
  | neq => obtain ⟨rfl, rfl⟩ := cmp .neq _ rfl rfl rfl h2; exact ⟨rfl, fun w => by simp [eqGuard, binOp, Op.intCmp, intEq_eq, notB_eq, bne]⟩
  | lss => obtain ⟨rfl, rfl⟩ := cmp .lss _ rfl rfl rfl h2; exact ⟨rfl, fun w => by simp [eqGuard, binOp, Op.intCmp, intLt_eq]⟩
  | leq => obtain ⟨rfl, rfl⟩ := cmp .leq _ rfl rfl rfl h2; exact ⟨rfl, fun w => by simp [eqGuard, binOp, Op.intCmp, intLt_eq, notB_eq, decide_le]⟩
  | gtr => obtain ⟨rfl, rfl⟩ := cmp .gtr _ rfl rfl rfl h2; exact ⟨rfl, fun w => by simp [eqGuard, binOp, Op.intCmp, intLt_eq]⟩
  | geq => obtain ⟨rfl, rfl⟩ := cmp .geq _ rfl rfl rfl h2; exact ⟨rfl, fun w => by simp [eqGuard, binOp, Op.intCmp, intLt_eq, notB_eq, decide_le]⟩

theorem ordEq_eq (x y : Option Ordering) : ordEq x y = (x == y) := by
  cases x with
  | none => cases y with | none => rfl | some y => cases y <;> rfl
  | some x => cases y with | none => cases x <;> rfl | some y => cases x <;> cases y <;> rfl

theorem bin_float {op : BinOp} {j : FloatKind} {n : Nat} {y r : Value} (s : TypeId) (X Y : Operand) (hb : binFloat op j n y = some r) : ∃ k m, y = .float k m ∧ plain r = true ∧ RunsBin P op s X Y (.float j n) y r := by
  obtain ⟨q, h1, h2⟩ := ob_some.1 hb
  rw [asFloat_some] at h1; subst h1
  refine ⟨_, _, rfl, ?_⟩
  obtain ⟨k, m⟩ := q
  simp only at h2
  obtain ⟨h3, h4⟩ := og_some.1 h2
  obtain rfl := fkindEq_iff.1 h3
  have ari : ∀ (op : BinOp), isCmp op = false → oi (isCmp op) (ob (cmpFloat op (j.format.order n m)) fun r => some (Value.bool r)) (ob (arithFloat op j n m) fun n => some (Value.float j n)) = some r →
      ∃ i, arithFloat op j n m = some i ∧ r = .float j i := by
    intro op e hh
    rw [e] at hh
    obtain ⟨i, h5, h6⟩ := ob_some.1 (show (ob (arithFloat op j n m) fun n => some (Value.float j n)) = some r from hh)
    cases h6
    exact ⟨i, h5, rfl⟩
  have cmp : ∀ (op : BinOp) (b : Bool), isCmp op = true → cmpFloat op (j.format.order n m) = some b → oi (isCmp op) (ob (cmpFloat op (j.format.order n m)) fun r => some (Value.bool r)) (ob (arithFloat op j n m) fun n => some (Value.float j n)) = some r →
      r = .bool b := by
    intro op b e e2 hh
    rw [e, e2] at hh
    cases hh
    rfl
  cases op with
  | add => obtain ⟨i, h5, rfl⟩ := ari .add rfl h4; have h5 : j.format.add n m = some i := h5; exact ⟨rfl, fun w => by simp [eqGuard, binOp, Op.floatArith, h5]⟩
  | sub => obtain ⟨i, h5, rfl⟩ := ari .sub rfl h4; have h5 : j.format.sub n m = some i := h5; exact ⟨rfl, fun w => by simp [eqGuard, binOp, Op.floatArith, h5]⟩
  | mul => obtain ⟨i, h5, rfl⟩ := ari .mul rfl h4; have h5 : j.format.mul n m = some i := h5; exact ⟨rfl, fun w => by simp [eqGuard, binOp, Op.floatArith, h5]⟩
  | quo => obtain ⟨i, h5, rfl⟩ := ari .quo rfl h4; have h5 : j.format.div n m = some i := h5; exact ⟨rfl, fun w => by simp [eqGuard, binOp, Op.floatArith, h5]⟩
  | eql => obtain rfl := cmp .eql _ rfl rfl h4; exact ⟨rfl, fun w => by simp [eqGuard, binOp, Op.floatCmp, ordEq_eq]⟩
  | neq => obtain rfl := cmp .neq _ rfl rfl h4; exact ⟨rfl, fun w => by simp [eqGuard, binOp, Op.floatCmp, ordEq_eq, bne]⟩
  | lss => obtain rfl := cmp .lss _ rfl rfl h4; exact ⟨rfl, fun w => by simp [eqGuard, binOp, Op.floatCmp, ordEq_eq]⟩
  | leq => obtain rfl := cmp .leq _ rfl rfl h4; exact ⟨rfl, fun w => by simp [eqGuard, binOp, Op.floatCmp, ordEq_eq]⟩
  | gtr => obtain rfl := cmp .gtr _ rfl rfl h4; exact ⟨rfl, fun w => by simp [eqGuard, binOp, Op.floatCmp, ordEq_eq]⟩
  | geq => obtain rfl := cmp .geq _ rfl rfl h4; exact ⟨rfl, fun w => by simp [eqGuard, binOp, Op.floatCmp, ordEq_eq]⟩
  | rem => obtain ⟨i, h5, rfl⟩ := ari .rem rfl h4; cases h5
  | and => obtain ⟨i, h5, rfl⟩ := ari .and rfl h4; cases h5
  | or => obtain ⟨i, h5, rfl⟩ := ari .or rfl h4; cases h5
  | xor => obtain ⟨i, h5, rfl⟩ := ari .xor rfl h4; cases h5
  | shl => obtain ⟨i, h5, rfl⟩ := ari .shl rfl h4; cases h5
  | shr => obtain ⟨i, h5, rfl⟩ := ari .shr rfl h4; cases h5
  | andNot => obtain ⟨i, h5, rfl⟩ := ari .andNot rfl h4; cases h5

theorem text_append (x y : ByteArray) : (⟨⟨x.data.toList ++ y.data.toList⟩⟩ : ByteArray) = x ++ y := by
  rw [ByteArray.ext_iff]; apply Array.ext'; simp [ByteArray.data_append]
theorem bin_text {op : BinOp} {n : ByteArray} {y r : Value} (s : TypeId) (X Y : Operand) (hb : binTextV op n y = some r) : ∃ m, y = .string m ∧ plain r = true ∧ RunsBin P op s X Y (.string n) y r := by
  obtain ⟨m, h1, h2⟩ := ob_some.1 hb
  rw [asText_some] at h1; subst h1
  refine ⟨_, rfl, ?_⟩
  cases op with
  | add =>
    have h2' : (bif Nat.ble (n.size + m.size) 1099511627776 then some (Value.string ⟨⟨n.data.toList ++ m.data.toList⟩⟩) else none) = some r := h2
    cases hle : Nat.ble (n.size + m.size) 1099511627776 with
    | false => simp [hle] at h2'
    | true =>
      simp [hle] at h2'
      have hle' := Nat.le_of_ble_eq_true hle
      subst h2'
      have hmx : ¬ ((n.size + m.size : Nat) : Int) > IntKind.i64.max := by
        have : IntKind.i64.max = 9223372036854775807 := rfl
        omega
      refine ⟨rfl, fun w => ?_⟩
      rw [text_append n m]
      simp only [eqGuard, binOp, Op.stringOp, if_neg hmx, Sem.run_bind]
      rfl
  | eql => cases h2; exact ⟨rfl, fun w => by simp [eqGuard, binOp, Op.stringOp, textEq_eq]⟩
  | neq => cases h2; exact ⟨rfl, fun w => by simp [eqGuard, binOp, Op.stringOp, textEq_eq]⟩
  | lss => cases h2; exact ⟨rfl, fun w => by simp [eqGuard, binOp, Op.stringOp, toList_data, bytesLt_eq]⟩
  | leq => cases h2; exact ⟨rfl, fun w => by simp [eqGuard, binOp, Op.stringOp, toList_data, bytesLt_eq, textEq_eq]⟩
  | gtr => cases h2; exact ⟨rfl, fun w => by simp [eqGuard, binOp, Op.stringOp, toList_data, bytesLt_eq, textEq_eq]⟩
  | geq => cases h2; exact ⟨rfl, fun w => by simp [eqGuard, binOp, Op.stringOp, toList_data, bytesLt_eq]⟩
  | _ => cases h2

theorem descNo_bool {d : TypeDesc} (h : descNo d = 1) : d = .bool := by cases d <;> first | rfl | cases h
theorem descNo_pointer {d : TypeDesc} (h : descNo d = 2) : ∃ e, d = .pointer e := by cases d <;> first | exact ⟨_, rfl⟩ | cases h
theorem descNo_slice {d : TypeDesc} (h : descNo d = 3) : ∃ e, d = .slice e := by cases d <;> first | exact ⟨_, rfl⟩ | cases h
theorem descNo_map {d : TypeDesc} (h : descNo d = 4) : ∃ k e, d = .map k e := by cases d <;> first | exact ⟨_, _, rfl⟩ | cases h

theorem asPtrO_some {v : Value} {p : Option Addr} : asPtrO v = some p ↔ v = .pointer p := by cases v <;> constructor <;> intro h <;> cases h <;> rfl
theorem asMapO_some {v : Value} {p : Option Nat} : asMapO v = some p ↔ v = .map p := by cases v <;> constructor <;> intro h <;> cases h <;> rfl

theorem isEql_some {op : BinOp} {e : Bool} (h : isEql op = some e) : (op = .eql ∧ e = true) ∨ (op = .neq ∧ e = false) := by
  cases op <;> first | (cases h; exact .inl ⟨rfl, rfl⟩) | (cases h; exact .inr ⟨rfl, rfl⟩) | cases h
theorem eqBool_eq (e r : Bool) : eqBool e r = .bool (if e then r else !r) := by cases e <;> cases r <;> rfl

def Calm (x : Value) : Prop := (∃ b, x = .bool b) ∨ (∃ p, x = .pointer p) ∨ (∃ A n c, x = .slice A n c) ∨ (∃ r, x = .map r)
theorem guard_calm {op : BinOp} {s : TypeId} {X Y : Operand} {x y : Value} (hx : Calm x) (w : World) : (eqGuard op s X Y x y).run P w = .ok () w := by
  rcases hx with ⟨b, rfl⟩ | ⟨p, rfl⟩ | ⟨A, n, c, rfl⟩ | ⟨r, rfl⟩ <;> cases op <;> rfl
theorem binOp_calm {op : BinOp} {e : Bool} {s : TypeId} {x y : Value} (ho : isEql op = some e) (hx : Calm x) (w : World) :
    (binOp op s x y).run P w = ((Op.equal s x y).run P w).andThen fun b w => .ok (.bool (if e then b else !b)) w := by
  rcases isEql_some ho with ⟨rfl, rfl⟩ | ⟨rfl, rfl⟩ <;> rcases hx with ⟨b, rfl⟩ | ⟨p, rfl⟩ | ⟨A, n, c, rfl⟩ | ⟨r, rfl⟩ <;> simp [binOp]
/-- An equality as the model takes it: where 'equal' answers r, '==' and '!=' answer by it. -/
theorem runs_eql {op : BinOp} {e r : Bool} {s : TypeId} {X Y : Operand} {x y : Value} (ho : isEql op = some e) (hx : Calm x) {w w' : World} (hq : (Op.equal s x y).run P w = .ok r w') :
    (do eqGuard op s X Y x y; binOp op s x y : Sem Value).run P w = .ok (eqBool e r) w' := by
  simp only [Sem.run_bind, guard_calm hx, Result.andThen_ok, binOp_calm ho hx, hq, eqBool_eq]

theorem equal_at (s : TypeId) (x y : Value) : Op.equal s x y = Op.equalIn (9999 + 1) s x y := rfl
theorem run_eq_bool {d : Nat} {s : TypeId} (hd : P.underlying s = some .bool) (a b : Bool) (w : World) : (Op.equalIn (d + 1) s (.bool a) (.bool b)).run P w = .ok (a == b) w := by
  simp only [Op.equalIn, Sem.run_bind, run_underlying hd, Result.andThen_ok]; rfl
theorem run_eq_nilS {d : Nat} {s e : TypeId} (hd : P.underlying s = some (.slice e)) (A : Option Addr) (n c m k : Nat) (w : World) : (Op.equalIn (d + 1) s (.slice none n c) (.slice A m k)).run P w = .ok (isNoneA A) w := by
  simp only [Op.equalIn, Sem.run_bind, run_underlying hd, Result.andThen_ok]; cases A <;> rfl
theorem run_eq_someS {d : Nat} {s e : TypeId} (hd : P.underlying s = some (.slice e)) (A : Addr) (n c m k : Nat) (w : World) : (Op.equalIn (d + 1) s (.slice (some A) n c) (.slice none m k)).run P w = .ok false w := by
  simp only [Op.equalIn, Sem.run_bind, run_underlying hd, Result.andThen_ok]; rfl
theorem run_eq_nilM {d : Nat} {s k e : TypeId} (hd : P.underlying s = some (.map k e)) (A : Option Nat) (w : World) : (Op.equalIn (d + 1) s (.map none) (.map A)).run P w = .ok (isNoneN A) w := by
  simp only [Op.equalIn, Sem.run_bind, run_underlying hd, Result.andThen_ok]; cases A <;> rfl
theorem run_eq_someM {d : Nat} {s k e : TypeId} (hd : P.underlying s = some (.map k e)) (A : Nat) (w : World) : (Op.equalIn (d + 1) s (.map (some A)) (.map none)).run P w = .ok false w := by
  simp only [Op.equalIn, Sem.run_bind, run_underlying hd, Result.andThen_ok]; rfl
theorem eqNil_some {a b r : Bool} (h : eqNil a b = some r) : (a = true ∧ r = b) ∨ (a = false ∧ b = true ∧ r = false) := by
  cases a <;> cases b <;> first | (cases h; simp) | cases h
theorem isNoneA_slice {A : Option Addr} {n c : Nat} {y : Value} (h : VR ρ (.slice A n c) y) : ∃ A' c', y = .slice A' n c' ∧ isNoneA A' = isNoneA A := by
  cases h with
  | snil => exact ⟨_, _, rfl, rfl⟩
  | slice => exact ⟨_, _, rfl, rfl⟩
  | slice0 => exact ⟨_, _, rfl, rfl⟩
theorem isNoneN_map {A : Option Nat} {y : Value} (h : VR ρ (.map A) y) : ∃ A', y = .map A' ∧ isNoneN A' = isNoneN A := by
  cases h with
  | mnil => exact ⟨_, rfl, rfl⟩
  | map => exact ⟨_, rfl, rfl⟩

/-- Two operands where no heap is looked at. -/
theorem bin_pure {op : BinOp} {s : TypeId} {D : TypeDesc} {X Y : Operand} {x y x' y' r : Value} (hd : P.underlying s = some D) (h2 : descNo D ≠ 2) (hx : VR ρ x x') (hy : VR ρ y y') (hb : bin h op (descNo D) x y = some r) :
    plain r = true ∧ RunsBin P op s X Y x' y' r := by
  have eqc : ∀ {z : Value}, ob (isEql op) (binEql h (descNo D) z y) = some r → ∃ e b, isEql op = some e ∧ eqNo (descNo D) h z y = some b ∧ r = eqBool e b := by
    intro z hh
    obtain ⟨e, g1, g2⟩ := ob_some.1 hh
    obtain ⟨b, g3, g4⟩ := ob_some.1 g2
    cases g4
    exact ⟨e, b, g1, g3, rfl⟩
  have pl : ∀ e b, plain (eqBool e b) = true := fun _ _ => rfl
  have other : ∀ {z z' : Value}, VR ρ z z' → ob (isEql op) (binEql h (descNo D) z y) = some r → plain r = true ∧ RunsBin P op s X Y z' y' r := by
    intro z z' hz hh
    obtain ⟨e, b, g1, g2, rfl⟩ := eqc hh
    refine ⟨rfl, fun w => ?_⟩
    have g2' : oi (Nat.beq (descNo D) 1) (eqB h z y) (oi (Nat.beq (descNo D) 2) (eqP h z y) (oi (Nat.beq (descNo D) 3) (eqS h z y) (oi (Nat.beq (descNo D) 4) (eqM h z y) none))) = some b := g2
    simp only [oi_eq, beq_eq] at g2'
    by_cases c1 : descNo D = 1
    · simp [c1] at g2'
      obtain ⟨b1, k1, k2⟩ := ob_some.1 (show (ob (asBool z) fun a => ob (asBool y) fun b => some (oi a b (notB b))) = some b from g2')
      obtain ⟨b2, k3, k4⟩ := ob_some.1 k2
      rw [asBool_some] at k1 k3; subst k1; subst k3
      cases k4
      obtain rfl := descNo_bool c1
      rw [hz.bool_inv, hy.bool_inv]
      refine runs_eql g1 (.inl ⟨_, rfl⟩) ?_
      rw [equal_at, run_eq_bool hd]
      cases b1 <;> cases b2 <;> rfl
    · by_cases c3 : descNo D = 3
      · simp [c3] at g2'
        obtain ⟨p, k1, k2⟩ := ob_some.1 (show (ob (asSlice z) fun a => ob (asSlice y) fun b => eqNil (isNoneA a.1) (isNoneA b.1)) = some b from g2')
        obtain ⟨q, k3, k4⟩ := ob_some.1 k2
        rw [asSlice_some] at k1 k3; subst k1; subst k3
        obtain ⟨E, rfl⟩ := descNo_slice c3
        obtain ⟨A, c, rfl, e1⟩ := isNoneA_slice hz
        obtain ⟨A', c', rfl, e2⟩ := isNoneA_slice hy
        refine runs_eql g1 (.inr (.inr (.inl ⟨_, _, _, rfl⟩))) ?_
        rw [← e1, ← e2] at k4
        rcases eqNil_some k4 with ⟨k5, rfl⟩ | ⟨k5, k6, rfl⟩
        · cases A with
          | none => rw [equal_at, run_eq_nilS hd]
          | some A => cases k5
        · cases A with
          | none => cases k5
          | some A => cases A' with
            | none => rw [equal_at, run_eq_someS hd]
            | some A' => cases k6
      · by_cases c4 : descNo D = 4
        · simp [c4] at g2'
          obtain ⟨p, k1, k2⟩ := ob_some.1 (show (ob (asMapO z) fun a => ob (asMapO y) fun b => eqNil (isNoneN a) (isNoneN b)) = some b from g2')
          obtain ⟨q, k3, k4⟩ := ob_some.1 k2
          rw [asMapO_some] at k1 k3; subst k1; subst k3
          obtain ⟨K, E, rfl⟩ := descNo_map c4
          obtain ⟨A, rfl, e1⟩ := isNoneN_map hz
          obtain ⟨A', rfl, e2⟩ := isNoneN_map hy
          refine runs_eql g1 (.inr (.inr (.inr ⟨_, rfl⟩))) ?_
          rw [← e1, ← e2] at k4
          rcases eqNil_some k4 with ⟨k5, rfl⟩ | ⟨k5, k6, rfl⟩
          · cases A with
            | none => rw [equal_at, run_eq_nilM hd]
            | some A => cases k5
          · cases A with
            | none => cases k5
            | some A => cases A' with
              | none => rw [equal_at, run_eq_someM hd]
              | some A' => cases k6
        · simp [c1, h2, c3, c4] at g2'
  cases x with
  | int j n =>
    obtain ⟨k, m, rfl, e1, e2⟩ := bin_int (P := P) s X Y (show binInt op j n y = some r from hb)
    rw [hx.int_inv, hy.int_inv]; exact ⟨e1, e2⟩
  | float j n =>
    obtain ⟨k, m, rfl, e1, e2⟩ := bin_float (P := P) s X Y (show binFloat op j n y = some r from hb)
    rw [hx.float_inv, hy.float_inv]; exact ⟨e1, e2⟩
  | string n =>
    obtain ⟨m, rfl, e1, e2⟩ := bin_text (P := P) s X Y (show binTextV op n y = some r from hb)
    rw [hx.string_inv, hy.string_inv]; exact ⟨e1, e2⟩
  | _ => exact other hx hb

theorem pure_bin {dst ty pos after guard} {op : BinOp} {s s2 : TypeId} {D : TypeDesc} {x y : Operand} (hd : P.underlying s = some D) (h2 : descNo D ≠ 2) (hx : ∀ v, opd t x = some v → VR ρ v (a.eval x)) (hy : ∀ v, opd t y = some v → VR ρ v (a.eval y))
    (he : oBin op (descNo D) x y t h = some (v, h')) : h' = h ∧ Pure0 P ρ a ⟨dst, .binOp op s x y s2, ty, pos, after, guard⟩ v := by
  obtain ⟨u, h3, h4⟩ := ob_some.1 he
  obtain ⟨u2, h5, h6⟩ := ob_some.1 h4
  obtain ⟨r, h7, h8⟩ := ob_some.1 h6
  cases h8
  obtain ⟨e1, e2⟩ := bin_pure (X := x) (Y := y) hd h2 (hx _ h3) (hy _ h5) h7
  refine ⟨rfl, _, plain_refl e1 ρ, fun w => ?_⟩
  have := e2 w
  simp only [execOp, Sem.run_bind] at this ⊢
  rw [this]; rfl
end
end Go.Ev
