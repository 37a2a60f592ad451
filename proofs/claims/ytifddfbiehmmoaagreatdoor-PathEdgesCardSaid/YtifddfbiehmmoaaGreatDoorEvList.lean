/- The evaluator's small functions, told in Lean's own words. -/
import Derived.Test.YtifddfbiehmmoaaGreatDoorEvRel
namespace Go.Ev
open Go
set_option linter.unusedSimpArgs false

theorem lenL_eq {α : Type} (l : List α) : lenL l = l.length := by
  induction l with
  | nil => rfl
  | cons v l ih => show Nat.succ (lenL l) = _; rw [ih]; rfl
theorem appL_eq (l m : List Value) : appL l m = l ++ m := by
  induction l with
  | nil => rfl
  | cons v l ih => show v :: appL l m = _; rw [ih]; rfl
theorem isNil_eq (l : List Value) : isNil l = l.isEmpty := by cases l <;> rfl
theorem only_some {l : List Value} {v : Value} : only l = some v ↔ l = [v] := by
  cases l with
  | nil => exact ⟨fun h => (by cases h), fun h => (by cases h)⟩
  | cons x r =>
    show og (isNil r) (some x) = some v ↔ _
    rw [og_some, isNil_eq]
    cases r <;> simp
theorem partL_some {agg : Bool} {n : Nat} {vs : List Value} {v : Value} (h : partL agg n vs = some v) : (agg = true ∧ v = .agg ⟨vs⟩) ∨ (agg = false ∧ vs = [v]) := by
  cases agg with
  | true => left; have h' : some (Value.agg ⟨vs⟩) = some v := h; cases h'; exact ⟨rfl, rfl⟩
  | false => right; exact ⟨rfl, only_some.1 h⟩
theorem takeN_succ_cons (n : Nat) (v : Value) (r : List Value) : takeN (n + 1) (v :: r) = ob (takeN n r) fun x => some (v :: x) := rfl
theorem takeN_some : ∀ {n : Nat} {l r : List Value}, takeN n l = some r → n ≤ l.length ∧ r = l.take n
  | 0, l, r, h => by cases h; simp
  | n + 1, [], r, h => by cases h
  | n + 1, v :: l, r, h => by
    rw [takeN_succ_cons] at h
    obtain ⟨x, h1, h2⟩ := ob_some.1 h
    cases h2
    obtain ⟨h3, h4⟩ := takeN_some h1
    subst h4
    exact ⟨by simpa using h3, rfl⟩
theorem dropN_eq : ∀ (n : Nat) (l : List Value), dropN n l = l.drop n
  | 0, _ => rfl
  | _ + 1, [] => rfl
  | n + 1, _ :: l => by show dropN n l = _; rw [dropN_eq n l]; rfl
theorem nthL_eq {α : Type} : ∀ (l : List α) (i : Nat), nthL l i = l[i]?
  | [], _ => rfl
  | _ :: _, 0 => rfl
  | _ :: l, i + 1 => by show nthL l i = _; rw [nthL_eq l i]; rfl
theorem overlay_some : ∀ {vs l r : List Value}, overlay l vs = some r → vs.length ≤ l.length ∧ r = vs ++ l.drop vs.length
  | [], l, r, h => by cases h; simp
  | v :: vs, [], r, h => by cases h
  | v :: vs, x :: l, r, h => by
    have h' : (ob (overlay l vs) fun y => some (v :: y)) = some r := h
    obtain ⟨y, h1, h2⟩ := ob_some.1 h'
    cases h2
    obtain ⟨h3, h4⟩ := overlay_some h1
    subst h4
    exact ⟨by simpa using h3, rfl⟩
theorem overlayAt_some : ∀ {n : Nat} {l vs r : List Value}, overlayAt n l vs = some r → n + vs.length ≤ l.length ∧ r = l.take n ++ vs ++ l.drop (n + vs.length)
  | 0, l, vs, r, h => by
    obtain ⟨h1, h2⟩ := overlay_some (show overlay l vs = some r from h)
    exact ⟨by omega, by simpa using h2⟩
  | n + 1, [], vs, r, h => by cases h
  | n + 1, x :: l, vs, r, h => by
    have h' : (ob (overlayAt n l vs) fun y => some (x :: y)) = some r := h
    obtain ⟨y, h1, h2⟩ := ob_some.1 h'
    cases h2
    obtain ⟨h3, h4⟩ := overlayAt_some h1
    subst h4
    refine ⟨by simp only [List.length_cons]; omega, ?_⟩
    rw [show n + 1 + vs.length = (n + vs.length) + 1 by omega]
    simp
theorem repeatL_eq (z : List Value) : ∀ n, repeatL z n = (List.replicate n z).flatten
  | 0 => rfl
  | n + 1 => by show appL z (repeatL z n) = _; rw [appL_eq, repeatL_eq z n, List.replicate_succ, List.flatten_cons]
theorem length_repeatL (z : List Value) (n : Nat) : (repeatL z n).length = n * z.length := by rw [repeatL_eq]; simp
theorem plains_repeatL {z : List Value} (h : plains z = true) (ρ : Ren) (n : Nat) : VRL ρ (repeatL z n) (repeatL z n) := by
  rw [repeatL_eq]
  induction n with
  | zero => exact .nil
  | succ n ih => rw [List.replicate_succ, List.flatten_cons]; exact (plains_refl h ρ).append ih

/-! ### Numbers. -/
theorem kindEq_iff {j k : IntKind} : kindEq j k = true ↔ j = k := by cases j <;> cases k <;> decide
theorem fkindEq_iff {j k : FloatKind} : fkindEq j k = true ↔ j = k := by cases j <;> cases k <;> decide
theorem beq_eq (a b : Nat) : Nat.beq a b = (a == b) := by rw [Bool.eq_iff_iff, beq_iff_eq, Nat.beq_eq]
theorem intEq_eq (a b : Int) : intEq a b = (a == b) := by
  cases a with
  | ofNat m =>
    cases b with
    | ofNat n => show Nat.beq m n = _; rw [beq_eq, Bool.eq_iff_iff, beq_iff_eq, beq_iff_eq]; constructor <;> intro h <;> first | (rw [h]) | (cases h; rfl)
    | negSucc n => show false = _; rw [eq_comm, beq_eq_false_iff_ne]; intro h; cases h
  | negSucc m =>
    cases b with
    | ofNat n => show false = _; rw [eq_comm, beq_eq_false_iff_ne]; intro h; cases h
    | negSucc n => show Nat.beq m n = _; rw [beq_eq, Bool.eq_iff_iff, beq_iff_eq, beq_iff_eq]; constructor <;> intro h <;> first | (rw [h]) | (cases h; rfl)
theorem intLt_eq (a b : Int) : intLt a b = decide (a < b) := by
  cases a with
  | ofNat m =>
    cases b with
    | ofNat n =>
      show Nat.ble (m + 1) n = _
      rw [Bool.eq_iff_iff, Nat.ble_eq, decide_eq_true_iff]
      show m + 1 ≤ n ↔ (m : Int) < (n : Int)
      omega
    | negSucc n =>
      show false = _
      rw [eq_comm, decide_eq_false_iff_not]
      show ¬ (m : Int) < Int.negSucc n
      omega
  | negSucc m =>
    cases b with
    | ofNat n =>
      show true = _
      rw [eq_comm, decide_eq_true_iff]
      show Int.negSucc m < (n : Int)
      omega
    | negSucc n =>
      show Nat.ble (n + 1) m = _
      rw [Bool.eq_iff_iff, Nat.ble_eq, decide_eq_true_iff]
      show n + 1 ≤ m ↔ Int.negSucc m < Int.negSucc n
      omega
theorem notB_eq (b : Bool) : notB b = !b := by cases b <;> rfl
theorem wrap_of_small (k : IntKind) (m : Nat) (h : m ≤ 127) : k.wrap (Int.ofNat m) = Int.ofNat m := by
  show k.wrap (m : Int) = (m : Int)
  cases k <;> simp only [IntKind.wrap, IntKind.bits, IntKind.signed] <;> simp <;> omega
theorem wrapI_eq (k : IntKind) (n : Int) : wrapI k n = k.wrap n := by
  cases n with
  | negSucc m => rfl
  | ofNat m =>
    show wrapNat k m = _
    unfold wrapNat
    cases h : Nat.ble m 127 with
    | true => exact (wrap_of_small k m (Nat.le_of_ble_eq_true h)).symm
    | false =>
      simp only [oi_false]
      cases k <;> try rfl
      · show oi (Nat.ble m 9223372036854775807) (Int.ofNat m) (IntKind.wrap .i64 (.ofNat m)) = _
        cases h2 : Nat.ble m 9223372036854775807 with
        | false => rfl
        | true =>
          have := Nat.le_of_ble_eq_true h2
          show (m : Int) = IntKind.wrap .i64 (m : Int)
          simp only [IntKind.wrap, IntKind.bits, IntKind.signed]
          simp
          omega
      · show oi (Nat.ble m 18446744073709551615) (Int.ofNat m) (IntKind.wrap .u64 (.ofNat m)) = _
        cases h2 : Nat.ble m 18446744073709551615 with
        | false => rfl
        | true =>
          have := Nat.le_of_ble_eq_true h2
          show (m : Int) = IntKind.wrap .u64 (m : Int)
          simp only [IntKind.wrap, IntKind.bits, IntKind.signed]
          simp
          omega
theorem addI_eq (a b : Int) : addI a b = a + b := by cases a <;> cases b <;> rfl
theorem subI_eq (a b : Int) : subI a b = a - b := by
  cases a with
  | negSucc m => rfl
  | ofNat m =>
    cases b with
    | negSucc n => rfl
    | ofNat n =>
      show oi (Nat.ble n m) (Int.ofNat (m - n)) (Int.negSucc (n - m - 1)) = (m : Int) - (n : Int)
      cases h : Nat.ble n m with
      | true => have := Nat.le_of_ble_eq_true h; show ((m - n : Nat) : Int) = _; omega
      | false =>
        have : ¬ n ≤ m := fun hh => by rw [Nat.ble_eq_true_of_le hh] at h; cases h
        show Int.negSucc (n - m - 1) = _
        omega
theorem natOf_some {n : Int} {m : Nat} : natOf n = some m ↔ n = (m : Int) := by
  cases n with
  | ofNat a => constructor <;> intro h <;> cases h <;> rfl
  | negSucc a => constructor <;> intro h <;> cases h

/-! ### Texts. -/
theorem bytesEq_eq : ∀ (a b : List UInt8), bytesEq a b = (a == b)
  | [], [] => rfl
  | [], _ :: _ => rfl
  | _ :: _, [] => rfl
  | x :: a, y :: b => by
    show oi (Nat.beq x.toNat y.toNat) (bytesEq a b) false = ((x :: a) == (y :: b))
    rw [bytesEq_eq a b, List.cons_beq_cons, oi_eq, beq_eq]
    have : (x.toNat == y.toNat) = (x == y) := by rw [Bool.eq_iff_iff, beq_iff_eq, beq_iff_eq]; exact UInt8.toNat_inj
    rw [this]
    cases x == y <;> simp
theorem loop_eq (s : ByteArray) : ∀ (n i : Nat) (r : List UInt8), s.size - i = n → ByteArray.toList.loop s i r = r.reverse ++ s.data.toList.drop i := by
  intro n
  induction n with
  | zero =>
    intro i r h
    rw [ByteArray.toList.loop]
    have : ¬ i < s.size := by omega
    rw [if_neg this]
    have : s.data.toList.length ≤ i := by have : s.size = s.data.toList.length := rfl
                                          omega
    rw [List.drop_eq_nil_of_le this]; simp
  | succ n ih =>
    intro i r h
    rw [ByteArray.toList.loop]
    have hi : i < s.size := by omega
    rw [if_pos hi, ih (i + 1) _ (by omega)]
    have hl : i < s.data.toList.length := by have : s.size = s.data.toList.length := rfl
                                             omega
    rw [List.drop_eq_getElem_cons hl, List.reverse_cons, List.append_assoc]
    congr 1
    have : i < s.data.size := by simpa using hl
    show s.data[i]! :: _ = s.data.toList[i] :: _
    rw [getElem!_pos s.data i this]
    rfl
theorem toList_data (s : ByteArray) : s.toList = s.data.toList := by
  unfold ByteArray.toList; rw [loop_eq s _ 0 [] rfl]; simp
theorem textEq_eq (a b : ByteArray) : textEq a b = (a.toList == b.toList) := by
  unfold textEq; rw [bytesEq_eq, toList_data, toList_data]
theorem textEq_iff {a b : ByteArray} : textEq a b = true ↔ a = b := by
  unfold textEq
  rw [bytesEq_eq, beq_iff_eq]
  constructor
  · intro h; cases a; cases b; simp only [ByteArray.mk.injEq]; exact Array.ext' h
  · intro h; rw [h]
theorem bytesLt_eq : ∀ (a b : List UInt8), bytesLt a b = Op.bytesLess a b
  | [], [] => rfl
  | _ :: _, [] => rfl
  | [], _ :: _ => rfl
  | x :: a, y :: b => by
    show (bif Nat.ble (x.toNat + 1) y.toNat then true else bif Nat.beq x.toNat y.toNat then bytesLt a b else false) = (decide (x < y) || (x == y && Op.bytesLess a b))
    rw [bytesLt_eq a b, beq_eq]
    have h1 : (x.toNat == y.toNat) = (x == y) := by rw [Bool.eq_iff_iff, beq_iff_eq, beq_iff_eq]; exact UInt8.toNat_inj
    have h2 : Nat.ble (x.toNat + 1) y.toNat = decide (x < y) := by rw [Bool.eq_iff_iff, Nat.ble_eq, decide_eq_true_iff]; exact UInt8.lt_iff_toNat_lt.symm
    rw [h1, h2]
    cases decide (x < y) <;> cases x == y <;> rfl
theorem bytesVals_eq : ∀ (l : List UInt8), bytesVals l = l.map fun b => Value.int .u8 b.toNat
  | [] => rfl
  | b :: l => by show _ :: bytesVals l = _; rw [bytesVals_eq l]; rfl

/-! ### Eliminations. -/
theorem asPtr_some {v : Value} {p : Nat × Nat} : asPtr v = some p ↔ v = .pointer (some ⟨p.1, p.2, none⟩) := by
  cases v with
  | pointer a =>
    cases a with
    | none => constructor <;> intro h <;> cases h
    | some a =>
      obtain ⟨b, o, s⟩ := a
      cases s with
      | none => constructor <;> intro h <;> cases h <;> rfl
      | some s => constructor <;> intro h <;> cases h
  | _ => constructor <;> intro h <;> cases h
theorem ptrAt_some {a : Option Addr} {p : Nat × Nat} : ptrAt a = some p ↔ a = some ⟨p.1, p.2, none⟩ := by
  cases a with
  | none => constructor <;> intro h <;> cases h
  | some a =>
    obtain ⟨b, o, s⟩ := a
    cases s with
    | none => constructor <;> intro h <;> cases h <;> rfl
    | some s => constructor <;> intro h <;> cases h
theorem asBool_some {v : Value} {b : Bool} : asBool v = some b ↔ v = .bool b := by cases v <;> constructor <;> intro h <;> cases h <;> rfl
theorem asInt_some {v : Value} {p : IntKind × Int} : asInt v = some p ↔ v = .int p.1 p.2 := by cases v <;> constructor <;> intro h <;> cases h <;> rfl
theorem asFloat_some {v : Value} {p : FloatKind × Nat} : asFloat v = some p ↔ v = .float p.1 p.2 := by cases v <;> constructor <;> intro h <;> cases h <;> rfl
theorem asText_some {v : Value} {s : ByteArray} : asText v = some s ↔ v = .string s := by cases v <;> constructor <;> intro h <;> cases h <;> rfl
theorem asAgg_some {v : Value} {l : List Value} : asAgg v = some l ↔ v = .agg ⟨l⟩ := by cases v <;> constructor <;> intro h <;> cases h <;> rfl
theorem asTuple_some {v : Value} {l : List Value} : asTuple v = some l ↔ v = .tuple ⟨l⟩ := by cases v <;> constructor <;> intro h <;> cases h <;> rfl
theorem asMap_some {v : Value} {r : Nat} : asMap v = some r ↔ v = .map (some r) := by cases v <;> constructor <;> intro h <;> cases h <;> rfl
theorem asSlice_some {v : Value} {p : Option Addr × Nat × Nat} : asSlice v = some p ↔ v = .slice p.1 p.2.1 p.2.2 := by cases v <;> constructor <;> intro h <;> cases h <;> rfl
theorem asFunc_some {v : Value} {p : Nat × List Value × List Value} (h : asFunc v = some p) :
    (∃ f, v = .func (.func f) ⟨p.2.1⟩ ⟨p.2.2⟩ ∧ p.1 = 2 * f) ∨ ∃ l, v = .func (.yield l) ⟨p.2.1⟩ ⟨p.2.2⟩ ∧ p.1 = 2 * l + 1 := by
  cases v with
  | func fn a b =>
    cases fn with
    | func f => cases h; exact .inl ⟨f, rfl, rfl⟩
    | yield l => cases h; exact .inr ⟨l, rfl, rfl⟩
    | _ => cases h
  | _ => cases h
theorem idx_some {v : Value} {n : Nat} : idx v = some n ↔ ∃ k, v = .int k (n : Int) := by
  unfold idx
  rw [ob_some]
  constructor
  · rintro ⟨p, h1, h2⟩; rw [asInt_some] at h1; rw [natOf_some] at h2; rw [h2] at h1; exact ⟨_, h1⟩
  · rintro ⟨k, rfl⟩; exact ⟨(k, (n : Int)), rfl, natOf_some.2 rfl⟩
end Go.Ev
