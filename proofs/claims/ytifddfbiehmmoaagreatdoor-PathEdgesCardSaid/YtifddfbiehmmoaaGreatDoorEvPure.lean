/- Operations that touch no heap: what the evaluator says is what the model does. -/
import Derived.Test.YtifddfbiehmmoaaGreatDoorEvList
import Derived.Laws.Entries
import Derived.ChangeKeysEq
namespace Go.Ev
open Go
set_option linter.unusedSimpArgs false

def Knows (ρ : Ren) (t : TM) (a : Act) (o : Oper) : Prop := ∀ x v, x ∈ o.op.operands → opd t x = some v → VR ρ v (a.eval x)
def Pure0 (P : Program) (ρ : Ren) (a : Act) (o : Oper) (v : Value) : Prop := ∃ v', VR ρ v v' ∧ ∀ w, (execOp a.eval o).run P w = .ok (.value v') w

section
variable {P : Program} {ρ : Ren} {t : TM} {a : Act} {h h' : Heap} {v : Value}

theorem VR.ptr_inv {b o : Nat} {v' : Value} (h : VR ρ (.pointer (some ⟨b, o, none⟩)) v') : ∃ L, ρ b = some L ∧ v' = .pointer (some ⟨L.blk, L.base + o, none⟩) := by
  cases h with | ptr h => exact ⟨_, h, rfl⟩
theorem VR.agg_inv {l : List Value} {v' : Value} (h : VR ρ (.agg ⟨l⟩) v') : ∃ l', VRL ρ l l' ∧ v' = .agg ⟨l'⟩ := by cases h with | agg h => exact ⟨_, h, rfl⟩
theorem VR.tuple_inv {l : List Value} {v' : Value} (h : VR ρ (.tuple ⟨l⟩) v') : ∃ l', VRL ρ l l' ∧ v' = .tuple ⟨l'⟩ := by cases h with | tuple h => exact ⟨_, h, rfl⟩
theorem VR.int_inv {k : IntKind} {n : Int} {v' : Value} (h : VR ρ (.int k n) v') : v' = .int k n := by cases h; rfl
theorem VR.bool_inv {b : Bool} {v' : Value} (h : VR ρ (.bool b) v') : v' = .bool b := by cases h; rfl
theorem VR.string_inv {s : ByteArray} {v' : Value} (h : VR ρ (.string s) v') : v' = .string s := by cases h; rfl
theorem VR.float_inv {k : FloatKind} {n : Nat} {v' : Value} (h : VR ρ (.float k n) v') : v' = .float k n := by cases h; rfl

theorem addr_add (b o n : Nat) : (⟨b, o, none⟩ : Addr).add n = ⟨b, o + n, none⟩ := by unfold Addr.add; split <;> simp_all

/-! ### What the compiler found. -/
theorem isAggT_spec {ty : TypeId} {g : Bool} (hg : isAggT P ty = some g) (w : World) : (isAgg ty).run P w = .ok g w := by
  unfold isAggT at hg
  cases hu : P.underlying ty with
  | none => simp [hu] at hg
  | some d =>
    simp only [isAgg, Sem.run_bind, run_underlying hu, Result.andThen_ok]
    rw [hu] at hg
    cases d <;> simp at hg <;> subst hg <;> rfl
theorem sizeT_spec {ty : TypeId} {n : Nat} (hn : sizeT P ty = some n) : ∃ i, P.info? ty = some i ∧ i.size = n := by
  unfold sizeT at hn
  cases hi : P.info? ty with
  | none => simp [hi] at hn
  | some i => simp [hi] at hn; exact ⟨i, rfl, hn⟩
theorem run_sizeT {ty : TypeId} {n : Nat} (hn : sizeT P ty = some n) (w : World) : (sizeOf ty).run P w = .ok n w := by
  obtain ⟨i, hi, rfl⟩ := sizeT_spec hn
  simp [sizeOf, run_typeInfo, hi]
theorem bytesT_spec {ty : TypeId} {n : Nat} (hn : bytesT P ty = some n) : ∃ i, P.info? ty = some i ∧ i.bytes = n := by
  unfold bytesT at hn
  cases hi : P.info? ty with
  | none => simp [hi] at hn
  | some i => simp [hi] at hn; exact ⟨i, rfl, hn⟩
theorem run_zeroT {ty : TypeId} {z : Value} (hz : zeroT P ty = some z) (w : World) : (zeroValue ty).run P w = .ok z w := by
  unfold zeroT at hz
  cases hi : P.info? ty with
  | none => simp [hi] at hz
  | some i => simp [hi] at hz; simp [zeroValue, run_typeInfo, hi, hz]
theorem cells_toList (z : Value) : z.cells.toList = cellsL z := by cases z <;> first | rfl
theorem zerosT_spec {ty : TypeId} {z : List Value} (hz : zerosT P ty = some z) : ∃ u, zeroT P ty = some u ∧ u.cells = ⟨z⟩ := by
  unfold zerosT at hz
  cases hu : zeroT P ty with
  | none => simp [hu] at hz
  | some u => simp [hu] at hz; exact ⟨u, rfl, by rw [← hz, ← cells_toList]⟩
theorem fieldsT_spec {ty : TypeId} {fs : Array Field} (hf : fieldsT P ty = some fs) : P.underlying ty = some (.struct fs) := by
  unfold fieldsT at hf
  split at hf
  · rename_i fs' hu; cases hf; exact hu
  · cases hf

/-- The part of a row that an evaluator takes is the one that the model takes. -/
theorem run_part {ty : TypeId} {g : Bool} {n off : Nat} {l l' vs : List Value} {u : Value} (hg : isAggT P ty = some g) (hn : sizeT P ty = some n) (hl : VRL ρ l l')
    (ht : takeN (if g then n else 1) (dropN off l) = some vs) (hp : partL g (if g then n else 1) vs = some u) :
    ∃ u', VR ρ u u' ∧ ∀ w, (part ty ⟨l'⟩ off).run P w = .ok u' w := by
  obtain ⟨hlen, rfl⟩ := takeN_some ht
  rw [dropN_eq] at *
  have hlen' := hl.length
  rcases partL_some hp with ⟨rfl, rfl⟩ | ⟨rfl, hv⟩
  · refine ⟨_, .agg ((hl.drop off).take n), fun w => ?_⟩
    simp only [part, Sem.run_bind, isAggT_spec hg, Result.andThen_ok, if_true, run_sizeT hn, Sem.run_pure]
    congr 2
    apply Array.ext'
    simp [List.extract_eq_take_drop]
  · simp at hv hlen
    have h0 : l[off]? = some u := by
      have := congrArg (fun x : List Value => x[0]?) hv
      simpa [List.getElem?_take, List.getElem?_drop] using this
    obtain ⟨u', h1, h2⟩ := hl.get off u h0
    refine ⟨u', h2, fun w => ?_⟩
    simp only [part, Sem.run_bind, isAggT_spec hg, Result.andThen_ok]
    have : (⟨l'⟩ : Array Value)[off]? = some u' := by simpa using h1
    simp [this]

/-! ### One by one. -/
theorem pure_move {dst ty pos after guard} {x : Operand} (hT : ∀ v, opd t x = some v → VR ρ v (a.eval x)) (he : oMove x t h = some (v, h')) (op : Op) (ho : op = .move x ∨ op = .assign x) :
    h' = h ∧ Pure0 P ρ a ⟨dst, op, ty, pos, after, guard⟩ v := by
  obtain ⟨u, h1, h2⟩ := ob_some.1 he
  cases h2
  exact ⟨rfl, _, hT _ h1, fun w => by rcases ho with rfl | rfl <;> rfl⟩

theorem pure_pick {dst ty pos after guard} {c x y : Operand} (hc : ∀ v, opd t c = some v → VR ρ v (a.eval c)) (hx : ∀ v, opd t x = some v → VR ρ v (a.eval x)) (hy : ∀ v, opd t y = some v → VR ρ v (a.eval y))
    (he : oPick c x y t h = some (v, h')) : h' = h ∧ Pure0 P ρ a ⟨dst, .pick c x y, ty, pos, after, guard⟩ v := by
  obtain ⟨u, h1, h2⟩ := ob_some.1 he
  obtain ⟨b, h3, h4⟩ := ob_some.1 h2
  rw [asBool_some] at h3; subst h3
  have hb := (hc _ h1).bool_inv
  cases b with
  | true =>
    obtain ⟨u, h5, h6⟩ := ob_some.1 (show oMove x t h = some (v, h') from h4)
    cases h6
    exact ⟨rfl, _, hx _ h5, fun w => by simp [execOp, hb, Go.asBool]⟩
  | false =>
    obtain ⟨u, h5, h6⟩ := ob_some.1 (show oMove y t h = some (v, h') from h4)
    cases h6
    exact ⟨rfl, _, hy _ h5, fun w => by simp [execOp, hb, Go.asBool]⟩

theorem VR.func_inv {fn : Fn} {b c : Array Value} {v' : Value} (h : VR ρ (.func fn b c) v') : (∃ b' c', v' = .func fn b' c') ∨ ∃ l b' c', v' = .func (.yield l) b' c' := by
  cases h with
  | func _ _ _ => exact .inl ⟨_, _, rfl⟩
  | yield _ => exact .inr ⟨_, _, _, rfl⟩
theorem VR.psome_inv {p : Addr} {v' : Value} (h : VR ρ (.pointer (some p)) v') : ∃ q, v' = .pointer (some q) := by cases h with | ptr _ => exact ⟨_, rfl⟩
theorem pure_nilCheck {dst ty pos after guard} {x : Operand} (hT : ∀ v, opd t x = some v → VR ρ v (a.eval x)) (he : oNilCheck x t h = some (v, h')) :
    h' = h ∧ Pure0 P ρ a ⟨dst, .nilCheck x, ty, pos, after, guard⟩ v := by
  obtain ⟨u, h1, h2⟩ := ob_some.1 he
  have hv := hT _ h1
  cases u with
  | pointer p =>
    cases p with
    | none => cases h2
    | some p =>
      cases h2
      obtain ⟨q, hq⟩ := hv.psome_inv
      exact ⟨rfl, _, hv, fun w => by simp [execOp, hq]⟩
  | func fn b c =>
    obtain ⟨g, h3, h4⟩ := ob_some.1 (show ob (funcOf fn b.toList c.toList) (fun _ => some (Value.func fn b c, h)) = some (v, h') from h2)
    cases h4
    refine ⟨rfl, _, hv, fun w => ?_⟩
    rcases hv.func_inv with ⟨b', c', hq⟩ | ⟨l, b', c', hq⟩
    · cases fn with
      | func f => simp [execOp, hq]
      | yield f => simp [execOp, hq]
      | _ => cases h3
    · simp [execOp, hq]
  | _ => cases h2

theorem pure_fieldAddr {dst ty pos after guard} {s : TypeId} {x : Operand} {i n : Nat} {fs : Array Field} {f : Field} (hf : fieldsT P s = some fs) (hi : fs.toList[i]? = some f)
    (hn : sizeT P f.type = some n) (hn1 : 1 ≤ n) (hT : ∀ v, opd t x = some v → VR ρ v (a.eval x)) (he : oFieldAddr f.offset x t h = some (v, h')) :
    h' = h ∧ Pure0 P ρ a ⟨dst, .fieldAddr s x i, ty, pos, after, guard⟩ v := by
  obtain ⟨u, h1, h2⟩ := ob_some.1 he
  obtain ⟨p, h3, h4⟩ := ob_some.1 h2
  rw [asPtr_some] at h3; subst h3
  cases h4
  obtain ⟨L, hL, hx⟩ := (hT _ h1).ptr_inv
  refine ⟨rfl, _, .ptr hL, fun w => ?_⟩
  have hi' : fs[i]? = some f := by simpa using hi
  have h0 : ¬ n = 0 := by omega
  simp [execOp, Instr.fieldAt, run_underlying (fieldsT_spec hf), hi', Instr.sureAddr, hx, fieldPlace, run_sizeT hn, h0, addr_add, Nat.add_assoc]

theorem pure_field {dst ty pos after guard} {s : TypeId} {x : Operand} {i n : Nat} {g : Bool} {fs : Array Field} {f : Field} (hf : fieldsT P s = some fs) (hi : fs.toList[i]? = some f)
    (hg : isAggT P f.type = some g) (hn : sizeT P f.type = some n) (hT : ∀ v, opd t x = some v → VR ρ v (a.eval x)) (he : oField f.offset g (if g then n else 1) x t h = some (v, h')) :
    h' = h ∧ Pure0 P ρ a ⟨dst, .field s x i, ty, pos, after, guard⟩ v := by
  obtain ⟨u, h1, h2⟩ := ob_some.1 he
  obtain ⟨l, h3, h4⟩ := ob_some.1 h2
  obtain ⟨vs, h5, h6⟩ := ob_some.1 h4
  obtain ⟨u1, h7, h8⟩ := ob_some.1 h6
  rw [asAgg_some] at h3; subst h3
  cases h8
  obtain ⟨l', hl, hx⟩ := (hT _ h1).agg_inv
  have hi' : fs[i]? = some f := by simpa using hi
  obtain ⟨u', hu, hr⟩ := run_part hg hn hl h5 h7
  exact ⟨rfl, u', hu, fun w => by simp [execOp, Instr.field, run_underlying (fieldsT_spec hf), hi', Go.asAgg, hx, hr]⟩

theorem pure_un {dst ty pos after guard} {op : UnOp} {s : TypeId} {x : Operand} (hT : ∀ v, opd t x = some v → VR ρ v (a.eval x)) (he : oUn op x t h = some (v, h')) :
    h' = h ∧ Pure0 P ρ a ⟨dst, .unOp op s x, ty, pos, after, guard⟩ v := by
  obtain ⟨u, h1, h2⟩ := ob_some.1 he
  obtain ⟨r, h3, h4⟩ := ob_some.1 h2
  cases h4
  have hv := hT _ h1
  unfold un at h3
  split at h3
  · cases h3
    exact ⟨rfl, _, .int _ _, fun w => by simp [execOp, hv.int_inv, Op.unary, Op.intArith]⟩
  · rename_i k n
    cases hx : arithInt .xor k (if k.signed then -1 else k.max) n with
    | none => simp [hx] at h3
    | some q =>
      simp [hx] at h3
      subst h3
      have hx' : some (k.wrap ((BitVec.ofInt k.bits (if k.signed then -1 else k.max) ^^^ BitVec.ofInt k.bits n).toNat : Nat)) = some q := hx
      cases hx'
      exact ⟨rfl, _, .int _ _, fun w => by simp [execOp, hv.int_inv, Op.unary, Op.intBits]⟩
  · cases h3
    exact ⟨rfl, _, .float _ _, fun w => by simp [execOp, hv.float_inv, Op.unary]⟩
  · cases h3
    exact ⟨rfl, _, .bool _, fun w => by simp [execOp, hv.bool_inv, Op.unary]⟩
  · cases h3

theorem pure_toInt {dst ty pos after guard} {s d : TypeId} {k : IntKind} {x : Operand} (hs : (∃ j, P.underlying s = some (.int j)) ∨ (∃ j, P.underlying s = some (.float j))) (hd : P.underlying d = some (.int k))
    (hT : ∀ v, opd t x = some v → VR ρ v (a.eval x)) (he : oToInt k x t h = some (v, h')) :
    h' = h ∧ Pure0 P ρ a ⟨dst, .convert s d x, ty, pos, after, guard⟩ v := by
  obtain ⟨u, h1, h2⟩ := ob_some.1 he
  obtain ⟨r, h3, h4⟩ := ob_some.1 h2
  cases h4
  have hv := hT _ h1
  unfold toInt at h3
  split at h3
  · cases h3
    refine ⟨rfl, _, .int _ _, fun w => ?_⟩
    rcases hs with ⟨j, hs⟩ | ⟨j, hs⟩ <;> simp [execOp, hv.int_inv, convert, run_underlying hs, run_underlying hd, Conv.intToInt]
  · rename_i j b
    cases hx : (j.decode b).toInt .zero with
    | none => simp [hx] at h3
    | some q =>
      simp only [hx] at h3
      have h3' : (bif intLt q k.min then none else bif intLt k.max q then none else some (Value.int k q)) = some v := h3
      rw [intLt_eq, intLt_eq] at h3'
      by_cases c1 : q < k.min
      · simp [c1] at h3'
      · by_cases c2 : k.max < q
        · simp [c1, c2] at h3'
        · simp [c1, c2] at h3'
          subst h3'
          refine ⟨rfl, _, .int _ _, fun w => ?_⟩
          have c3 : k.min ≤ q ∧ q ≤ k.max := ⟨by omega, by omega⟩
          rcases hs with ⟨j', hs⟩ | ⟨j', hs⟩ <;> simp [execOp, hv.float_inv, convert, run_underlying hs, run_underlying hd, Conv.floatToInt, hx, c3]
  · cases h3

theorem pure_toFloat {dst ty pos after guard} {s d : TypeId} {k : FloatKind} {x : Operand} (hs : (∃ j, P.underlying s = some (.int j)) ∨ (∃ j, P.underlying s = some (.float j))) (hd : P.underlying d = some (.float k))
    (hsame : ∀ (b : Nat) w, (Conv.floatToFloat k b k).run P w = .ok (.float k b) w) (hT : ∀ v, opd t x = some v → VR ρ v (a.eval x)) (he : oToFloat k x t h = some (v, h')) :
    h' = h ∧ Pure0 P ρ a ⟨dst, .convert s d x, ty, pos, after, guard⟩ v := by
  obtain ⟨u, h1, h2⟩ := ob_some.1 he
  obtain ⟨r, h3, h4⟩ := ob_some.1 h2
  cases h4
  have hv := hT _ h1
  unfold toFloat at h3
  split at h3
  · cases h3
    refine ⟨rfl, _, .float _ _, fun w => ?_⟩
    rcases hs with ⟨j, hs⟩ | ⟨j, hs⟩ <;> simp [execOp, hv.int_inv, convert, run_underlying hs, run_underlying hd, Conv.intToFloat]
  · rename_i j b
    cases hj : fkindEq j k with
    | false => simp [hj] at h3
    | true =>
      simp [hj] at h3
      subst h3
      obtain rfl := fkindEq_iff.1 hj
      refine ⟨rfl, _, .float _ _, fun w => ?_⟩
      rcases hs with ⟨j', hs⟩ | ⟨j', hs⟩ <;> simp [execOp, hv.float_inv, convert, run_underlying hs, run_underlying hd, hsame]
  · cases h3

theorem pure_same {dst ty pos after guard} {s d : TypeId} {x : Operand} (hs : P.underlying s = some .string) (hd : P.underlying d = some .string)
    (hT : ∀ v, opd t x = some v → VR ρ v (a.eval x)) (he : oSame x t h = some (v, h')) :
    h' = h ∧ Pure0 P ρ a ⟨dst, .convert s d x, ty, pos, after, guard⟩ v := by
  obtain ⟨u, h1, h2⟩ := ob_some.1 he
  obtain ⟨r, h3, h4⟩ := ob_some.1 h2
  rw [asText_some] at h3; subst h3
  cases h4
  exact ⟨rfl, _, .string _, fun w => by simp [execOp, (hT _ h1).string_inv, convert, run_underlying hs, run_underlying hd]⟩

theorem opds_some : ∀ {xs : List Operand} {vs : List Value}, opds t xs = some vs → (∀ x ∈ xs, ∀ v, opd t x = some v → VR ρ v (a.eval x)) → VRL ρ vs (xs.map a.eval)
  | [], vs, h, _ => by cases h; exact .nil
  | x :: xs, vs, h, hT => by
    have h' : (ob (opd t x) fun v => ob (opds t xs) fun vs => some (v :: vs)) = some vs := h
    obtain ⟨v, h1, h2⟩ := ob_some.1 h'
    obtain ⟨us, h3, h4⟩ := ob_some.1 h2
    cases h4
    exact .cons (hT x (by simp) v h1) (opds_some h3 fun y hy => hT y (by simp [hy]))

theorem pure_makeFunc {dst ty pos after guard} {fn : Fn} {f c : Array Operand} (hn : ∀ l, fn ≠ .yield l) (hf : ∀ x ∈ f.toList, ∀ v, opd t x = some v → VR ρ v (a.eval x)) (hc : ∀ x ∈ c.toList, ∀ v, opd t x = some v → VR ρ v (a.eval x))
    (he : oMakeFunc fn f.toList c.toList t h = some (v, h')) : h' = h ∧ Pure0 P ρ a ⟨dst, .makeFunc fn f c, ty, pos, after, guard⟩ v := by
  obtain ⟨u, h1, h2⟩ := ob_some.1 he
  obtain ⟨r, h3, h4⟩ := ob_some.1 h2
  cases h4
  refine ⟨rfl, _, .func hn (opds_some h1 hf) (opds_some h3 hc), fun w => ?_⟩
  simp only [execOp, Instr.makeFunc, Sem.run_bind, Sem.run_pure, Result.andThen_ok]
  congr 3 <;> (apply Array.ext'; simp)

theorem pure_extract {dst ty pos after guard} {x : Operand} {i : Nat} (hT : ∀ v, opd t x = some v → VR ρ v (a.eval x)) (he : oExtract x i t h = some (v, h')) :
    h' = h ∧ Pure0 P ρ a ⟨dst, .extract x i, ty, pos, after, guard⟩ v := by
  obtain ⟨u, h1, h2⟩ := ob_some.1 he
  obtain ⟨l, h3, h4⟩ := ob_some.1 h2
  obtain ⟨r, h5, h6⟩ := ob_some.1 h4
  rw [asTuple_some] at h3; subst h3
  cases h6
  rw [nthL_eq] at h5
  obtain ⟨l', hl, hx⟩ := (hT _ h1).tuple_inv
  obtain ⟨u', h7, h8⟩ := hl.get i _ h5
  refine ⟨rfl, u', h8, fun w => ?_⟩
  have h7' : (⟨l'⟩ : Array Value)[i]? = some u' := by simpa using h7
  simp only [execOp, hx, Instr.extract, Sem.run_bind]
  rw [h7']; rfl

theorem VR.slice_inv {A : Option Addr} {n c : Nat} {v' : Value} (h : VR ρ (.slice A n c) v') : ∃ A' c', v' = .slice A' n c' := by
  cases h with
  | snil => exact ⟨_, _, rfl⟩
  | slice => exact ⟨_, _, rfl⟩
  | slice0 => exact ⟨_, _, rfl⟩

theorem pure_lenText {dst ty pos after guard} {x : Operand} {s : TypeId} {ats : Array TypeId} (hs : ats[0]? = some s) (hd : P.underlying s = some .string)
    (hT : ∀ v, opd t x = some v → VR ρ v (a.eval x)) (he : oLenText x t h = some (v, h')) :
    h' = h ∧ Pure0 P ρ a ⟨dst, .call ⟨.builtin .len, #[x], ats⟩, ty, pos, after, guard⟩ v := by
  obtain ⟨u, h1, h2⟩ := ob_some.1 he
  obtain ⟨n, h3, h4⟩ := ob_some.1 h2
  rw [asText_some] at h3; subst h3
  cases h4
  rw [lenL_eq]
  refine ⟨rfl, _, .int _ _, fun w => ?_⟩
  have hx := (hT _ h1).string_inv
  simp [execOp, resolve, invoke, builtin, Builtin.len_, hs, hx, run_underlying hd, goInt]
theorem pure_lenSlice {dst ty pos after guard} {x : Operand} {s e : TypeId} {ats : Array TypeId} (hs : ats[0]? = some s) (hd : P.underlying s = some (.slice e))
    (hT : ∀ v, opd t x = some v → VR ρ v (a.eval x)) (he : oLenSlice x t h = some (v, h')) :
    h' = h ∧ Pure0 P ρ a ⟨dst, .call ⟨.builtin .len, #[x], ats⟩, ty, pos, after, guard⟩ v := by
  obtain ⟨u, h1, h2⟩ := ob_some.1 he
  obtain ⟨n, h3, h4⟩ := ob_some.1 h2
  rw [asSlice_some] at h3; subst h3
  cases h4
  refine ⟨rfl, _, .int _ _, fun w => ?_⟩
  obtain ⟨A, c, hx⟩ := (hT _ h1).slice_inv
  simp [execOp, resolve, invoke, builtin, Builtin.len_, hs, hx, run_underlying hd, goInt]

theorem pure_lenConst {dst ty pos after guard} {x : Operand} {s : TypeId} {n : Nat} {ats : Array TypeId} (hs : ats[0]? = some s)
    (hd : (∃ e, P.underlying s = some (.array n e)) ∨ ∃ arr e, P.underlying s = some (.pointer arr) ∧ P.underlying arr = some (.array n e))
    (he : oLenConst n t h = some (v, h')) : h' = h ∧ Pure0 P ρ a ⟨dst, .call ⟨.builtin .len, #[x], ats⟩, ty, pos, after, guard⟩ v := by
  cases he
  refine ⟨rfl, _, .int _ _, fun w => ?_⟩
  rcases hd with ⟨e, hd⟩ | ⟨arr, e, hd, hd2⟩
  · simp [execOp, resolve, invoke, builtin, Builtin.len_, hs, run_underlying hd, goInt]
  · simp [execOp, resolve, invoke, builtin, Builtin.len_, hs, run_underlying hd, run_underlying hd2, goInt]

theorem pure_cap {dst ty pos after guard} {x : Operand} {s e : TypeId} {ats : Array TypeId} (hs : ats[0]? = some s) (hd : P.underlying s = some (.slice e))
    (hT : ∀ v, opd t x = some v → VR ρ v (a.eval x)) (he : oCapOf x t h = some (v, h')) :
    h' = h ∧ Pure0 P ρ a ⟨dst, .call ⟨.builtin .cap, #[x], ats⟩, ty, pos, after, guard⟩ v := by
  obtain ⟨u, h1, h2⟩ := ob_some.1 he
  have hv := hT _ h1
  unfold capV at h2
  split at h2
  · rename_i A n cc
    obtain ⟨h3, h4⟩ := og_some.1 h2
    cases h4
    have h3' : cc % 3 = 1 := Nat.eq_of_beq_eq_true h3
    refine ⟨rfl, _, .int _ _, fun w => ?_⟩
    have hx : ∃ A' n', a.eval x = .slice A' n' (cc / 3) := by
      generalize a.eval x = y at hv
      cases hv with
      | snil => simp at h3'
      | slice _ _ _ h5 _ => rw [h5 h3']; exact ⟨_, _, rfl⟩
      | slice0 h5 => rw [h5]; exact ⟨_, _, rfl⟩
    obtain ⟨A', n', hx⟩ := hx
    simp [execOp, resolve, invoke, builtin, Builtin.cap_, hs, hx, run_underlying hd, goInt]
  · cases h2

theorem pure_minMax {dst ty pos after guard} {x y : Operand} {isMax : Bool} {ats : Array TypeId} (hx : ∀ v, opd t x = some v → VR ρ v (a.eval x)) (hy : ∀ v, opd t y = some v → VR ρ v (a.eval y))
    (he : oMinMax isMax x y t h = some (v, h')) : h' = h ∧ Pure0 P ρ a ⟨dst, .call ⟨.builtin (if isMax then .max else .min), #[x, y], ats⟩, ty, pos, after, guard⟩ v := by
  obtain ⟨u, h1, h2⟩ := ob_some.1 he
  obtain ⟨u2, h3, h4⟩ := ob_some.1 h2
  obtain ⟨p, h5, h6⟩ := ob_some.1 h4
  obtain ⟨q, h7, h8⟩ := ob_some.1 h6
  obtain ⟨h9, h10⟩ := og_some.1 h8
  rw [asInt_some] at h5 h7; subst h5; subst h7
  cases h10
  have e1 := (hx _ h1).int_inv
  have e2 := (hy _ h3).int_inv
  refine ⟨rfl, _, .int _ _, fun w => ?_⟩
  cases isMax with
  | true => simp [execOp, resolve, invoke, builtin, Builtin.max_, Builtin.max2, e1, e2, oi_eq, intLt_eq]
  | false => simp [execOp, resolve, invoke, builtin, Builtin.min_, Builtin.min2, e1, e2, oi_eq, intLt_eq]

/-! ### Indexes. -/
theorem pure_indexArr {dst ty pos after guard} {s e : TypeId} {len size : Nat} {x i : Operand} (hs : P.underlying s = some (.array len e)) (hn : sizeT P e = some size)
    (hx : ∀ v, opd t x = some v → VR ρ v (a.eval x)) (hi : ∀ v, opd t i = some v → VR ρ v (a.eval i)) (he : oIndexArr len size x i t h = some (v, h')) :
    h' = h ∧ Pure0 P ρ a ⟨dst, .indexAddr s x i, ty, pos, after, guard⟩ v := by
  obtain ⟨u, h1, h2⟩ := ob_some.1 he
  obtain ⟨p, h3, h4⟩ := ob_some.1 h2
  obtain ⟨iv, h5, h6⟩ := ob_some.1 h4
  obtain ⟨n, h7, h8⟩ := ob_some.1 h6
  obtain ⟨h9, h10⟩ := og_some.1 h8
  rw [asPtr_some] at h3; subst h3
  obtain ⟨k, rfl⟩ := idx_some.1 h7
  cases h10
  have hlt : n < len := Nat.le_of_ble_eq_true h9
  obtain ⟨L, hL, ex⟩ := (hx _ h1).ptr_inv
  have ei := (hi _ h5).int_inv
  refine ⟨rfl, _, .ptr hL, fun w => ?_⟩
  have hb : (0 : Int) ≤ n ∧ (n : Int) < len := ⟨by omega, by omega⟩
  simp [execOp, Instr.indexAt, Go.asIntOf, ei, run_underlying hs, Instr.sureAddr, ex, hb, hlt, run_sizeT hn, addr_add, Nat.add_assoc]

theorem pure_indexSlice {dst ty pos after guard} {s e : TypeId} {size : Nat} {x i : Operand} (hs : P.underlying s = some (.slice e)) (hn : sizeT P e = some size)
    (hx : ∀ v, opd t x = some v → VR ρ v (a.eval x)) (hi : ∀ v, opd t i = some v → VR ρ v (a.eval i)) (he : oIndexSlice size x i t h = some (v, h')) :
    h' = h ∧ Pure0 P ρ a ⟨dst, .indexAddr s x i, ty, pos, after, guard⟩ v := by
  obtain ⟨u, h1, h2⟩ := ob_some.1 he
  obtain ⟨p, h3, h4⟩ := ob_some.1 h2
  obtain ⟨q, h3', h4'⟩ := ob_some.1 h4
  obtain ⟨iv, h5, h6⟩ := ob_some.1 h4'
  obtain ⟨n, h7, h8⟩ := ob_some.1 h6
  obtain ⟨h9, h10⟩ := og_some.1 h8
  rw [asSlice_some] at h3; subst h3
  rw [ptrAt_some] at h3'
  obtain ⟨k, rfl⟩ := idx_some.1 h7
  cases h10
  have hlt : n < p.2.1 := Nat.le_of_ble_eq_true h9
  have ei := (hi _ h5).int_inv
  have hv := hx _ h1
  rw [h3'] at hv
  have ex : ∃ L c, ρ q.1 = some L ∧ a.eval x = .slice (some ⟨L.blk, L.base + q.2, none⟩) p.2.1 c := by
    generalize a.eval x = y at hv
    generalize hl : p.2.1 = len at hv hlt
    cases hv with
    | slice hL => exact ⟨_, _, hL, rfl⟩
    | slice0 => omega
  obtain ⟨L, c, hL, ex⟩ := ex
  refine ⟨rfl, _, .ptr hL, fun w => ?_⟩
  have hb : (0 : Int) ≤ n ∧ (n : Int) < p.2.1 := ⟨by omega, by omega⟩
  simp [execOp, Instr.indexAt, Go.asIntOf, ei, run_underlying hs, ex, hb, hlt, run_sizeT hn, addr_add, Nat.add_assoc]

theorem pure_indexText {dst ty pos after guard} {s : TypeId} {x i : Operand} (hs : P.underlying s = some .string)
    (hx : ∀ v, opd t x = some v → VR ρ v (a.eval x)) (hi : ∀ v, opd t i = some v → VR ρ v (a.eval i)) (he : oIndexText x i t h = some (v, h')) :
    h' = h ∧ Pure0 P ρ a ⟨dst, .index s x i, ty, pos, after, guard⟩ v := by
  obtain ⟨u, h1, h2⟩ := ob_some.1 he
  obtain ⟨b, h3, h4⟩ := ob_some.1 h2
  obtain ⟨iv, h5, h6⟩ := ob_some.1 h4
  obtain ⟨n, h7, h8⟩ := ob_some.1 h6
  obtain ⟨c, h9, h10⟩ := ob_some.1 h8
  rw [asText_some] at h3; subst h3
  obtain ⟨k, rfl⟩ := idx_some.1 h7
  cases h10
  rw [nthL_eq] at h9
  have ex := (hx _ h1).string_inv
  have ei := (hi _ h5).int_inv
  refine ⟨rfl, _, .int _ _, fun w => ?_⟩
  have hb : b[n]? = some c := by
    obtain ⟨hlt, hc⟩ := List.getElem?_eq_some_iff.1 h9
    have hlt' : n < b.size := hlt
    rw [getElem?_pos b n hlt']
    congr 1
  simp [execOp, Instr.index, Go.asIntOf, ei, run_underlying hs, ex, hb]

theorem pure_indexAgg {dst ty pos after guard} {s e : TypeId} {len n size : Nat} {g : Bool} {x i : Operand} (hs : P.underlying s = some (.array len e)) (hg : isAggT P e = some g) (hn : sizeT P e = some n) (hsz : size = if g then n else 1) (hz : size = n)
    (hx : ∀ v, opd t x = some v → VR ρ v (a.eval x)) (hi : ∀ v, opd t i = some v → VR ρ v (a.eval i)) (he : oIndexAgg len size g x i t h = some (v, h')) :
    h' = h ∧ Pure0 P ρ a ⟨dst, .index s x i, ty, pos, after, guard⟩ v := by
  obtain ⟨u, h1, h2⟩ := ob_some.1 he
  obtain ⟨l, h3, h4⟩ := ob_some.1 h2
  obtain ⟨iv, h5, h6⟩ := ob_some.1 h4
  obtain ⟨m, h7, h8⟩ := ob_some.1 h6
  obtain ⟨h9, h10⟩ := og_some.1 h8
  obtain ⟨vs, h11, h12⟩ := ob_some.1 h10
  obtain ⟨u1, h13, h14⟩ := ob_some.1 h12
  rw [asAgg_some] at h3; subst h3
  obtain ⟨k, rfl⟩ := idx_some.1 h7
  cases h14
  have hlt : m < len := Nat.le_of_ble_eq_true h9
  obtain ⟨l', hl, ex⟩ := (hx _ h1).agg_inv
  have ei := (hi _ h5).int_inv
  rw [hsz] at h11 h13
  obtain ⟨u', hu, hr⟩ := run_part hg hn hl h11 h13
  refine ⟨rfl, u', hu, fun w => ?_⟩
  have hb : (0 : Int) ≤ m ∧ (m : Int) < len := ⟨by omega, by omega⟩
  rw [← hsz, hz] at hr
  simp [execOp, Instr.index, Go.asIntOf, ei, run_underlying hs, ex, hb, hlt, run_sizeT hn, hr]

/-! ### Slices of texts and rows. -/
theorem run_bound {x : Operand} {ov : Option Operand} (_ : ov = some x) {u : Value} {y n : Nat} (hb : bound u y = some n) (hu : VR ρ u (a.eval x)) (code : BoundsCode) (w : World) {y' : Nat} (hy : y ≤ y') :
    (Instr.sliceBound (a.eval x) y' code).run P w = .ok n w := by
  obtain ⟨m, h1, h2⟩ := ob_some.1 hb
  obtain ⟨h3, h4⟩ := og_some.1 h2
  cases h4
  obtain ⟨k, rfl⟩ := idx_some.1 h1
  have hle : n ≤ y := Nat.le_of_ble_eq_true h3
  rw [hu.int_inv]
  have hb : (0 : Int) ≤ n ∧ (n : Int) ≤ y' := ⟨by omega, by omega⟩
  have hb2 : n ≤ y' := by omega
  simp [Instr.sliceBound, Go.asIntOf, hb, hb2]
theorem bound_le {u : Value} {y n : Nat} (hb : bound u y = some n) : n ≤ y := by
  obtain ⟨m, _, h2⟩ := ob_some.1 hb
  obtain ⟨h3, h4⟩ := og_some.1 h2
  cases h4
  exact Nat.le_of_ble_eq_true h3
theorem boundOr_some {x : Operand} {top d n : Nat} (h : boundOr t (some x) top d = some n) : ∃ u, opd t x = some u ∧ bound u top = some n := ob_some.1 h

/-- The bounds of a slice expression: the evaluator's, over what can surely be held, are the model's over what is held. -/
theorem run_bounds {isSlice : Bool} {len lb cap m hN l : Nat} {lo hi mx : Option Operand} (hlb : lb ≤ cap)
    (hlo : ∀ x, lo = some x → ∀ v, opd t x = some v → VR ρ v (a.eval x)) (hhi : ∀ x, hi = some x → ∀ v, opd t x = some v → VR ρ v (a.eval x)) (hmx : ∀ x, mx = some x → ∀ v, opd t x = some v → VR ρ v (a.eval x))
    (hmh : mx.isSome = true → hi.isSome = true)
    (h1 : boundOr t mx lb lb = some m) (h2 : boundOr t hi m len = some hN) (h3 : boundOr t lo hN 0 = some l) (w : World) :
    (Instr.sliceBounds isSlice len cap (lo.map a.eval) (hi.map a.eval) (mx.map a.eval)).run P w = .ok (l, hN, if mx.isSome then m else cap) w := by
  have hm : m ≤ cap := by
    cases mx with
    | none => cases h1; exact hlb
    | some x => obtain ⟨u, _, hb⟩ := boundOr_some h1; exact Nat.le_trans (bound_le hb) hlb
  cases mx with
  | none =>
    cases h1
    cases hi with
    | none =>
      cases h2
      cases lo with
      | none => cases h3; simp [Instr.sliceBounds]
      | some z => obtain ⟨u, hu, hb⟩ := boundOr_some h3; simp [Instr.sliceBounds, run_bound rfl hb (hlo z rfl u hu) _ w (Nat.le_refl _)]
    | some y =>
      obtain ⟨u, hu, hb⟩ := boundOr_some h2
      cases lo with
      | none => cases h3; simp [Instr.sliceBounds, run_bound rfl hb (hhi y rfl u hu) _ w hm]
      | some z => obtain ⟨u', hu', hb'⟩ := boundOr_some h3; simp [Instr.sliceBounds, run_bound rfl hb (hhi y rfl u hu) _ w hm, run_bound rfl hb' (hlo z rfl u' hu') _ w (Nat.le_refl _)]
  | some x =>
    obtain ⟨u0, hu0, hb0⟩ := boundOr_some h1
    cases hi with
    | none => simp at hmh
    | some y =>
      obtain ⟨u, hu, hb⟩ := boundOr_some h2
      cases lo with
      | none => cases h3; simp [Instr.sliceBounds, run_bound rfl hb0 (hmx x rfl u0 hu0) _ w hlb, run_bound rfl hb (hhi y rfl u hu) _ w (Nat.le_refl _)]
      | some z =>
        obtain ⟨u', hu', hb'⟩ := boundOr_some h3
        simp [Instr.sliceBounds, run_bound rfl hb0 (hmx x rfl u0 hu0) _ w hlb, run_bound rfl hb (hhi y rfl u hu) _ w (Nat.le_refl _), run_bound rfl hb' (hlo z rfl u' hu') _ w (Nat.le_refl _)]

theorem capMark_cases (mx : Option Operand) (l cc : Nat) : (mx.isSome = true ∧ capMark mx l cc = 1) ∨ (mx.isSome = false ∧ cc % 3 = 1 ∧ capMark mx l cc = 1) ∨
    (mx.isSome = false ∧ cc % 3 = 0 ∧ l = 0 ∧ capMark mx l cc = 0) ∨ (mx.isSome = false ∧ capMark mx l cc = 2) := by
  have emod : Nat.mod cc 3 = cc % 3 := rfl
  unfold capMark
  cases mx with
  | some x => exact .inl ⟨rfl, rfl⟩
  | none =>
    right
    simp only [hasSome, oi_eq, beq_eq, emod, Option.isSome_none, Bool.false_eq_true, if_false]
    by_cases h1 : cc % 3 = 1
    · exact .inl ⟨trivial, h1, by simp [h1]⟩
    · by_cases h0 : cc % 3 = 0
      · by_cases hl : l = 0
        · exact .inr (.inl ⟨trivial, h0, hl, by simp [h0, hl]⟩)
        · exact .inr (.inr ⟨trivial, by simp [h0, hl]⟩)
      · exact .inr (.inr ⟨trivial, by simp [h1, h0]⟩)
theorem capMark_lt (mx : Option Operand) (l cc : Nat) : capMark mx l cc < 3 := by
  rcases capMark_cases mx l cc with ⟨_, h⟩ | ⟨_, _, h⟩ | ⟨_, _, _, h⟩ | ⟨_, h⟩ <;> rw [h] <;> omega
theorem capCode_div {mx : Option Operand} {m l cc : Nat} : capCode mx m l cc / 3 = m - l := by
  have e : capCode mx m l cc = 3 * (m - l) + capMark mx l cc := rfl
  have hk := capMark_lt mx l cc
  omega
theorem capCode_mod {mx : Option Operand} {m l cc : Nat} : capCode mx m l cc % 3 = capMark mx l cc := by
  have e : capCode mx m l cc = 3 * (m - l) + capMark mx l cc := rfl
  have hk := capMark_lt mx l cc
  omega

/-- A slice of a slice. -/
theorem sliceV_sound {size : Nat} {u r : Value} {y : Value} {lo hi mx : Option Operand} (hu : VR ρ u y)
    (hlo : ∀ x, lo = some x → ∀ v, opd t x = some v → VR ρ v (a.eval x)) (hhi : ∀ x, hi = some x → ∀ v, opd t x = some v → VR ρ v (a.eval x)) (hmx : ∀ x, mx = some x → ∀ v, opd t x = some v → VR ρ v (a.eval x))
    (hmh : mx.isSome = true → hi.isSome = true) (h : sliceV t size u lo hi mx = some r) :
    ∃ (A : Option Addr) (len cap l hN m' : Nat), y = .slice A len cap ∧ (∀ b w, (Instr.sliceBounds b len cap (lo.map a.eval) (hi.map a.eval) (mx.map a.eval)).run P w = .ok (l, hN, m') w) ∧
      VR ρ r (.slice (if m' = l then A else A.map (·.add (l * size))) (hN - l) (m' - l)) := by
  obtain ⟨s, h1, h2⟩ := ob_some.1 h
  obtain ⟨m, h3, h4⟩ := ob_some.1 h2
  obtain ⟨hN, h5, h6⟩ := ob_some.1 h4
  obtain ⟨l, h7, h8⟩ := ob_some.1 h6
  obtain ⟨h9, h10⟩ := og_some.1 h8
  obtain ⟨h11, h12⟩ := og_some.1 h10
  obtain ⟨A, n, cc⟩ := s
  rw [asSlice_some] at h1
  simp only at h1 h3 h5 h12
  subst h1
  have e1 : l ≤ hN := Nat.le_of_ble_eq_true h9
  have e2 : hN ≤ m := Nat.le_of_ble_eq_true h11
  have h3 : boundOr t mx (cc / 3) (cc / 3) = some m := h3
  cases hu with
  | snil =>
    refine ⟨none, 0, 0, l, hN, if mx.isSome then m else 0, rfl, fun b w => run_bounds (Nat.zero_le _) hlo hhi hmx hmh h3 h5 h7 w, ?_⟩
    have h12' : og (Nat.beq m 0) (some (Value.slice none 0 0)) = some r := h12
    obtain ⟨h13, h14⟩ := og_some.1 h12'
    cases h14
    obtain rfl := Nat.eq_of_beq_eq_true h13
    have : hN = 0 := by omega
    have : l = 0 := by omega
    subst_vars
    simp
    exact .snil
  | @slice b o _ _ c L hL g1 g2 g3 g4 =>
    refine ⟨_, n, c, l, hN, if mx.isSome then m else c, rfl, fun b w => run_bounds g2 hlo hhi hmx hmh h3 h5 h7 w, ?_⟩
    have h12' : some (Value.slice (some ⟨b, o + l * size, none⟩) (hN - l) (capCode mx m l cc)) = some r := h12
    cases h12'
    have hm : m ≤ (if mx.isSome then m else c) := by
      cases mx with
      | none => cases h3; exact g2
      | some x => exact Nat.le_refl _
    generalize hm' : (if mx.isSome = true then m else c) = m' at hm
    by_cases e : m' = l
    · have z1 : hN - l = 0 := by omega
      have z2 : m' - l = 0 := by omega
      have z3 : capCode mx m l cc / 3 = 0 := by rw [capCode_div]; omega
      simp only [e, if_true, z1, Nat.sub_self]
      exact .slice0 z3
    · simp only [e, if_false, Option.map_some, addr_add, Nat.add_assoc]
      refine .slice hL (by rw [capCode_div]; omega) (by rw [capCode_div]; omega) (fun hx => ?_) (fun hx => ?_)
      · rw [capCode_mod] at hx
        rw [capCode_div]
        rcases capMark_cases mx l cc with ⟨k1, _⟩ | ⟨k1, k2, _⟩ | ⟨_, _, _, k4⟩ | ⟨_, k4⟩
        · rw [if_pos k1] at hm'; omega
        · rw [if_neg (by simp [k1])] at hm'
          cases mx with
          | none => cases h3; rw [← hm', g3 k2]
          | some x => simp at k1
        · omega
        · omega
      · rw [capCode_mod] at hx
        rcases capMark_cases mx l cc with ⟨_, k4⟩ | ⟨_, _, k4⟩ | ⟨k1, k2, k3, _⟩ | ⟨_, k4⟩
        · omega
        · omega
        · rw [if_neg (by simp [k1])] at hm'
          subst k3
          have := g4 k2
          simp
          rw [← hm']; exact this
        · omega
  | @slice0 A' b o _ g =>
    refine ⟨_, 0, 0, l, hN, if mx.isSome then m else 0, rfl, fun b w => run_bounds (by omega) hlo hhi hmx hmh h3 h5 h7 w, ?_⟩
    have hm0 : m = 0 := by
      cases mx with
      | none => cases h3; exact g
      | some x => obtain ⟨u, _, hb⟩ := boundOr_some h3; have := bound_le hb; omega
    have : hN = 0 := by omega
    have : l = 0 := by omega
    subst_vars
    obtain ⟨p, h13, h14⟩ := ob_some.1 (show (ob (ptrAt (some A')) fun p => some (Value.slice (some ⟨p.1, p.2 + 0 * size, none⟩) (0 - 0) (capCode mx 0 0 cc))) = some r from h12)
    cases h14
    simp
    exact .slice0 (by rw [capCode_div])

theorem pure_slice {dst ty pos after guard} {s e : TypeId} {size : Nat} {x : Operand} {lo hi mx : Option Operand} (hs : P.underlying s = some (.slice e)) (hn : sizeT P e = some size)
    (hx : ∀ v, opd t x = some v → VR ρ v (a.eval x)) (hlo : ∀ x, lo = some x → ∀ v, opd t x = some v → VR ρ v (a.eval x)) (hhi : ∀ x, hi = some x → ∀ v, opd t x = some v → VR ρ v (a.eval x)) (hmx : ∀ x, mx = some x → ∀ v, opd t x = some v → VR ρ v (a.eval x))
    (hmh : mx.isSome = true → hi.isSome = true) (he : oSlice size x lo hi mx t h = some (v, h')) :
    h' = h ∧ Pure0 P ρ a ⟨dst, .slice s x lo hi mx, ty, pos, after, guard⟩ v := by
  obtain ⟨u, h1, h2⟩ := ob_some.1 he
  obtain ⟨r, h3, h4⟩ := ob_some.1 h2
  cases h4
  obtain ⟨A, len, cap, l, hN, m', ex, hb, hr⟩ := sliceV_sound (P := P) (hx _ h1) hlo hhi hmx hmh h3
  exact ⟨rfl, _, hr, fun w => by simp [execOp, Instr.sliceAt, Instr.slice, run_underlying hs, ex, hb, run_sizeT hn]⟩

theorem pure_sliceArr {dst ty pos after guard} {s e : TypeId} {len size : Nat} {x : Operand} {lo hi mx : Option Operand} (hs : P.underlying s = some (.array len e)) (hn : sizeT P e = some size)
    (hx : ∀ v, opd t x = some v → VR ρ v (a.eval x)) (hlo : ∀ x, lo = some x → ∀ v, opd t x = some v → VR ρ v (a.eval x)) (hhi : ∀ x, hi = some x → ∀ v, opd t x = some v → VR ρ v (a.eval x)) (hmx : ∀ x, mx = some x → ∀ v, opd t x = some v → VR ρ v (a.eval x))
    (hmh : mx.isSome = true → hi.isSome = true) (he : oSliceArr len size x lo hi mx t h = some (v, h')) :
    h' = h ∧ Pure0 P ρ a ⟨dst, .slice s x lo hi mx, ty, pos, after, guard⟩ v := by
  obtain ⟨u, h1, h2⟩ := ob_some.1 he
  obtain ⟨p, h3, h4⟩ := ob_some.1 h2
  obtain ⟨r, h5, h6⟩ := ob_some.1 h4
  rw [asPtr_some] at h3; subst h3
  cases h6
  obtain ⟨L, hL, ex⟩ := (hx _ h1).ptr_inv
  have hu : VR ρ (.slice (some ⟨p.1, p.2, none⟩) len (3 * len + 1)) (.slice (some ⟨L.blk, L.base + p.2, none⟩) len len) :=
    .slice hL (by omega) (by omega) (by omega) (by omega)
  obtain ⟨A, len', cap, l, hN, m', ey, hb, hr⟩ := sliceV_sound (P := P) hu hlo hhi hmx hmh h5
  cases ey
  refine ⟨rfl, _, hr, fun w => ?_⟩
  simp [execOp, Instr.sliceAt, run_underlying hs, Instr.sureAddr, ex, hb, run_sizeT hn]
  split <;> rfl

theorem extract_text (s : ByteArray) (l hN : Nat) : (⟨⟨(s.data.toList.take hN).drop l⟩⟩ : ByteArray) = s.extract l hN := by
  rw [ByteArray.ext_iff]
  apply Array.ext'
  simp [ByteArray.data_extract, List.extract_eq_take_drop, List.drop_take]
theorem pure_sliceText {dst ty pos after guard} {s : TypeId} {x : Operand} {lo hi : Option Operand} (hs : P.underlying s = some .string)
    (hx : ∀ v, opd t x = some v → VR ρ v (a.eval x)) (hlo : ∀ x, lo = some x → ∀ v, opd t x = some v → VR ρ v (a.eval x)) (hhi : ∀ x, hi = some x → ∀ v, opd t x = some v → VR ρ v (a.eval x))
    (he : oSliceText x lo hi t h = some (v, h')) : h' = h ∧ Pure0 P ρ a ⟨dst, .slice s x lo hi none, ty, pos, after, guard⟩ v := by
  obtain ⟨u, h1, h2⟩ := ob_some.1 he
  obtain ⟨b, h3, h4⟩ := ob_some.1 h2
  obtain ⟨hN, h5, h6⟩ := ob_some.1 h4
  obtain ⟨l, h7, h8⟩ := ob_some.1 h6
  rw [asText_some] at h3; subst h3
  cases h8
  have ex := (hx _ h1).string_inv
  have hsz : b.data.toList.length = b.size := rfl
  rw [hsz] at h5
  refine ⟨rfl, _, .string _, fun w => ?_⟩
  have hb := run_bounds (P := P) (a := a) (ρ := ρ) (isSlice := false) (mx := none) (Nat.le_refl b.size) hlo hhi (fun x hx => by cases hx) (fun hx => by cases hx) rfl h5 h7 w
  simp only [Option.map_none] at hb
  rw [extract_text]
  simp [execOp, Instr.sliceAt, Instr.slice, run_underlying hs, ex, hb]

/-! ### Structs and rows out of parts. -/
theorem foldl_set : ∀ (vs : List Value) (off k : Nat) (cells : Array Value), off + k + vs.length ≤ cells.size →
    (vs.zipIdx k).foldl (fun cs (c : Value × Nat) => cs.setIfInBounds (off + c.2) c.1) cells = ⟨cells.toList.take (off + k) ++ vs ++ cells.toList.drop (off + k + vs.length)⟩
  | [], off, k, cells, _ => by simp
  | v :: vs, off, k, cells, h => by
    simp only [List.length_cons] at h
    rw [List.zipIdx_cons, List.foldl_cons, foldl_set vs off (k + 1) _ (by simp; omega)]
    apply Array.ext'
    simp only [Array.toList_setIfInBounds, List.length_cons]
    have hlt : off + k < cells.toList.length := by simp; omega
    apply List.ext_getElem?
    intro i
    simp only [List.getElem?_append, List.getElem?_take, List.getElem?_drop, List.getElem?_set, List.length_append, List.length_take, List.length_set, List.length_cons, Array.length_toList]
    have e1 : min (off + (k + 1)) cells.size = off + k + 1 := by omega
    have e2 : min (off + k) cells.size = off + k := by omega
    rw [e1, e2]
    by_cases c1 : i < off + k
    · have : i < off + k + 1 + vs.length := by omega
      have : i < off + k + (vs.length + 1) := by omega
      have : i < off + (k + 1) := by omega
      have : off + k ≠ i := by omega
      have : i < off + k + 1 := by omega
      simp [*]
    · by_cases c2 : i = off + k
      · subst c2
        have : off + k < off + k + 1 + vs.length := by omega
        have : off + k < off + k + (vs.length + 1) := by omega
        have : off + k < off + (k + 1) := by omega
        have : off + k < cells.size := by omega
        simp [*]
      · by_cases c3 : i < off + k + 1 + vs.length
        · have g1 : i < off + k + (vs.length + 1) := by omega
          have g2 : ¬ i < off + k + 1 := by omega
          have g3 : i - (off + k) = (i - (off + k + 1)) + 1 := by omega
          simp [c1, c3, g1, g2, g3]
        · have g1 : ¬ i < off + k + (vs.length + 1) := by omega
          have g2 : off + k ≠ off + (k + 1) + vs.length + (i - (off + k + 1 + vs.length)) := by omega
          have g3 : off + (k + 1) + vs.length + (i - (off + k + 1 + vs.length)) = off + k + (vs.length + 1) + (i - (off + k + (vs.length + 1))) := by omega
          have g4 : off + k ≠ off + k + (vs.length + 1) + (i - (off + k + (vs.length + 1))) := by omega
          rw [if_neg c3, if_neg g1, g3, if_neg g4]

theorem fill1_sound {cells cells' : List Value} {off n : Nat} {x : Operand} {r : List Value} (hc : VRL ρ cells cells') (hx : ∀ v, opd t x = some v → VR ρ v (a.eval x)) (h : fill1 t cells (off, n, x) = some r) :
    (a.eval x).cells.size = n ∧ off + n ≤ cells'.length ∧ VRL ρ r (cells'.take off ++ (a.eval x).cells.toList ++ cells'.drop (off + n)) := by
  obtain ⟨v, h1, h2⟩ := ob_some.1 h
  obtain ⟨h3, h4⟩ := og_some.1 h2
  rw [lenL_eq] at h3
  have h3 := Nat.eq_of_beq_eq_true h3
  obtain ⟨h5, h6⟩ := overlayAt_some h4
  subst h6
  have hv := (hx v h1).cells
  have hl := hv.length
  have hlc := hc.length
  simp only at h3 h5
  refine ⟨by rw [← Array.length_toList, ← hl, h3], by omega, ?_⟩
  rw [h3]
  exact ((hc.take off).append hv).append (hc.drop (off + n))

def Places (place : Nat → Option (Nat × Nat)) : List (Nat × Operand) → List (Nat × Nat × Operand) → Prop
  | [], [] => True
  | p :: ps, q :: qs => place p.1 = some (q.1, q.2.1) ∧ p.2 = q.2.2 ∧ Places place ps qs
  | _, _ => False
theorem fills_sound (place : Nat → Option (Nat × Nat)) : ∀ (ps : List (Nat × Operand)) (parts : List (Nat × Nat × Operand)) (cells cells' r : List Value),
    VRL ρ cells cells' → (∀ p ∈ ps, ∀ v, opd t p.2 = some v → VR ρ v (a.eval p.2)) → Places place ps parts → fills t cells parts = some r →
    ∃ r', VRL ρ r r' ∧ Instr.fill place ⟨cells'⟩ (ps.map fun p => (p.1, a.eval p.2)) = some ⟨r'⟩
  | [], [], cells, cells', r, hc, _, _, h => by cases h; exact ⟨cells', hc, rfl⟩
  | [], _ :: _, _, _, _, _, _, hp, _ => hp.elim
  | _ :: _, [], _, _, _, _, _, hp, _ => hp.elim
  | p :: ps, q :: qs, cells, cells', r, hc, hT, hp, h => by
    obtain ⟨hp1, hp2, hp3⟩ := hp
    obtain ⟨c1, h1, h2⟩ := ob_some.1 (show (ob (fill1 t cells q) fun c => fills t c qs) = some r from h)
    obtain ⟨off, n, x⟩ := q
    simp only at hp1 hp2
    obtain ⟨g1, g2, g3⟩ := fill1_sound (a := a) hc (fun v hv => by rw [← hp2]; exact hT p (by simp) v (by rw [hp2]; exact hv)) h1
    obtain ⟨r', h3, h4⟩ := fills_sound place ps qs c1 _ r g3 (fun y hy => hT y (by simp [hy])) hp3 h2
    refine ⟨r', h3, ?_⟩
    simp only [List.map_cons, Instr.fill, hp1, hp2, g1]
    have e : (decide (n ≠ n) || decide (off + n > (⟨cells'⟩ : Array Value).size)) = false := by simp; exact g2
    have hf := foldl_set (a.eval x).cells.toList off 0 ⟨cells'⟩ (by simp [g1]; omega)
    simp only [Nat.add_zero, Array.length_toList, g1] at hf
    rw [if_neg (by simp; omega)]
    rw [← Array.foldl_toList, Array.toList_zipIdx, hf]
    exact h4

theorem partsOf_places {fs : Array Field} : ∀ {ps : List (Nat × Operand)} {parts : List (Nat × Nat × Operand)}, partsOf P fs ps = some parts →
    ∃ f : Nat → Option (Nat × Nat), (∀ i fd n, fs.toList[i]? = some fd → sizeT P fd.type = some n → f i = some (fd.offset, n)) ∧ Places f ps parts
  | [], parts, h => by cases h; exact ⟨fun i => (fs.toList[i]?).bind fun fd => (sizeT P fd.type).map fun n => (fd.offset, n), fun i fd n h1 h2 => by simp [h1, h2], trivial⟩
  | (i, x) :: ps, parts, h => by
    simp only [partsOf, Option.bind_eq_bind, Option.bind_eq_some_iff] at h
    obtain ⟨fd, h1, n, h2, r, h3, h4⟩ := h
    cases h4
    obtain ⟨f, h5, h6⟩ := partsOf_places h3
    exact ⟨f, h5, h5 i fd n h1 h2, rfl, h6⟩
theorem Places.congr {f g : Nat → Option (Nat × Nat)} : ∀ {ps : List (Nat × Operand)} {parts : List (Nat × Nat × Operand)}, (∀ i q, f i = some q → g i = some q) → Places f ps parts → Places g ps parts
  | [], [], _, _ => trivial
  | [], _ :: _, _, h => h.elim
  | _ :: _, [], _, h => h.elim
  | _ :: _, _ :: _, hfg, ⟨h1, h2, h3⟩ => ⟨hfg _ _ h1, h2, Places.congr hfg h3⟩

theorem run_places {fs : List Field} (hs : sizedAll P fs = true) (w : World) :
    (fs.mapM (m := Sem) fun f => do pure (f.offset, ← sizeOf f.type)).run P w = .ok (fs.map fun f => (f.offset, (sizeT P f.type).getD 0)) w := by
  induction fs with
  | nil => rfl
  | cons f fs ih =>
    unfold sizedAll at hs
    cases hn : sizeT P f.type with
    | none => simp [hn] at hs
    | some n =>
      simp only [hn] at hs
      simp only [List.mapM_cons, Sem.run_bind, run_sizeT hn, Result.andThen_ok, Sem.run_pure, ih hs, List.map_cons, hn, Option.getD_some]
theorem partsOf_places' {fs : Array Field} {ps : List (Nat × Operand)} {parts : List (Nat × Nat × Operand)} (h : partsOf P fs ps = some parts) :
    Places (fun i => (⟨fs.toList.map fun f => (f.offset, (sizeT P f.type).getD 0)⟩ : Array (Nat × Nat))[i]?) ps parts := by
  induction ps generalizing parts with
  | nil => cases h; trivial
  | cons p ps ih =>
    obtain ⟨i, x⟩ := p
    simp only [partsOf, Option.bind_eq_bind, Option.bind_eq_some_iff] at h
    obtain ⟨fd, h1, n, h2, r, h3, h4⟩ := h
    cases h4
    refine ⟨?_, rfl, ih h3⟩
    have h1' : fs[i]? = some fd := by simpa using h1
    simp [h1', h2]

theorem pure_build {dst ty pos after guard} {s : TypeId} {ps : Array (Nat × Operand)} {z : List Value} {parts : List (Nat × Nat × Operand)} (hz : zerosT P s = some z)
    (hd : (∃ fs, P.underlying s = some (.struct fs) ∧ sizedAll P fs.toList = true ∧ partsOf P fs ps.toList = some parts) ∨ (∃ n e k, P.underlying s = some (.array n e) ∧ sizeT P e = some k ∧ parts = partsEach k ps.toList))
    (hT : ∀ p ∈ ps.toList, ∀ v, opd t p.2 = some v → VR ρ v (a.eval p.2)) (he : oBuild z parts t h = some (v, h')) :
    h' = h ∧ Pure0 P ρ a ⟨dst, .build s ps, ty, pos, after, guard⟩ v := by
  obtain ⟨h1, h2⟩ := og_some.1 he
  obtain ⟨cs, h3, h4⟩ := ob_some.1 h2
  cases h4
  obtain ⟨u, hu, hc⟩ := zerosT_spec hz
  have hz0 : VRL ρ z z := plains_refl h1 ρ
  rcases hd with ⟨fs, hd, hsz, hp⟩ | ⟨n, e, k, hd, hk, hp⟩
  · obtain ⟨r', g1, g2⟩ := fills_sound (a := a) _ ps.toList parts z z cs hz0 hT (partsOf_places' hp) h3
    refine ⟨rfl, _, .agg g1, fun w => ?_⟩
    have hm : (fs.mapM (m := Sem) fun f => do pure (f.offset, ← sizeOf f.type)).run P w = .ok ⟨fs.toList.map fun f => (f.offset, (sizeT P f.type).getD 0)⟩ w := by
      rw [Array.mapM_eq_mapM_toList]
      simp only [Sem.run_map, run_places hsz, Result.andThen_ok]
    simp only [execOp, Instr.build, Sem.run_bind, run_zeroT hu, Result.andThen_ok, run_underlying hd, hm, hc]
    rw [show (ps.map fun (p : Nat × Operand) => (p.1, a.eval p.2)).toList = ps.toList.map fun p => (p.1, a.eval p.2) by simp]
    rw [g2]; rfl
  · have hpl : ∀ (l : List (Nat × Operand)), Places (fun i => some (i * k, k)) l (partsEach k l) := by
      intro l
      induction l with
      | nil => trivial
      | cons p l ih => obtain ⟨i, x⟩ := p; exact ⟨rfl, rfl, ih⟩
    subst hp
    obtain ⟨r', g1, g2⟩ := fills_sound (a := a) _ ps.toList _ z z cs hz0 hT (hpl _) h3
    refine ⟨rfl, _, .agg g1, fun w => ?_⟩
    simp only [execOp, Instr.build, Sem.run_bind, run_zeroT hu, Result.andThen_ok, run_underlying hd, run_sizeT hk, hc]
    rw [show (ps.map fun (p : Nat × Operand) => (p.1, a.eval p.2)).toList = ps.toList.map fun p => (p.1, a.eval p.2) by simp]
    rw [g2]; rfl

end
end Go.Ev
