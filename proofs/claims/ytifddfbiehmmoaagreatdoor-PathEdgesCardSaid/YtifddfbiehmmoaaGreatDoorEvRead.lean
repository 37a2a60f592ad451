/- Operations that read the heap. -/
import Derived.Test.YtifddfbiehmmoaaGreatDoorEvBin
import Derived.Laws.Cells
namespace Go.Ev
open Go
set_option linter.unusedSimpArgs false

def Read0 (P : Program) (ρ : Ren) (a : Act) (o : Oper) (w : World) (v : Value) : Prop := ∃ v', VR ρ v v' ∧ (execOp a.eval o).run P w = .ok (.value v') w

section
variable {P : Program} {ρ : Ren} {t : TM} {a : Act} {h h' : Heap} {v : Value} {w : World}

theorem readFrom_succ (c : T Value) (i n : Nat) : readFrom c i (n + 1) = ob (c.get i) fun v => ob (readFrom c (i + 1) n) fun vs => some (v :: vs) := rfl
theorem readFrom_some {c : T Value} : ∀ {n i : Nat} {vs : List Value}, readFrom c i n = some vs → vs.length = n ∧ ∀ j v, vs[j]? = some v → c.get (i + j) = some v
  | 0, i, vs, h => by cases h; simp
  | n + 1, i, vs, h => by
    rw [readFrom_succ] at h
    obtain ⟨v, h1, h2⟩ := ob_some.1 h
    obtain ⟨us, h3, h4⟩ := ob_some.1 h2
    cases h4
    obtain ⟨h5, h6⟩ := readFrom_some h3
    refine ⟨by simp [h5], fun j u hu => ?_⟩
    cases j with
    | zero => simp at hu; subst hu; exact h1
    | succ j => have := h6 j u (by simpa using hu); rw [show i + (j + 1) = i + 1 + j by omega]; exact this

theorem read_some {b o n : Nat} {vs : List Value} (hr : h.read b o n = some vs) : ∃ c e z cl, h.objs.get b = some (.cells c e z cl) ∧ readFrom c o n = some vs := by
  obtain ⟨ob, h1, h2⟩ := ob_some.1 hr
  cases ob with
  | cells c e z cl => exact ⟨c, e, z, cl, h1, h2⟩
  | map => cases h2
  | text => cases h2
  | loop => cases h2

theorem pick_list {α : Type} (R : Nat → Value → α → Prop) : ∀ (vs : List Value) (k : Nat), (∀ j v, vs[j]? = some v → ∃ x, R (k + j) v x) → ∃ l : List α, l.length = vs.length ∧ ∀ j v x, vs[j]? = some v → l[j]? = some x → R (k + j) v x
  | [], _, _ => ⟨[], rfl, fun j v x hv => by simp at hv⟩
  | v :: vs, k, h => by
    obtain ⟨x, hx⟩ := h 0 v rfl
    obtain ⟨l, h1, h2⟩ := pick_list R vs (k + 1) fun j u hu => by
      have := h (j + 1) u (by simpa using hu)
      rwa [show k + (j + 1) = k + 1 + j by omega] at this
    refine ⟨x :: l, by simp [h1], fun j u y hu hy => ?_⟩
    cases j with
    | zero => simp at hu hy; subst hu; subst hy; exact hx
    | succ j => have := h2 j u y (by simpa using hu) (by simpa using hy); rwa [show k + (j + 1) = k + 1 + j by omega]

/-- What is read of an abstract block is read of the block. -/
theorem HR.read {m : Objs} (hm : HR ρ m w) {b o n : Nat} {c : T Value} {e z : Nat} {cl : Bool} {vs : List Value} {L : Loc} (hb : m b = some (.cells c e z cl)) (hL : ρ b = some L) (hr : readFrom c o n = some vs) :
    ∃ vs', VRL ρ vs vs' ∧ vs'.length = n ∧ ∀ j v', vs'[j]? = some v' → w.cell? ⟨L.blk, L.base + o + j, none⟩ = some v' := by
  obtain ⟨M, r, h1, h2, C, e', fz, rfl, h3, _⟩ := hm.obj b _ hb
  rw [hL] at h1; cases h1
  obtain ⟨h4, h5⟩ := readFrom_some hr
  obtain ⟨l, h6, h7⟩ := pick_list (fun k v v' => C[L.base + o + k]? = some v' ∧ VR ρ v v') vs 0 fun j v hv => by
    obtain ⟨v', g1, g2⟩ := h3 _ _ (h5 j v hv)
    exact ⟨v', by rw [show L.base + o + (0 + j) = L.base + (o + j) by omega]; exact g1, g2⟩
  refine ⟨l, ?_, by omega, fun j v' hv' => ?_⟩
  · clear h4 h5 hr
    have key : ∀ (vs l : List Value) (k : Nat), l.length = vs.length → (∀ j v x, vs[j]? = some v → l[j]? = some x → C[L.base + o + (k + j)]? = some x ∧ VR ρ v x) → VRL ρ vs l := by
      intro vs
      induction vs with
      | nil => intro l k hl _; cases l with | nil => exact .nil | cons => simp at hl
      | cons v vs ih =>
        intro l k hl hh
        cases l with
        | nil => simp at hl
        | cons x l =>
          refine .cons (hh 0 v x rfl rfl).2 (ih l (k + 1) (by simpa using hl) fun j u y hu hy => ?_)
          have := hh (j + 1) u y (by simpa using hu) (by simpa using hy)
          rwa [show k + (j + 1) = k + 1 + j by omega] at this
    exact key vs l 0 h6 fun j v x hv hx => h7 j v x hv hx
  · have hj : j < vs.length := by have := (List.getElem?_eq_some_iff.1 hv').1; omega
    obtain ⟨g1, g2⟩ := h7 j vs[j] v' (by simp [hj]) hv'
    rw [Nat.zero_add] at g1
    simp [World.cell?, h2, g1]

theorem run_load_list {b o n : Nat} {vs' : List Value} (hn : vs'.length = n) (hc : ∀ j v', vs'[j]? = some v' → w.cell? ⟨b, o + j, none⟩ = some v') : (loadCells ⟨b, o, none⟩ n).run P w = .ok ⟨vs'⟩ w := by
  have := run_loadCells_list (P := P) w ⟨b, o, none⟩ vs' fun j v hv => by rw [addr_add]; exact hc j v hv
  rw [hn] at this
  exact this

theorem run_loadVar {ty : TypeId} {g : Bool} {n b o : Nat} {vs' : List Value} (hg : isAggT P ty = some g) (hn : sizeT P ty = some n) (hl : vs'.length = if g then n else 1)
    (hc : ∀ j v', vs'[j]? = some v' → w.cell? ⟨b, o + j, none⟩ = some v') : ∃ v', (loadVar ty ⟨b, o, none⟩).run P w = .ok v' w ∧ (g = true → v' = .agg ⟨vs'⟩) ∧ (g = false → vs' = [v']) := by
  cases g with
  | true =>
    have hl' : vs'.length = n := hl
    refine ⟨.agg ⟨vs'⟩, ?_, fun _ => rfl, fun hh => by cases hh⟩
    simp only [loadVar, Sem.run_bind, isAggT_spec hg, Result.andThen_ok, if_true, run_sizeT hn, run_load_list hl' hc, Sem.run_pure]
  | false =>
    simp at hl
    match vs', hl with
    | [v'], _ =>
      refine ⟨v', ?_, (fun hh => by cases hh), fun _ => rfl⟩
      have h0 := hc 0 v' rfl
      simp only [Nat.add_zero] at h0
      simp [loadVar, isAggT_spec hg, h0]

theorem loadVar_sound {m : Objs} (hm : HR ρ m w) {ty : TypeId} {g : Bool} {n b o : Nat} {L : Loc} {c : T Value} {e z : Nat} {cl : Bool} {vs : List Value} {u : Value} (hg : isAggT P ty = some g) (hn : sizeT P ty = some n)
    (hb : m b = some (.cells c e z cl)) (hL : ρ b = some L) (hr : readFrom c o (if g then n else 1) = some vs) (hp : partL g (if g then n else 1) vs = some u) :
    ∃ u', VR ρ u u' ∧ (loadVar ty ⟨L.blk, L.base + o, none⟩).run P w = .ok u' w := by
  obtain ⟨vs', h1, h2, h3⟩ := hm.read hb hL hr
  obtain ⟨u', h4, h5, h6⟩ := run_loadVar hg hn h2 h3
  refine ⟨u', ?_, h4⟩
  rcases partL_some hp with ⟨rfl, rfl⟩ | ⟨rfl, rfl⟩
  · rw [h5 rfl]; exact .agg h1
  · rw [h6 rfl] at h1; cases h1 with | cons h7 _ => exact h7

theorem read_load {dst ty pos after guard} {s : TypeId} {g : Bool} {n : Nat} {x : Operand} (hm : HR ρ h.objs.get w) (hg : isAggT P s = some g) (hn : sizeT P s = some n)
    (hT : ∀ v, opd t x = some v → VR ρ v (a.eval x)) (he : oLoad g (if g then n else 1) x t h = some (v, h')) : h' = h ∧ Read0 P ρ a ⟨dst, .load s x, ty, pos, after, guard⟩ w v := by
  obtain ⟨u, h1, h2⟩ := ob_some.1 he
  obtain ⟨p, h3, h4⟩ := ob_some.1 h2
  obtain ⟨vs, h5, h6⟩ := ob_some.1 h4
  obtain ⟨r, h7, h8⟩ := ob_some.1 h6
  cases h8
  rw [asPtr_some] at h3; subst h3
  obtain ⟨c, e, z, cl, h9, h10⟩ := read_some h5
  obtain ⟨L, hL, ex⟩ := (hT _ h1).ptr_inv
  obtain ⟨u', h11, h12⟩ := loadVar_sound hm hg hn h9 hL h10 h7
  exact ⟨rfl, u', h11, by simp [execOp, Instr.loadAt, Instr.sureAddr, ex, h12]⟩

/-! ### Maps. -/
theorem getMap_some {r : Nat} {p : List MapEntry × Nat} (hg : h.getMap r = some p) : h.objs.get r = some (.map p.1 p.2) := by
  obtain ⟨o, h1, h2⟩ := ob_some.1 hg
  cases o with
  | map es c => cases h2; exact h1
  | cells => cases h2
  | text => cases h2
  | loop => cases h2
theorem HR.map {m : Objs} (hm : HR ρ m w) {r : Nat} {es : List MapEntry} {k : Nat} {L : Loc} (hb : m r = some (.map es k)) (hL : ρ r = some L) : ∃ es', w.heap[L.blk]? = some (.map es' k) ∧ MR ρ es es'.toList := by
  obtain ⟨M, o, h1, h2, es', rfl, h4⟩ := hm.obj r _ hb
  rw [hL] at h1; cases h1
  exact ⟨es', h2, h4⟩
theorem run_getMap {r : Nat} {es : Array MapEntry} {k : Nat} (hb : w.heap[r]? = some (.map es k)) : (getObj r).run P w = .ok (.map es k) w := by simp [getObj, Sem.run, hb]
theorem MR.length {es es' : List MapEntry} (h : MR ρ es es') : es.length = es'.length := by induction h with | nil => rfl | cons _ _ _ _ ih => simp [ih]

theorem read_lenMap {dst ty pos after guard} {x : Operand} {s k e : TypeId} {ats : Array TypeId} (hm : HR ρ h.objs.get w) (hs : ats[0]? = some s) (hd : P.underlying s = some (.map k e))
    (hT : ∀ v, opd t x = some v → VR ρ v (a.eval x)) (he : oLenMap x t h = some (v, h')) : h' = h ∧ Read0 P ρ a ⟨dst, .call ⟨.builtin .len, #[x], ats⟩, ty, pos, after, guard⟩ w v := by
  obtain ⟨u, h1, h2⟩ := ob_some.1 he
  have hv := hT _ h1
  unfold lenMapV at h2
  split at h2
  · cases h2
    obtain ⟨A, ex, _⟩ := isNoneN_map hv
    have ex' : a.eval x = .map none := by generalize a.eval x = y at hv; cases hv; rfl
    exact ⟨rfl, _, .int _ _, by simp [execOp, resolve, invoke, builtin, Builtin.len_, hs, ex', run_underlying hd, goInt]⟩
  · rename_i r
    obtain ⟨p, h3, h4⟩ := ob_some.1 h2
    cases h4
    have h5 := getMap_some h3
    have ex : ∃ L, ρ r = some L ∧ a.eval x = .map (some L.blk) := by generalize a.eval x = y at hv; cases hv with | map hL => exact ⟨_, hL, rfl⟩
    obtain ⟨L, hL, ex⟩ := ex
    obtain ⟨es', h6, h7⟩ := hm.map h5 hL
    refine ⟨rfl, _, .int _ _, ?_⟩
    rw [h7.length]
    simp [execOp, resolve, invoke, builtin, Builtin.len_, hs, ex, run_underlying hd, goInt, run_getMap h6]
  · cases h2

theorem keyOk_spec {k : TypeId} (hk : 1 ≤ keyOk P k) : (keyOk P k = 1 ∧ ∃ j, P.underlying k = some (.int j)) ∨ (keyOk P k = 2 ∧ P.underlying k = some .string) := by
  unfold keyOk at hk ⊢
  split at hk
  · rename_i j hj; exact .inl ⟨by simp [hj], j, hj⟩
  · rename_i hj; exact .inr ⟨by simp [hj], hj⟩
  · omega
theorem run_checkKey' {d : Nat} {k : TypeId} (hk : 1 ≤ keyOk P k) (b : Bool) (v : Value) : (Instr.checkKey b (d + 1) k v).run P w = .ok () w := by
  rcases keyOk_spec hk with ⟨_, j, hj⟩ | ⟨_, hj⟩
  · simp only [Instr.checkKey, Sem.run_bind, run_underlying hj, Result.andThen_ok]; rfl
  · simp only [Instr.checkKey, Sem.run_bind, run_underlying hj, Result.andThen_ok]; rfl
theorem run_checkKey {k : TypeId} (hk : 1 ≤ keyOk P k) (b : Bool) (v : Value) : (Instr.checkKey b 10000 k v).run P w = .ok () w := run_checkKey' (d := 9999) hk b v
theorem beq_text (a b : ByteArray) : (a == b) = textEq a b := by
  rw [Bool.eq_iff_iff, textEq_iff]
  constructor
  · intro h
    have h' : (a.data == b.data) = true := h
    cases a; cases b; simp at h'; simp [h']
  · intro h; subst h; show (a.data == a.data) = true; simp
theorem keyKind_int {v : Value} (h : keyKind v = 1) : ∃ j n, v = .int j n := by cases v <;> first | exact ⟨_, _, rfl⟩ | cases h
theorem keyKind_text {v : Value} (h : keyKind v = 2) : ∃ s, v = .string s := by cases v <;> first | exact ⟨_, rfl⟩ | cases h
/-- A key of its type's kind: the model's quick look answers as the evaluator does. -/
theorem sameNow_of {k : TypeId} {v : Value} {d : TypeDesc} (hd : P.underlying k = some d) (hk : 1 ≤ keyOk P k) (hv : keyKind v = keyOk P k) (u : Value) (r : Bool) (h : keyEq v u = some r) : Instr.sameNow d v u = some r := by
  rcases keyOk_spec hk with ⟨h1, j, hj⟩ | ⟨h1, hj⟩
  · rw [hj] at hd; cases hd
    obtain ⟨i, a, rfl⟩ := keyKind_int (hv.trans h1)
    obtain ⟨q, h1, h2⟩ := ob_some.1 (show (ob (asInt u) fun q => og (kindEq i q.1) (some (intEq a q.2))) = some r from h)
    obtain ⟨h3, h4⟩ := og_some.1 h2
    cases h4
    rw [asInt_some] at h1; subst h1
    obtain rfl := kindEq_iff.1 h3
    simp [Instr.sameNow, intEq_eq]
  · rw [hj] at hd; cases hd
    obtain ⟨s, rfl⟩ := keyKind_text (hv.trans h1)
    obtain ⟨q, h1, h2⟩ := ob_some.1 (show (ob (asText u) fun b => some (textEq s b)) = some r from h)
    cases h2
    rw [asText_some] at h1; subst h1
    simp only [Instr.sameNow, beq_text]
theorem keyKind_plain {v : Value} {k : TypeId} (hk : 1 ≤ keyOk P k) (hv : keyKind v = keyOk P k) : plain v = true := by
  rcases keyOk_spec hk with ⟨h1, _⟩ | ⟨h1, _⟩
  · obtain ⟨i, a, rfl⟩ := keyKind_int (hv.trans h1); rfl
  · obtain ⟨s, rfl⟩ := keyKind_text (hv.trans h1); rfl

theorem findKey_cons (k : Value) (e : MapEntry) (es : List MapEntry) (i : Nat) : findKey k (e :: es) i = ob (keyEq k e.key) fun r => oi r (some (some (i, e))) (findKey k es (i + 1)) := rfl
theorem findNow_of {d : TypeDesc} {k : Value} (hs : ∀ u r, keyEq k u = some r → Instr.sameNow d k u = some r) : ∀ {es : List MapEntry} {es' : List MapEntry} {i : Nat} {f : Option (Nat × MapEntry)},
    MR ρ es es' → findKey k es i = some f → ∃ f', Instr.findNow d k es' i = some f' ∧
      match f with | none => f' = none | some (j, e) => i ≤ j ∧ es[j - i]? = some e ∧ ∃ e', es'[j - i]? = some e' ∧ f' = some (j, e'.val) ∧ e'.born = e.born ∧ VR ρ e.key e'.key ∧ plain e.key = true ∧ VR ρ e.val e'.val ∧ keyEq k e.key = some true
  | _, _, i, f, .nil, h => by cases h; exact ⟨none, rfl, rfl⟩
  | _, _, i, f, .cons (k := k1) (k' := k1') (v := v1) (v' := v1') (n := n1) hk hp hv ht, h => by
    rw [findKey_cons] at h
    obtain ⟨r, h1, h2⟩ := ob_some.1 h
    have e1 := plain_eq hk hp
    simp only [Instr.findNow]
    rw [e1, hs _ _ h1]
    cases r with
    | true =>
      cases h2
      refine ⟨some (i, v1'), rfl, Nat.le_refl _, by simp, ⟨k1', v1', n1⟩, by simp [e1], rfl, rfl, hk, hp, hv, h1⟩
    | false =>
      obtain ⟨f', h3, h4⟩ := findNow_of hs ht h2
      refine ⟨f', h3, ?_⟩
      cases f with
      | none => exact h4
      | some je =>
        obtain ⟨j, e⟩ := je
        obtain ⟨g1, g2, e', g3, g4⟩ := h4
        have : j - i = (j - (i + 1)) + 1 := by omega
        refine ⟨by omega, by rw [this]; simpa using g2, e', by rw [this]; simpa using g3, g4⟩
theorem run_findKey {k : TypeId} {v : Value} {es : List MapEntry} {es' : Array MapEntry} {f : Option (Nat × MapEntry)} (hk : 1 ≤ keyOk P k) (hv : keyKind v = keyOk P k) (hm : MR ρ es es'.toList) (hf : findKey v es 0 = some f) :
    ∃ f', (∀ w, (Instr.findKey k v es'.toList).run P w = .ok f' w) ∧
      match f with | none => f' = none | some (j, e) => es[j]? = some e ∧ ∃ e', es'[j]? = some e' ∧ f' = some (j, e'.val) ∧ e'.born = e.born ∧ VR ρ e.key e'.key ∧ plain e.key = true ∧ VR ρ e.val e'.val ∧ keyEq v e.key = some true := by
  obtain ⟨d, hd⟩ : ∃ d, P.underlying k = some d := by rcases keyOk_spec hk with ⟨_, j, hj⟩ | ⟨_, hj⟩ <;> exact ⟨_, by assumption⟩
  obtain ⟨f', h1, h2⟩ := findNow_of (d := d) (sameNow_of hd hk hv) hm hf
  refine ⟨f', fun w => ?_, ?_⟩
  · simp only [Instr.findKey, Sem.run_bind, run_underlying hd, Result.andThen_ok, h1]; rfl
  · cases f with
    | none => exact h2
    | some je =>
      obtain ⟨j, e⟩ := je
      obtain ⟨_, g2, e', g3, g4⟩ := h2
      exact ⟨by simpa using g2, e', by simpa using g3, g4⟩

theorem read_lookup {dst ty pos after guard} {x i : Operand} {s k e : TypeId} {z : Value} {ok : Bool} (hm : HR ρ h.objs.get w) (hd : P.underlying s = some (.map k e)) (hk : 1 ≤ keyOk P k) (hz : zeroT P e = some z)
    (hx : ∀ v, opd t x = some v → VR ρ v (a.eval x)) (hi : ∀ v, opd t i = some v → VR ρ v (a.eval i)) (he : oLookup (keyOk P k) z x i ok t h = some (v, h')) :
    h' = h ∧ Read0 P ρ a ⟨dst, .lookup s x i ok, ty, pos, after, guard⟩ w v := by
  obtain ⟨hc, h1⟩ := og_some.1 he
  obtain ⟨kv, h2, h3⟩ := ob_some.1 h1
  obtain ⟨h4, h5⟩ := og_some.1 h3
  obtain ⟨u, h6, h7⟩ := ob_some.1 h5
  have h4 := Nat.eq_of_beq_eq_true h4
  have hz' := constOk_refl hc ρ
  have ek : a.eval i = kv := plain_eq (hi _ h2) (keyKind_plain hk h4)
  have hv := hx _ h6
  have fin : ∀ (b : Bool) (r r' : Value), VR ρ r r' → VR ρ (oi ok (.tuple ⟨[r, .bool b]⟩) r) (if ok then .tuple #[r', .bool b] else r') := fun b r r' hr => by
    cases ok with
    | true => exact .tuple (.cons hr (.cons (.bool b) .nil))
    | false => exact hr
  unfold lookupV at h7
  split at h7
  · cases h7
    have ex : a.eval x = .map none := by generalize a.eval x = y at hv; cases hv; rfl
    refine ⟨rfl, _, fin false _ _ hz', ?_⟩
    simp only [execOp, Instr.lookup, Sem.run_bind, run_underlying hd, Result.andThen_ok, ex, ek, Sem.run_pure, run_checkKey hk]
    have : (Instr.findKey k kv (#[] : Array MapEntry).toList).run P w = .ok none w := by
      obtain ⟨f', g1, g2⟩ := run_findKey (ρ := ρ) (es' := #[]) hk h4 .nil (show findKey kv [] 0 = some none from rfl)
      simp only at g2; subst g2; exact g1 w
    rw [this]
    simp only [Sem.run_bind, Result.andThen_ok, run_zeroT hz, Sem.run_pure]
  · rename_i r
    obtain ⟨p, h8, h9⟩ := ob_some.1 h7
    obtain ⟨f, h10, h11⟩ := ob_some.1 h9
    have ex : ∃ L, ρ r = some L ∧ a.eval x = .map (some L.blk) := by generalize a.eval x = y at hv; cases hv with | map hL => exact ⟨_, hL, rfl⟩
    obtain ⟨L, hL, ex⟩ := ex
    obtain ⟨es', g1, g2⟩ := hm.map (getMap_some h8) hL
    obtain ⟨f', g3, g4⟩ := run_findKey hk h4 g2 h10
    have start : (Instr.lookup s (.map (some L.blk)) kv ok).run P w = (match f' with
        | some (_, v) => .ok (if ok then .tuple #[v, .bool true] else v) w
        | none => .ok (if ok then .tuple #[z, .bool false] else z) w) := by
      simp only [Instr.lookup, Sem.run_bind, run_underlying hd, Result.andThen_ok, run_getMap g1, Sem.run_pure, run_checkKey hk, g3]
      cases f' with
      | none => simp only [Sem.run_bind, run_zeroT hz, Result.andThen_ok, Sem.run_pure]
      | some je => obtain ⟨j, e⟩ := je; simp only [Sem.run_bind, Result.andThen_ok, Sem.run_pure]
    cases f with
    | none =>
      cases h11
      simp only at g4; subst g4
      exact ⟨rfl, _, fin false _ _ hz', by simp only [execOp, ex, ek, Sem.run_bind, start]; rfl⟩
    | some je =>
      obtain ⟨j, e⟩ := je
      cases h11
      obtain ⟨_, e', _, rfl, _, _, _, g5, _⟩ := g4
      exact ⟨rfl, _, fin true _ _ g5, by simp only [execOp, ex, ek, Sem.run_bind, start]; rfl⟩
  · cases h7
/-! ### Bytes as a text. -/
theorem valsBytes_some : ∀ {vs : List Value} {bs : List UInt8}, valsBytes vs = some bs → ∀ {vs' : List Value}, VRL ρ vs vs' → ∀ (s : ByteArray), ∃ u : ByteArray, u.data.toList = s.data.toList ++ bs ∧
    ∀ (f : Value → ByteArray → Sem (ForInStep ByteArray)), (∀ n s, f (.int .u8 n) s = pure (ForInStep.yield (s.push (UInt8.ofNat n.toNat)))) → (forIn vs' s f : Sem ByteArray).run P w = .ok u w
  | [], bs, h, _, hv, s => by
    cases h; cases hv
    exact ⟨s, by simp, fun f _ => by simp [List.forIn_nil]⟩
  | v :: vs, bs, h, _, hv, s => by
    cases v with
    | int k n =>
      cases k with
      | u8 =>
        have h' : (match valsBytes vs with | none => none | some bs => some (UInt8.ofNat n.toNat :: bs)) = some bs := h
        cases hb : valsBytes vs with
        | none => simp [hb] at h'
        | some bs0 =>
          simp [hb] at h'
          subst h'
          cases hv with
          | cons h1 h2 =>
            rw [h1.int_inv]
            obtain ⟨u, g2, g1⟩ := valsBytes_some hb h2 (s.push (UInt8.ofNat n.toNat))
            refine ⟨u, by rw [g2]; simp [ByteArray.push], fun f hf => ?_⟩
            simp only [List.forIn_cons, hf, Sem.run_bind, Sem.run_pure, Result.andThen_ok]
            exact g1 f hf
      | _ => cases h
    | _ => cases h

theorem run_bytesToString {b o n : Nat} {vs vs' : List Value} {bs : List UInt8} {c : Nat} (hl : VRL ρ vs vs') (hn : vs'.length = n) (hc : ∀ j v', vs'[j]? = some v' → w.cell? ⟨b, o + j, none⟩ = some v') (hb : valsBytes vs = some bs) :
    (Conv.bytesToString (.slice (some ⟨b, o, none⟩) n c)).run P w = .ok (.string ⟨⟨bs⟩⟩) w := by
  obtain ⟨u, h2, h1⟩ := valsBytes_some (P := P) (w := w) hb hl ByteArray.empty
  have hu : u = ⟨⟨bs⟩⟩ := by rw [ByteArray.ext_iff]; apply Array.ext'; simpa using h2
  simp only [Conv.bytesToString, Sem.run_bind, run_load_list hn hc, Result.andThen_ok]
  rw [← Array.forIn_toList]
  rw [h1 _ (by intro n s; rfl), hu]
  rfl

theorem read_textOf {dst ty pos after guard} {s d e : TypeId} {x : Operand} (hm : HR ρ h.objs.get w) (hs : P.underlying s = some (.slice e)) (he8 : P.underlying e = some (.int .u8)) (hd : P.underlying d = some .string)
    (hT : ∀ v, opd t x = some v → VR ρ v (a.eval x)) (he : oTextOf x t h = some (v, h')) : h' = h ∧ Read0 P ρ a ⟨dst, .convert s d x, ty, pos, after, guard⟩ w v := by
  obtain ⟨u, h1, h2⟩ := ob_some.1 he
  have hv := hT _ h1
  unfold textOfV at h2
  split at h2
  · rename_i n c
    cases h2
    have ex : a.eval x = .slice none 0 0 := by generalize a.eval x = y at hv; cases hv; rfl
    refine ⟨rfl, _, .string _, ?_⟩
    simp only [execOp, ex, convert, Sem.run_bind, run_underlying hs, run_underlying hd, run_underlying he8, Result.andThen_ok, Conv.bytesToString, Sem.run_pure]
    rfl
  · rename_i b o n c
    obtain ⟨vs, h3, h4⟩ := ob_some.1 h2
    obtain ⟨bs, h5, h6⟩ := ob_some.1 h4
    cases h6
    obtain ⟨cc, e', z, cl, h7, h8⟩ := read_some h3
    have ex : (∃ L c', ρ b = some L ∧ a.eval x = .slice (some ⟨L.blk, L.base + o, none⟩) n c') ∨ (n = 0 ∧ ∃ b' o', a.eval x = .slice (some ⟨b', o', none⟩) 0 0) := by
      generalize a.eval x = y at hv
      cases hv with
      | slice hL => exact .inl ⟨_, _, hL, rfl⟩
      | slice0 => exact .inr ⟨rfl, _, _, rfl⟩
    refine ⟨rfl, _, .string _, ?_⟩
    rcases ex with ⟨L, c', hL, ex⟩ | ⟨rfl, b', o', ex⟩
    · obtain ⟨vs', g1, g2, g3⟩ := hm.read h7 hL h8
      simp only [execOp, ex, convert, Sem.run_bind, run_underlying hs, run_underlying hd, run_underlying he8, Result.andThen_ok, run_bytesToString g1 g2 g3 h5, Sem.run_pure]
    · have : vs = [] := by cases h8; rfl
      subst this
      cases h5
      have := run_bytesToString (P := P) (w := w) (b := b') (o := o') (c := 0) (ρ := ρ) .nil rfl (fun j v' hj => by simp at hj) (show valsBytes [] = some [] from rfl)
      simp only [List.length_nil] at this
      simp only [execOp, ex, convert, Sem.run_bind, run_underlying hs, run_underlying hd, run_underlying he8, Result.andThen_ok, this, Sem.run_pure]
  · cases h2

/-! ### Two pointers. -/
theorem isClean_some {b : Nat} (hc : h.isClean b = true) : ∃ c e z, h.objs.get b = some (.cells c e z true) := by
  unfold Heap.isClean at hc
  cases ho : h.objs.get b with
  | none => rw [ho] at hc; cases hc
  | some o =>
    rw [ho] at hc
    cases o with
    | cells c e z cl => have hc' : cl = true := hc; subst hc'; exact ⟨c, e, z, rfl⟩
    | map => cases hc
    | text => cases hc
    | loop => cases hc

theorem run_sameAddr {b c o p : Nat} {C D : Array Value} {e f : TypeId} (hb : w.heap[b]? = some (.cells C e (0, 0))) (hc : w.heap[c]? = some (.cells D f (0, 0))) :
    (sameAddr ⟨b, o, none⟩ ⟨c, p, none⟩).run P w = .ok (if b = c then o == p else false) w := by
  unfold sameAddr
  by_cases hbc : b = c
  · subst hbc
    simp
    rw [Bool.eq_iff_iff]; simp
  · have fb : ∀ off, w.frozen? ⟨b, off, none⟩ = false := fun off => by simp [World.frozen?, hb]
    have fc : ∀ off, w.frozen? ⟨c, off, none⟩ = false := fun off => by simp [World.frozen?, hc]
    have sb : w.shape? b = some (e, C.size) := by simp [World.shape?, hb]
    have sc : w.shape? c = some (f, D.size) := by simp [World.shape?, hc]
    simp [hbc, fb, fc, noView, viewAt, sb, sc, mayBeOne, stringish]

theorem run_eq_pnil {d : Nat} {s e : TypeId} (hd : P.underlying s = some (.pointer e)) (A : Option Addr) : (Op.equalIn (d + 1) s (.pointer none) (.pointer A)).run P w = .ok (isNoneA A) w := by
  simp only [Op.equalIn, Sem.run_bind, run_underlying hd, Result.andThen_ok]; cases A <;> rfl
theorem run_eq_psome {d : Nat} {s e : TypeId} (hd : P.underlying s = some (.pointer e)) (A : Addr) : (Op.equalIn (d + 1) s (.pointer (some A)) (.pointer none)).run P w = .ok false w := by
  simp only [Op.equalIn, Sem.run_bind, run_underlying hd, Result.andThen_ok]; rfl
theorem run_eq_ptr {d : Nat} {s e n : Nat} (hd : P.underlying s = some (.pointer e)) (hn : sizeT P e = some n) (hn0 : n ≠ 0) (A B : Addr) : (Op.equalIn (d + 1) s (.pointer (some A)) (.pointer (some B))).run P w = (sameAddr A B).run P w := by
  simp only [Op.equalIn, Sem.run_bind, run_underlying hd, Result.andThen_ok, run_sizeT hn, ne_eq, hn0, not_false_eq_true, if_true]

theorem read_binPtr {dst ty pos after guard} {op : BinOp} {s s2 el : TypeId} {n : Nat} {x y : Operand} (hm : HR ρ h.objs.get w) (hd : P.underlying s = some (.pointer el)) (hn : sizeT P el = some n) (hn0 : n ≠ 0)
    (hx : ∀ v, opd t x = some v → VR ρ v (a.eval x)) (hy : ∀ v, opd t y = some v → VR ρ v (a.eval y)) (he : oBin op 2 x y t h = some (v, h')) : h' = h ∧ Read0 P ρ a ⟨dst, .binOp op s x y s2, ty, pos, after, guard⟩ w v := by
  obtain ⟨u, h3, h4⟩ := ob_some.1 he
  obtain ⟨u2, h5, h6⟩ := ob_some.1 h4
  obtain ⟨r, h7, h8⟩ := ob_some.1 h6
  cases h8
  have hv := hx _ h3
  have hv2 := hy _ h5
  have fin : ∀ {e b : Bool} {x' y' : Value}, isEql op = some e → Calm x' → a.eval x = x' → a.eval y = y' → (Op.equal s x' y').run P w = .ok b w → h = h ∧ Read0 P ρ a ⟨dst, .binOp op s x y s2, ty, pos, after, guard⟩ w (eqBool e b) := by
    intro e b x' y' g1 g2 g3 g4 g5
    refine ⟨rfl, _, .bool _, ?_⟩
    have := runs_eql (X := x) (Y := y) g1 g2 g5
    simp only [execOp, Sem.run_bind, g3, g4] at this ⊢
    rw [this]; rfl
  have other : ∀ {z : Value}, u = z → (ob (isEql op) (binEql h 2 z u2)) = some v → h = h ∧ Read0 P ρ a ⟨dst, .binOp op s x y s2, ty, pos, after, guard⟩ w v := by
    intro z hz hh
    subst hz
    obtain ⟨e, g1, g2⟩ := ob_some.1 hh
    obtain ⟨b, g3, g4⟩ := ob_some.1 g2
    cases g4
    obtain ⟨A, k1, k2⟩ := ob_some.1 (show (ob (asPtrO u) fun a => ob (asPtrO u2) fun b => eqPtr h a b) = some b from g3)
    obtain ⟨B, k3, k4⟩ := ob_some.1 k2
    rw [asPtrO_some] at k1 k3; subst k1; subst k3
    have pn : ∀ {z : Value}, VR ρ (.pointer none) z → z = .pointer none := fun hh => by cases hh; rfl
    cases A with
    | none =>
      have k4' : some (isNoneA B) = some b := k4
      cases k4'
      have ex := pn hv
      cases B with
      | none =>
        refine fin g1 (.inr (.inl ⟨_, rfl⟩)) ex (pn hv2) ?_
        rw [equal_at, run_eq_pnil hd]
      | some B =>
        obtain ⟨q, ey⟩ := hv2.psome_inv
        refine fin g1 (.inr (.inl ⟨_, rfl⟩)) ex ey ?_
        rw [equal_at, run_eq_pnil hd]; rfl
    | some A =>
      cases B with
      | none =>
        have k4' : some false = some b := k4
        cases k4'
        obtain ⟨q, ex⟩ := hv.psome_inv
        refine fin g1 (.inr (.inl ⟨_, rfl⟩)) ex (pn hv2) ?_
        rw [equal_at, run_eq_psome hd]
      | some B =>
        obtain ⟨p, k5, k6⟩ := ob_some.1 (show (ob (ptrAt (some A)) fun p => ob (ptrAt (some B)) fun q => eqPtr2 h p q) = some b from k4)
        obtain ⟨q, k7, k8⟩ := ob_some.1 k6
        obtain ⟨k9, k10⟩ := og_some.1 k8
        obtain ⟨k11, k12⟩ := og_some.1 k10
        cases k12
        rw [ptrAt_some] at k5 k7
        cases k5; cases k7
        obtain ⟨L, hL, ex⟩ := hv.ptr_inv
        obtain ⟨M, hM, ey⟩ := hv2.ptr_inv
        obtain ⟨c1, e1, z1, o1⟩ := isClean_some k9
        obtain ⟨c2, e2, z2, o2⟩ := isClean_some k11
        obtain ⟨L', r1, m1, m2, C, e1', f1, rfl, _, _, m3, _⟩ := hm.obj _ _ o1
        obtain ⟨M', r2, m4, m5, D, e2', f2, rfl, _, _, m6, _⟩ := hm.obj _ _ o2
        rw [hL] at m1; cases m1
        rw [hM] at m4; cases m4
        rw [m3 rfl] at m2
        rw [m6 rfl] at m5
        refine fin g1 (.inr (.inl ⟨_, rfl⟩)) ex ey ?_
        rw [equal_at, run_eq_ptr hd hn hn0, run_sameAddr m2 m5]
        congr 1
        by_cases hbc : p.1 = q.1
        · have : L.blk = M.blk := by rw [hbc, hM] at hL; cases hL; rfl
          rw [if_pos this, oi_eq, beq_eq, beq_eq]
          simp [hbc]
          rw [hbc, hM] at hL; cases hL
          rw [Bool.eq_iff_iff]; simp
        · have hne : L.blk ≠ M.blk := fun e => hbc (hm.inj _ _ _ _ _ _ o1 o2 hL hM e)
          rw [if_neg hne, oi_eq, beq_eq]
          simp [hbc]
  cases u with
  | int j n0 =>
    obtain ⟨k, m, rfl, e1, e2⟩ := bin_int (P := P) s x y (show binInt op j n0 u2 = some v from h7)
    refine ⟨rfl, _, plain_refl e1 ρ, ?_⟩
    have := e2 w
    simp only [execOp, Sem.run_bind, hv.int_inv, hv2.int_inv] at this ⊢
    rw [this]; rfl
  | float j n0 =>
    obtain ⟨k, m, rfl, e1, e2⟩ := bin_float (P := P) s x y (show binFloat op j n0 u2 = some v from h7)
    refine ⟨rfl, _, plain_refl e1 ρ, ?_⟩
    have := e2 w
    simp only [execOp, Sem.run_bind, hv.float_inv, hv2.float_inv] at this ⊢
    rw [this]; rfl
  | string n0 =>
    obtain ⟨m, rfl, e1, e2⟩ := bin_text (P := P) s x y (show binTextV op n0 u2 = some v from h7)
    refine ⟨rfl, _, plain_refl e1 ρ, ?_⟩
    have := e2 w
    simp only [execOp, Sem.run_bind, hv.string_inv, hv2.string_inv] at this ⊢
    rw [this]; rfl
  | _ => exact other rfl h7
end
end Go.Ev
