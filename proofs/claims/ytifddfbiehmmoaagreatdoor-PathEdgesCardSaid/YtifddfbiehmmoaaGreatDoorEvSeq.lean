/- One operation in its place; regions in the order of the text. -/
import Derived.Test.YtifddfbiehmmoaaGreatDoorEvDisp
import Derived.OrdersIn
namespace Go.Ev
open Go
set_option linter.unusedSimpArgs false

def Free (ρ : Ren) (h h' : Heap) : Prop := ∀ b, h.next ≤ b → b < h'.next → ρ b = none

/-- What comes behind an operation, or a call. -/
def After (ρ : Ren) (h : Heap) (w : World) (v : Value) (h' : Heap) (v' : Value) (w' : World) (ρ' : Ren) : Prop :=
  VR ρ' v v' ∧ HR ρ' h'.objs.get w' ∧ Fr ρ h.objs.get w ρ' h'.objs.get w' h.next h'.next

/-- A fence that lets all in. -/
structure Open (F : Fence) : Prop where
  fn : ∀ f, F.fn f
  depth : F.depth = none
theorem Open.room {F : Fence} (hF : Open F) (n : Nat) : F.depth.isSome = true → 1 ≤ n := fun h => by rw [hF.depth] at h; cases h

/-- A call comes back. -/
def CallOut (P : Program) (f : Nat) (args' : List Value) (w : World) (R : Value → World → Prop) : Prop :=
  (∃ v' w', (callFunc f ⟨args'⟩).run P w = .ok (.value v') w' ∧ (∀ u ∈ args', ∀ l x y, u ≠ .func (.yield l) x y) ∧ R v' w') ∨
  ((callFunc f ⟨args'⟩).run P w = .ok (.enter f ⟨args'⟩) w ∧ ∀ F n, Open F → F.round = none → CallsIn F n P f ⟨args'⟩ w fun e w' => ∃ v', e = .returned v' ∧ R v' w')
/-- A round comes back. -/
def RoundOut (P : Program) (l : Nat) (args' : List Value) (w : World) (R : Value → World → Prop) : Prop :=
  ∃ f tmps assign body, (Instr.yield l ⟨args'⟩).run P w = .ok (.round l f tmps assign body) w ∧ ∀ F n, Open F → RoundIn F n P l f tmps assign body w fun e w' => ∃ v', e = .returned v' ∧ R v' w'
/-- Calls that are sound: of functions (twice their number), of loops' rounds (twice and one). -/
def CallR (P : Program) (call : CallF) : Prop := ∀ c args h v h', call c args h = some (v, h') → Ok P h h' ∧ (Wf P h → ∀ ρ args' w, VRL ρ args args' → HR ρ h.objs.get w → Free ρ h h' →
  (∀ f, c = 2 * f → CallOut P f args' w fun v' w' => ∃ ρ', After ρ h w v h' v' w' ρ') ∧
  (∀ k L, c = 2 * k + 1 → ρ k = some L → RoundOut P L.blk args' w fun v' w' => ∃ ρ', After ρ h w v h' v' w' ρ'))

/-! ### How an operation is compiled. -/
def GuardOk (ops : Array Oper) (o : Oper) (g : Option (Nat × Bool)) : Prop :=
  (o.guard = none ∧ g = none) ∨ ∃ j w d go, o.guard = some (j, w) ∧ ops[j]? = some go ∧ go.dst = some d ∧ g = some (d, w)
structure CompO (P : Program) (n : Nat) (ops : Array Oper) (o : Oper) (ao : AOper) : Prop where
  dst : dstOk n o.dst = true
  dst' : ao.dst = o.dst
  op : compOp P o = some ao.op
  call : ao.isCall = isCallOp ao.op
  kind : ao.kind = kindOf ao.op
  guard : GuardOk ops o ao.guard
section
variable {P : Program} {n : Nat} {ops : Array Oper}
theorem compOper_spec {o : Oper} {ao : AOper} (hc : compOper P n ops o = some ao) : CompO P n ops o ao := by
  unfold compOper at hc
  obtain ⟨h1, h2⟩ := bif_some.1 hc
  split at h2
  · cases h2
  · rename_i ap hap
    split at h2
    · rename_i hg
      cases h2
      exact ⟨h1, rfl, hap, rfl, rfl, .inl ⟨hg, rfl⟩⟩
    · rename_i j w hg
      split at h2
      · rename_i g hj
        split at h2
        · rename_i d hd
          cases h2
          exact ⟨h1, rfl, hap, rfl, rfl, .inr ⟨j, w, d, g, hg, by simpa using hj, hd, rfl⟩⟩
        · cases h2
      · cases h2
theorem compOpers_spec : ∀ {os : List Oper} {l : List AOper}, compOpers P n ops os = some l → l.length = os.length ∧ ∀ (i : Nat) (o : Oper), os[i]? = some o → ∃ ao : AOper, l[i]? = some ao ∧ CompO P n ops o ao
  | [], l, h => by cases h; exact ⟨rfl, fun i o ho => by simp at ho⟩
  | o :: os, l, h => by
    unfold compOpers at h
    split at h
    · cases h
    · rename_i a ha
      split at h
      · cases h
      · rename_i r hr
        cases h
        obtain ⟨h1, h2⟩ := compOpers_spec hr
        refine ⟨by simp [h1], fun i x hx => ?_⟩
        cases i with
        | zero => simp at hx; subst hx; exact ⟨a, rfl, compOper_spec ha⟩
        | succ i => obtain ⟨ao, k1, k2⟩ := h2 i x (by simpa using hx); exact ⟨ao, by simpa using k1, k2⟩
end

section
variable {P : Program} {n : Nat} {ops : Array Oper} {ρ : Ren} {t : TM} {a : Act} {h h' : Heap} {v : Value} {w : World} {o : Oper} {ao : AOper}

/-- A guard is read as it is. -/
theorem guard_sound {b : Bool} (hg : GuardOk ops o ao.guard) (hw : wantedA t ao.guard = some b) (hrel : ∀ d wt, ao.guard = some (d, wt) → ∀ v, t.get d = some v → ∃ v', a.tmps[d]? = some v' ∧ VR ρ v v') :
    Region.wanted o (yielded ops a.tmps) = b := by
  rcases hg with ⟨h1, h2⟩ | ⟨j, wt, d, go, h1, h2, h3, h4⟩
  · rw [h2] at hw
    cases hw
    simp [Region.wanted, h1]
  · rw [h4] at hw
    obtain ⟨v, h5, h6⟩ := ob_some.1 (show (ob (t.get d) fun v => some (wantedV wt v)) = some b from hw)
    cases h6
    obtain ⟨v', h7, h8⟩ := hrel d wt h4 v h5
    have hy : yielded ops a.tmps j = (match v' with | .bool b => some b | _ => none) := by
      simp only [yielded, h2, Option.bind_some, h3, h7]
      cases v' <;> rfl
    simp only [Region.wanted, h1, hy]
    cases h8 with
    | bool b => cases b <;> cases wt <;> rfl
    | _ => rfl

theorem After.of_pure {v' : Value} (hv : VR ρ v v') (hm : HR ρ h.objs.get w) : After ρ h w v h v' w ρ := ⟨hv, hm, Fr.refl ..⟩

theorem New0.eff (k : New0 P ρ a o h v h') (hm : HR ρ h.objs.get w) : EffAt P ρ a o w v h h' := by
  obtain ⟨sl, cells, cells', e, e', rfl, rfl, h1, h2⟩ := k
  intro hf
  have hnone := hf h.next (Nat.le_refl _) (Nat.lt_succ_self _)
  obtain ⟨L, eL⟩ : ∃ L : Loc, L = ⟨w.heap.size, 0, 0, 0⟩ := ⟨_, rfl⟩
  have hle := Ren.le_add hnone L
  have hor : OR (ρ.add h.next L) (.cells (fillFrom .nil 0 cells) e 0 true) L (.cells ⟨cells'⟩ e' (0, 0)) := by
    have := OR.row (ρ := ρ.add h.next L) (e := e) (e' := e') (z := 0) (cl := true) (rest := []) (h1.mono hle) (L := L) (by rw [eL]) (fun hh => absurd rfl hh)
    simpa using this
  refine eff_new (L := L) (n := w.drawn) hm (by rw [eL]) hor (h2 w) ?_ hf
  have := mk_VR (ρ := ρ.add h.next L) (sl := sl) (b := h.next) (L := L) (by simp [Ren.add]) (by rw [eL])
  rw [eL] at this ⊢; exact this

theorem Sound.any {ap : AOp} (s : Sound P ap o ρ t a) (hc : isCallOp ap = false) (hm : HR ρ h.objs.get w) (he : evalOp ap t h = some (v, h')) : EffAt P ρ a o w v h h' := by
  have hk : kindOf ap = 0 ∨ kindOf ap = 1 ∨ kindOf ap = 2 ∨ kindOf ap = 3 := by
    cases ap with
    | bin op d x y => simp only [kindOf]; cases Nat.beq d 2 <;> simp
    | _ => simp [kindOf]
  rcases hk with hk | hk | hk | hk
  · obtain ⟨rfl, v', k1, k2⟩ := s.pure hk he
    exact fun _ => ⟨v', w, ρ, .inl (k2 w), k1, hm, Fr.refl .., Nat.le_refl _⟩
  · obtain ⟨rfl, v', k1, k2⟩ := s.read hk hm he
    exact fun _ => ⟨v', w, ρ, .inl k2, k1, hm, Fr.refl .., Nat.le_refl _⟩
  · exact s.eff hk hc hm he
  · exact (s.new hk he).eff hm

theorem wpIn_of {F : Fence} {m : Nat} (hF : Open F) (hd : ∀ c, o.op ≠ .defer c) {K : Act → World → Prop} {Q : Exit → Act → World → Prop} {r : Result Next} (hr : (execOp a.eval o).run P w = r) (h : o.uponIn F m P a K Q r) : o.wpIn F m P a w K Q :=
  ⟨fun f _ => hF.fn f, by rw [Oper.semAt_eq _ _ _ hd, hr]; exact h⟩
theorem no_defer {ap : AOp} (hc : compOp P o = some ap) : ∀ c, o.op ≠ .defer c := fun c h => by
  unfold compOp at hc; rw [h] at hc; cases hc

theorem EffAt.wp {F : Fence} {m : Nat} {K : Act → World → Prop} {Q : Exit → Act → World → Prop} (hF : Open F) (hd : ∀ c, o.op ≠ .defer c) (k : EffAt P ρ a o w v h h') (hf : Free ρ h h') (hK : ∀ v' w' ρ', After ρ h w v h' v' w' ρ' → K (a.put o.dst v') w') : o.wpIn F m P a w K Q := by
  obtain ⟨v', w', ρ', h1, h2, h3, h4, _⟩ := k hf
  rcases h1 with h1 | ⟨h1, rfl⟩
  · exact wpIn_of hF hd h1 (hK _ _ _ ⟨h2, h3, h4⟩)
  · exact wpIn_of hF hd h1 (hK _ _ _ ⟨h2, h3, h4⟩)

theorem func_inv {f : Nat} {x y : List Value} {u : Value} (hv : VR ρ (.func (.func f) ⟨x⟩ ⟨y⟩) u) : ∃ x' y', u = .func (.func f) ⟨x'⟩ ⟨y'⟩ ∧ VRL ρ x x' ∧ VRL ρ y y' := by
  cases hv with | func _ h1 h2 => exact ⟨_, _, rfl, h1, h2⟩
theorem yield_inv {k : Nat} {x y : List Value} {u : Value} (hv : VR ρ (.func (.yield k) ⟨x⟩ ⟨y⟩) u) : x = [] ∧ y = [] ∧ ∃ L, ρ k = some L ∧ u = .func (.yield L.blk) ⟨[]⟩ ⟨[]⟩ := by
  cases hv with
  | func hn _ _ => exact absurd rfl (hn k)
  | yield h => exact ⟨rfl, rfl, _, h, rfl⟩
theorem call_ok {call : CallF} {ap : AOp} (hcall : CallR P call) (hc : compOp P o = some ap) (hcp : isCallOp ap = true) (he : evalAny call t h ap = some (v, h')) : Ok P h h' := by
  cases ap with
  | call f xs =>
    obtain ⟨fv, _, he⟩ := ob_some.1 (show doCall call t h f xs = some (v, h') from he)
    obtain ⟨g, _, he⟩ := ob_some.1 he
    obtain ⟨vs, _, he⟩ := ob_some.1 he
    exact (hcall _ _ _ _ _ he).1
  | _ => cases hcp

/-- An operation, taken. -/
theorem oper_sound {call : CallF} {F : Fence} {m : Nat} {K : Act → World → Prop} {Q : Exit → Act → World → Prop} (hF : Open F) (hcall : CallR P call) (hc : compOp P o = some ao.op) (hic : ao.isCall = isCallOp ao.op) (hT : ∀ x ∈ o.op.operands.toList, ∀ v, opd t x = some v → VR ρ v (a.eval x))
    (he : oi ao.isCall (evalAny call t h ao.op) (evalOp ao.op t h) = some (v, h')) :
    Ok P h h' ∧ (Wf P h → HR ρ h.objs.get w → Free ρ h h' → (∀ v' w' ρ', After ρ h w v h' v' w' ρ' → K (a.put o.dst v') w') → o.wpIn F m P a w K Q) := by
  have hd := no_defer hc
  rw [hic] at he
  cases hcp : isCallOp ao.op with
  | false =>
    rw [hcp] at he
    have he : evalOp ao.op t h = some (v, h') := he
    exact ⟨evalOp_ok _ _ _ he, fun _ hm hf hK => ((op_sound hc hT).any hcp hm he).wp hF hd hf hK⟩
  | true =>
    rw [hcp] at he
    have he : evalAny call t h ao.op = some (v, h') := he
    obtain ⟨f, args, ats, k1, k2⟩ := (op_sound hc hT).call hcp
    obtain ⟨dst, op, ty, pos, after, guard⟩ := o
    simp only at k2
    subst k2
    rw [k1] at he
    have he : doCall call t h f args.toList = some (v, h') := he
    obtain ⟨fv, h1, he⟩ := ob_some.1 he
    obtain ⟨g, h2, he⟩ := ob_some.1 he
    obtain ⟨vs, h3, he4⟩ := ob_some.1 he
    have hvs := opds_some (ρ := ρ) (a := a) h3 (fun x hx => hT x (by simp only [Op.operands, Call.operands, Array.toList_append, List.mem_append]; exact .inr hx))
    have hfv := hT f (by simp [Op.operands, Call.operands]) _ h1
    rw [appL_eq, appL_eq] at he4
    obtain ⟨r1, r2⟩ := hcall _ _ _ _ _ he4
    refine ⟨r1, fun hwf hm hf hK => ?_⟩
    rcases asFunc_some h2 with ⟨fn, rfl, hg⟩ | ⟨l, rfl, hg⟩
    · obtain ⟨x', y', k1, k2, k3⟩ := func_inv hfv
      have hrun : (execOp a.eval ⟨dst, .call ⟨.value f, args, ats⟩, ty, pos, after, guard⟩).run P w = (callFunc fn ⟨x' ++ (args.toList.map a.eval ++ y')⟩).run P w := by
        simp only [execOp, resolve, Deferred.ofValue, k1, Sem.run_bind, Sem.run_pure, Result.andThen_ok, invoke]
        congr 2
        apply Array.ext'
        simp [List.append_assoc]
      rcases (r2 hwf ρ (x' ++ (args.toList.map a.eval ++ y')) w (k2.append (hvs.append k3)) hm hf).1 fn hg with ⟨v', w', q1, _, ρ', q2⟩ | ⟨q1, q2⟩
      · exact wpIn_of hF hd (hrun.trans q1) (hK v' w' ρ' q2)
      · refine wpIn_of hF hd (hrun.trans q1) ⟨hF.room m, ?_⟩
        have : CallsIn F (m - 1) P fn ⟨x' ++ (args.toList.map a.eval ++ y')⟩ w fun e w' => ∃ v', e = .returned v' ∧ ∃ ρ', After ρ h w v h' v' w' ρ' := q2 F.plain (m - 1) ⟨hF.fn, hF.depth⟩ rfl
        exact this.mono fun e w' ⟨v', e1, ρ', e2⟩ => by subst e1; exact hK v' w' ρ' e2
    · obtain ⟨hx, hy, L, hL, k1⟩ := yield_inv hfv
      obtain ⟨gc, gx, gy⟩ := g
      simp only at hx hy hg r2
      subst hx; subst hy
      have hrun : (execOp a.eval ⟨dst, .call ⟨.value f, args, ats⟩, ty, pos, after, guard⟩).run P w = (Instr.yield L.blk ⟨args.toList.map a.eval⟩).run P w := by
        simp only [execOp, resolve, Deferred.ofValue, k1, Sem.run_bind, Sem.run_pure, Result.andThen_ok, invoke]
        congr 2
        apply Array.ext'
        simp
      obtain ⟨fn, tmps, asg, body, q1, q2⟩ := (r2 hwf ρ (args.toList.map a.eval) w (by simpa using hvs) hm hf).2 l L hg hL
      refine wpIn_of hF hd (hrun.trans q1) ⟨hF.room m, ?_⟩
      exact (q2 F (m - 1) hF).mono fun e w' ⟨v', e1, ρ', e2⟩ => by subst e1; exact hK v' w' ρ' e2

theorem Free.left {h1 h2 : Heap} (hf : Free ρ h h2) (h12 : h1.next ≤ h2.next) : Free ρ h h1 := fun b hb hb' => hf b hb (by omega)
theorem Free.right {h1 h2 : Heap} {ρ' : Ren} {m m' : Objs} {w' : World} (hf : Free ρ h h2) (h01 : h.next ≤ h1.next) (k : Fr ρ m w ρ' m' w' h.next h1.next) : Free ρ' h1 h2 := fun b hb hb' => by
  cases hr : ρ' b with
  | none => rfl
  | some L =>
    rcases k.new b L hr with h2 | ⟨h2, h3⟩
    · rw [hf b (by omega) hb'] at h2; cases h2
    · omega

/-- How an act lies to slots. -/
structure AR (n : Nat) (D : List Deferred) (ρ : Ren) (t : TM) (a : Act) : Prop where
  tmps : TR ρ t a.tmps
  size : n ≤ a.tmps.size
  defers : a.defers = D
theorem AR.put {D : List Deferred} {dst : Option Nat} {v' : Value} (k : AR n D ρ t a) (hd : dstOk n dst = true) (hv : VR ρ v v') : AR n D ρ (putD t dst v) (a.put dst v') := by
  refine ⟨k.tmps.put ?_ hv, by simpa using k.size, by rw [defers_put]; exact k.defers⟩
  cases dst with
  | none => rfl
  | some d =>
    have h1 : d + 1 ≤ n := Nat.le_of_ble_eq_true hd
    exact Nat.ble_eq_true_of_le (Nat.le_trans h1 k.size)
theorem AR.mono {D : List Deferred} {ρ' : Ren} (k : AR n D ρ t a) (hle : ρ.le ρ') : AR n D ρ' t a := ⟨k.tmps.mono hle, k.size, k.defers⟩

theorem runOne_some {call : CallF} {k : TM → Heap → Option (TM × Heap)} {r : TM × Heap} (hr : runOne call ao t h k = some r) :
    ∃ g, wantedA t ao.guard = some g ∧ ((g = true ∧ ∃ v h', oi ao.isCall (evalAny call t h ao.op) (evalOp ao.op t h) = some (v, h') ∧ k (putD t ao.dst v) h' = some r) ∨ (g = false ∧ k (putD t ao.dst undefV) h = some r)) := by
  obtain ⟨g, h1, h2⟩ := ob_some.1 (show (ob (wantedA t ao.guard) fun g => oi g (ob (oi ao.isCall (evalAny call t h ao.op) (evalOp ao.op t h)) fun r => k (putD t ao.dst r.1) r.2) (k (putD t ao.dst undefV) h)) = some r from hr)
  refine ⟨g, h1, ?_⟩
  cases g with
  | true =>
    obtain ⟨p, h3, h4⟩ := ob_some.1 (show (ob (oi ao.isCall (evalAny call t h ao.op) (evalOp ao.op t h)) fun r => k (putD t ao.dst r.1) r.2) = some r from h2)
    exact .inl ⟨rfl, p.1, p.2, h3, h4⟩
  | false => exact .inr ⟨rfl, h2⟩

/-- Operations in the order of the text. -/
theorem runOps_sound {call : CallF} {F : Fence} {m : Nat} {D : List Deferred} {Q : Exit → Act → World → Prop} (hF : Open F) (hcall : CallR P call) : ∀ (l : List AOper) (is : List Nat), l.length = is.length → (∀ (j i : Nat) (ao : AOper), is[j]? = some i → l[j]? = some ao → ∃ o, ops[i]? = some o ∧ CompO P n ops o ao) →
    ∀ ρ t a h w t' h', runOps call l t h = some (t', h') → Ok P h h' ∧ (AR n D ρ t a → Wf P h → HR ρ h.objs.get w → Free ρ h h' →
      (∀ a' w' ρ', AR n D ρ' t' a' → HR ρ' h'.objs.get w' → Fr ρ h.objs.get w ρ' h'.objs.get w' h.next h'.next → Q .normal a' w') → wpOpsIn F m P ops Q is a w)
  | [], [], _, _ => by
    intro ρ t a h w t' h' hr
    cases hr
    exact ⟨Ok.refl h, fun ha _ hm _ hK => hK a w ρ ha hm (Fr.refl ..)⟩
  | [], _ :: _, hl, _ => by simp at hl
  | _ :: _, [], hl, _ => by simp at hl
  | ao :: l, i :: is, hl, hsp => by
    intro ρ t a h w t' h' hr
    obtain ⟨o, ho, hc⟩ := hsp 0 i ao rfl rfl
    have ih := runOps_sound (F := F) (m := m) (D := D) (Q := Q) hF hcall l is (by simpa using hl) (fun j i ao h1 h2 => hsp (j + 1) i ao (by simpa using h1) (by simpa using h2))
    obtain ⟨g, h1, h2⟩ := runOne_some (show runOne call ao t h (runOps call l) = some (t', h') from hr)
    rcases h2 with ⟨rfl, v, h1', h3, h4⟩ | ⟨rfl, h4⟩
    · rw [hc.dst'] at h4
      have hok1 : Ok P h h1' := by
        have h3' := h3
        rw [hc.call] at h3'
        cases hcp : isCallOp ao.op with
        | false => rw [hcp] at h3'; exact evalOp_ok _ _ _ h3'
        | true => exact call_ok hcall hc.op hcp (by rw [hcp] at h3'; exact h3')
      have hok2 := (ih ρ _ a _ w _ _ h4).1
      refine ⟨hok1.trans hok2, fun ha hwf hm hf hK => ?_⟩
      have hw := guard_sound (b := true) hc.guard h1 (fun d wt _ v hv => ha.tmps.rel d v hv)
      rw [wpOpsIn_cons]
      simp only [wpOpIn, ho, hw, if_true]
      refine (oper_sound hF hcall hc.op hc.call (fun x _ v hv => ha.tmps.opd hv) h3).2 hwf hm (hf.left hok2.1) fun v' w' ρ' ⟨k1, k2, k3⟩ => ?_
      refine (ih _ _ _ _ _ _ _ h4).2 ((ha.mono k3.ext).put hc.dst k1) (hok1.2 hwf) k2 (hf.right hok1.1 k3) fun a2 w2 ρ2 r1 r2 r3 => hK a2 w2 ρ2 r1 r2 (k3.trans hok1.1 hok2.1 r3)
    · rw [hc.dst'] at h4
      refine ⟨(ih ρ _ a _ w _ _ h4).1, fun ha hwf hm hf hK => ?_⟩
      have hw := guard_sound (b := false) hc.guard h1 (fun d wt _ v hv => ha.tmps.rel d v hv)
      rw [wpOpsIn_cons]
      simp only [wpOpIn, ho, hw, Bool.false_eq_true, if_false]
      refine ⟨fun f _ => hF.fn f, ?_⟩
      exact (ih _ _ _ _ _ _ _ h4).2 (ha.put hc.dst (VR.undef ρ)) hwf hm hf hK
end
end Go.Ev
