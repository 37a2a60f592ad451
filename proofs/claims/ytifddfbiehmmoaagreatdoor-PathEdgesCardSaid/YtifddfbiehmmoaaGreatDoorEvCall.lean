/- Functions and calls. -/
import Derived.Test.YtifddfbiehmmoaaGreatDoorEvCode
namespace Go.Ev
open Go
set_option linter.unusedSimpArgs false
section
variable {P : Program} {n : Nat} {ρ : Ren} {t : TM} {a : Act} {h : Heap} {w : World}
/-! ### Functions. -/
def ResR (P : Program) : List ResultVar → List ARes → Prop
  | [], [] => True
  | .tmp t :: rs, r :: as => r = .tmp t ∧ ResR P rs as
  | .cell b ty :: rs, r :: as => (∃ g n, isAggT P ty = some g ∧ sizeT P ty = some n ∧ r = .cell b g (if g then n else 1)) ∧ ResR P rs as
  | _, _ => False
theorem compRes_spec : ∀ {rs : List ResultVar} {as : List ARes}, compRes P rs = some as → ResR P rs as
  | [], as, h => by cases h; trivial
  | .tmp t :: rs, as, h => by
    simp only [compRes] at h
    split at h
    · cases h
    · rename_i r hr; cases h; exact ⟨rfl, compRes_spec hr⟩
  | .cell b ty :: rs, as, h => by
    simp only [compRes] at h
    split at h
    · rename_i n r hg hn hr; cases h; exact ⟨⟨true, n, hg, hn, rfl⟩, compRes_spec hr⟩
    · rename_i n r hg hn hr; cases h; exact ⟨⟨false, n, hg, hn, rfl⟩, compRes_spec hr⟩
    · cases h

theorem results_list {k : Nat} {D : List Deferred} (ha : AR k D ρ t a) (hm : HR ρ h.objs.get w) : ∀ {rs : List ResultVar} {as : List ARes} {vs : List Value}, ResR P rs as → resVs t h as = some vs →
    ∃ vs', VRL ρ vs vs' ∧ (rs.mapM (fun | .tmp t => pure (a.tmps.getD t undef) | .cell b t => do loadVar t (← asAddr (a.tmps.getD b undef)) : ResultVar → Sem Value)).run P w = .ok vs' w
  | [], [], vs, _, he => by cases he; exact ⟨[], .nil, rfl⟩
  | [], _ :: _, vs, hr, _ => hr.elim
  | .tmp i :: rs, [], vs, hr, _ => hr.elim
  | .cell i ty :: rs, [], vs, hr, _ => hr.elim
  | .tmp i :: rs, r :: as, vs, hr, he => by
    obtain ⟨rfl, hr⟩ := hr
    obtain ⟨v, h1, h2⟩ := ob_some.1 (show (ob (t.get i) fun v => ob (resVs t h as) fun vs => some (v :: vs)) = some vs from he)
    obtain ⟨us, h3, h4⟩ := ob_some.1 h2
    cases h4
    obtain ⟨v', g1, g2⟩ := ha.tmps.rel i v h1
    obtain ⟨us', g3, g4⟩ := results_list ha hm hr h3
    have hd : a.tmps.getD i undef = v' := by simp [Array.getD_eq_getD_getElem?, g1]
    exact ⟨v' :: us', .cons g2 g3, by simp only [List.mapM_cons, Sem.run_bind, Sem.run_pure, Result.andThen_ok, hd, g4]⟩
  | .cell i ty :: rs, r :: as, vs, hr, he => by
    obtain ⟨⟨g, n, hg, hn, rfl⟩, hr⟩ := hr
    obtain ⟨v, h1, h2⟩ := ob_some.1 (show (ob (rCell i g (if g then n else 1) t h) fun v => ob (resVs t h as) fun vs => some (v :: vs)) = some vs from he)
    obtain ⟨us, h3, h4⟩ := ob_some.1 h2
    cases h4
    obtain ⟨pv, k1, k2⟩ := ob_some.1 h1
    obtain ⟨p, k3, k4⟩ := ob_some.1 k2
    obtain ⟨ws, k5, k6⟩ := ob_some.1 k4
    rw [asPtr_some] at k3; subst k3
    obtain ⟨c, e, z, cl, k7, k8⟩ := read_some k5
    obtain ⟨v', g1, g2⟩ := ha.tmps.rel i _ k1
    obtain ⟨L, hL, ev⟩ := g2.ptr_inv
    obtain ⟨us', g3, g4⟩ := results_list ha hm hr h3
    have hd : a.tmps.getD i undef = v' := by simp [Array.getD_eq_getD_getElem?, g1]
    obtain ⟨u', q1, q2⟩ := loadVar_sound (P := P) hm hg hn k7 hL k8 k6
    have hx : (do loadVar ty (← asAddr (a.tmps.getD i undef)) : Sem Value).run P w = .ok u' w := by
      rw [hd, ev]; simp only [asAddr, Sem.run_bind, Sem.run_pure, Result.andThen_ok, q2]
    refine ⟨u' :: us', .cons q1 g3, ?_⟩
    rw [List.mapM_cons, Sem.run_bind, hx, Result.andThen_ok, Sem.run_bind, g4, Result.andThen_ok]
    rfl

theorem result_sound {k : Nat} {D : List Deferred} {fn : Func} {as : List ARes} {v : Value} (ha : AR k D ρ t a) (hm : HR ρ h.objs.get w) (hr : compRes P fn.results.toList = some as) (he : result t h as = some v) :
    ∃ v', VR ρ v v' ∧ (results fn a.tmps).run P w = .ok v' w := by
  obtain ⟨vs, h1, h2⟩ := ob_some.1 he
  obtain ⟨vs', h3, h4⟩ := results_list ha hm (compRes_spec hr) h1
  cases h2
  have hrun : (results fn a.tmps).run P w = .ok (if hh : (⟨vs'⟩ : Array Value).size = 1 then (⟨vs'⟩ : Array Value)[0] else .tuple ⟨vs'⟩) w := by
    unfold results
    rw [Array.mapM_eq_mapM_toList]
    simp only [Sem.run_bind, Sem.run_map, Sem.run_pure]
    exact (congrArg (fun r : Result (List Value) => (r.andThen fun a w' => Result.ok a.toArray w').andThen fun a w' => Result.ok (if h : a.size = 1 then a[0] else Value.tuple a) w') h4).trans rfl
  refine ⟨_, ?_, hrun⟩
  cases h3 with
  | nil => exact .tuple .nil
  | cons k1 k2 =>
    cases k2 with
    | nil => exact k1
    | cons k2 k3 => exact .tuple (.cons k1 (.cons k2 k3))


/-! ### A function leaves. -/
theorem World.putObj_eq (w : World) (r : Nat) (o : Obj) : w.putObj r o = { w with heap := w.heap.setIfInBounds r o } := rfl
theorem HR.junkPut {m : Objs} (hm : HR ρ m w) {r : Nat} (o : Obj) (hr : ∀ b ob L, m b = some ob → ρ b = some L → L.blk ≠ r) : HR ρ m (w.putObj r o) := by
  refine ⟨fun b ob hb => ?_, hm.inj⟩
  obtain ⟨L, r', h1, h2, h3⟩ := hm.obj b ob hb
  exact ⟨L, r', h1, by rw [World.putObj_heap_other (hr b ob L hb h1)]; exact h2, h3⟩
theorem Fr.junkPut {ρ0 : Ren} {m0 m : Objs} {w0 : World} {lo hi : Nat} (fr : Fr ρ0 m0 w0 ρ m w lo hi) {r : Nat} (o : Obj) (hr : w0.heap.size ≤ r) : Fr ρ0 m0 w0 ρ m (w.putObj r o) lo hi :=
  ⟨fr.ext, fr.new, by rw [World.putObj_size]; exact fr.size, fun r' h1 h2 => by rw [World.putObj_heap_other (by omega)]; exact fr.junk r' h1 h2, fr.own, fr.os, fr.output, fr.tape⟩

theorem leaves {F : Fence} {m : Nat} {fn : Func} {tmps : Array Value} {R : Ending → World → Prop} {lo : Nat} {mm : Objs} {m0 : Objs} {ρ0 : Ren} {w0 : World} {l0 h0 : Nat} (hlo : w0.heap.size = lo)
    (hfin : ∀ w', HR ρ mm w' → Fr ρ0 m0 w0 ρ mm w' l0 h0 → ∃ v, (results fn tmps).run P w' = .ok v w' ∧ R (.returned v) w') :
    ∀ (D : List Deferred) (w : World), HR ρ mm w → Fr ρ0 m0 w0 ρ mm w l0 h0 → Marks lo mm w ρ D → LeavesInM F m P fn tmps R D .returning w
  | [], w, hm, fr, _ => hfin w hm fr
  | d :: ds, w, hm, fr, ⟨⟨r, e, h2, h3, h4, h5⟩, h6⟩ => by
    refine ⟨by simp, .inl ⟨r, _, by rw [e], run_takeDeferred h3, ?_⟩⟩
    refine leaves hlo hfin ds _ (hm.junkPut _ h4) (fr.junkPut _ (by omega)) ?_
    -- the other marks
    have : ∀ (ds : List Deferred), (∀ d' ∈ ds, d' ≠ { target := .collected r, args := #[] }) → Marks lo mm w ρ ds → Marks lo mm (w.putObj r (.deferred none)) ρ ds := by
      intro ds
      induction ds with
      | nil => intro _ hk; show lo ≤ _; rw [World.putObj_size]; exact hk
      | cons d' ds ih =>
        intro hne ⟨⟨r', e', k2, k3, k4, k5⟩, k6⟩
        refine ⟨⟨r', e', k2, ?_, k4, k5⟩, ih (fun x hx => hne x (by simp [hx])) k6⟩
        rw [World.putObj_heap_other (fun hh => hne d' (by simp) (by rw [e', hh]))]; exact k3
    exact this ds h5 h6

/-- How functions are given. -/
structure FnsOk (P : Program) (F : Fns) : Prop where
  fn : ∀ f af, F.fn f = some af → ∃ fn, P.funcs[f]? = some fn ∧ compFn P fn = some af ∧ (fn.name == "runtime.NumGoroutine") = false
  hook : ∀ f k, F.hook f = some k → ∀ call, CallR P call → ∀ args h v h', k call args h = some (v, h') → Ok P h h' ∧ (Wf P h → ∀ ρ args' w, VRL ρ args args' → HR ρ h.objs.get w → Free ρ h h' →
    CallOut P f args' w fun v' w' => ∃ ρ', After ρ h w v h' v' w' ρ')

theorem args_AR {args args' : List Value} {n : Nat} (hv : VRL ρ args args') : AR n [] ρ (fillFrom .nil 0 args) ⟨(⟨args'⟩ : Array Value) ++ Array.replicate (n - (⟨args'⟩ : Array Value).size) undef, []⟩ := by
  refine ⟨⟨fun i v hi => ?_⟩, by simp; omega, rfl⟩
  rw [fill_get] at hi
  obtain ⟨v', h1, h2⟩ := hv.get i v hi
  have : i < args'.length := (List.getElem?_eq_some_iff.1 h1).1
  exact ⟨v', by simp [Array.getElem?_append, this]; exact (List.getElem?_eq_some_iff.1 h1).2, h2⟩

/-- A function's contract. -/
theorem enter_sound {exec : ACode → TM → Heap → Out} {call : CallF} (hex : ExecR P exec) {f : Nat} {fn : Func} {af : AFun} (hf : P.funcs[f]? = some fn) (hc : compFn P fn = some af) {args : List Value} {v : Value} {h' : Heap} (he : enterFn ⟨call, exec⟩ args h af = some (v, h')) :
    Ok P h h' ∧ (∃ c, fn.body = some c) ∧ (Wf P h → ∀ ρ args' w, VRL ρ args args' → HR ρ h.objs.get w → Free ρ h h' → ∀ F m, Open F → F.round = none → CallsIn F m P f ⟨args'⟩ w fun e w' => ∃ v', e = .returned v' ∧ ∃ ρ', After ρ h w v h' v' w' ρ') := by
  unfold compFn at hc
  split at hc
  · cases hc
  · rename_i c hb
    split at hc
    · cases hc
    · rename_i ac hac
      split at hc
      · cases hc
      · rename_i rs hrs
        cases hc
        obtain ⟨⟨x, t1, h1⟩, g1, g2⟩ := ob_some.1 he
        have k := hex _ _ _ hac _ _ _ _ _ g1
        have key : (x = .normal ∨ x = .ret) ∧ result t1 h1 rs = some v ∧ h1 = h' := by
          cases x with
          | normal => obtain ⟨u, r1, r2⟩ := ob_some.1 (show ob (result t1 h1 rs) (ret1 h1) = some (v, h') from g2); cases r2; exact ⟨.inl rfl, r1, rfl⟩
          | ret => obtain ⟨u, r1, r2⟩ := ob_some.1 (show ob (result t1 h1 rs) (ret1 h1) = some (v, h') from g2); cases r2; exact ⟨.inr rfl, r1, rfl⟩
          | exit i => cases g2
        obtain ⟨hx, hres, rfl⟩ := key
        refine ⟨k.1, ⟨c, hb⟩, fun hwf ρ args' w hv hm hfr F m hF hro => ?_⟩
        refine callsIn_of_wp_marks hf hb (hF.fn f) (k.2 F m hF (.inl hro) w.heap.size ρ _ w (args_AR hv) hwf hm hfr (Nat.le_refl _) _ fun a' w' ρ' r1 r2 r3 r4 => ?_) hro
        have hl : LeavesInM F m P fn a'.tmps (fun e w' => ∃ v', e = .returned v' ∧ ∃ ρ', After ρ h w v h1 v' w' ρ') a'.defers .returning w' :=
          leaves rfl (fun w2 s1 s2 => by
            obtain ⟨v', q1, q2⟩ := result_sound (P := P) (fn := fn) r1 s1 hrs hres
            exact ⟨v', q2, v', rfl, ρ', q1, s1, s2⟩) a'.defers w' r2 r3 r4
        rcases hx with rfl | rfl
        · exact hl
        · exact hl

/-! ### Block numbers only grow, whatever the code. -/
def NextR (exec : ACode → TM → Heap → Out) : Prop := ∀ ac t h x t' h', exec ac t h = some (x, t', h') → h.next ≤ h'.next
theorem evalAny_of {call : CallF} {ap : AOp} (hcp : isCallOp ap = false) : evalAny call t h ap = evalOp ap t h := by cases ap <;> first | rfl | cases hcp
theorem any_next {call : CallF} (hcall : CallR P call) {ap : AOp} {v : Value} {h' : Heap} (he : evalAny call t h ap = some (v, h')) : h.next ≤ h'.next := by
  cases hcp : isCallOp ap with
  | false => rw [evalAny_of hcp] at he; exact (evalOp_ok (P := P) _ _ _ he).1
  | true =>
    cases ap with
    | call f xs =>
      obtain ⟨fv, _, he⟩ := ob_some.1 (show doCall call t h f xs = some (v, h') from he)
      obtain ⟨g, _, he⟩ := ob_some.1 he
      obtain ⟨vs, _, he⟩ := ob_some.1 he
      exact (hcall _ _ _ _ _ he).1.1
    | _ => cases hcp
theorem oi_next {call : CallF} (hcall : CallR P call) {b : Bool} {ap : AOp} {v : Value} {h' : Heap} (he : oi b (evalAny call t h ap) (evalOp ap t h) = some (v, h')) : h.next ≤ h'.next := by
  cases b with
  | true => exact any_next hcall he
  | false => exact (evalOp_ok (P := P) _ _ _ he).1
theorem runOps_next {call : CallF} (hcall : CallR P call) : ∀ (l : List AOper) (t : TM) (h : Heap) (t' : TM) (h' : Heap), runOps call l t h = some (t', h') → h.next ≤ h'.next
  | [], t, h, t', h', he => by cases he; exact Nat.le_refl _
  | o :: l, t, h, t', h', he => by
    obtain ⟨g, _, h2⟩ := runOne_some (show runOne call o t h (runOps call l) = some (t', h') from he)
    rcases h2 with ⟨_, v, h1, h3, h4⟩ | ⟨_, h4⟩
    · exact Nat.le_trans (oi_next hcall h3) (runOps_next hcall l _ _ _ _ h4)
    · exact runOps_next hcall l _ _ _ _ h4
theorem runDrawn_next {call : CallF} (hcall : CallR P call) : ∀ (l : List AOper) (t : TM) (h : Heap) (hist : List Heap) (k : Nat) (t' : TM) (h' : Heap), runDrawn call l t h hist k = some (t', h') → h.next ≤ h'.next
  | [], t, h, hist, k, t', h', he => by cases he; exact Nat.le_refl _
  | o :: l, t, h, hist, k, t', h', he => by
    rw [runDrawn_cons] at he
    have d0 : drawn0 o t h hist k (runDrawn call l) = some (t', h') → h.next ≤ h'.next := fun he => by
      obtain ⟨g, _, h2⟩ := ob_some.1 he
      cases g with
      | true =>
        obtain ⟨p, h3, h4⟩ := ob_some.1 (show (ob (evalOp o.op t h) fun r => runDrawn call l (putD t o.dst r.1) r.2 hist k) = some (t', h') from h2)
        exact Nat.le_trans (evalOp_ok (P := P) _ p.1 p.2 h3).1 (runDrawn_next hcall l _ _ _ _ _ _ h4)
      | false => exact runDrawn_next hcall l _ _ _ _ _ _ h2
    have d1 : drawn1 o t h hist k (runDrawn call l) = some (t', h') → h.next ≤ h'.next := fun he => by
      obtain ⟨g, _, h2⟩ := ob_some.1 he
      cases g with
      | true =>
        obtain ⟨g0, h3, h4⟩ := ob_some.1 (show (ob (headH hist) fun g => ob (evalOp o.op t g) fun r => og (sameAt t o.op r.1 (Nat.sub k o.lo) (tailH hist)) (runDrawn call l (putD t o.dst r.1) h hist k)) = some (t', h') from h2)
        obtain ⟨p, h5, h6⟩ := ob_some.1 h4
        obtain ⟨_, h8⟩ := og_some.1 h6
        exact runDrawn_next hcall l _ _ _ _ _ _ h8
      | false => exact runDrawn_next hcall l _ _ _ _ _ _ h2
    have d2 : drawn2 call o t h hist k (runDrawn call l) = some (t', h') → h.next ≤ h'.next := fun he => by
      obtain ⟨g, _, h2⟩ := ob_some.1 he
      cases g with
      | true =>
        obtain ⟨p, h3, h4⟩ := ob_some.1 (show (ob (oi o.isCall (evalAny call t h o.op) (evalOp o.op t h)) fun r => runDrawn call l (putD t o.dst r.1) r.2 (r.2 :: hist) (Nat.succ k)) = some (t', h') from h2)
        exact Nat.le_trans (oi_next hcall (v := p.1) (h' := p.2) h3) (runDrawn_next hcall l _ _ _ _ _ _ h4)
      | false => exact runDrawn_next hcall l _ _ _ _ _ _ h2
    rw [oi_eq, oi_eq, oi_eq] at he
    split at he
    · exact d0 he
    · split at he
      · exact d1 he
      · split at he
        · exact d0 he
        · exact d2 he
theorem onNormal_next {r : Out} {k : TM → Heap → Out} {x : AExit} {t' : TM} {h' : Heap} (hr : ∀ x t1 h1, r = some (x, t1, h1) → h.next ≤ h1.next) (hk : ∀ t1 h1 x t' h', k t1 h1 = some (x, t', h') → h1.next ≤ h'.next)
    (he : onNormal r k = some (x, t', h')) : h.next ≤ h'.next := by
  obtain ⟨y, t1, h1, g1, g2⟩ := onNormal_some he
  rcases g2 with ⟨_, g2⟩ | ⟨_, _, _, rfl⟩
  · exact Nat.le_trans (hr _ _ _ g1) (hk _ _ _ _ _ g2)
  · exact hr _ _ _ g1
theorem step_next {exec : ACode → TM → Heap → Out} {call : CallF} (hcall : CallR P call) (hn : NextR exec) : NextR (fun c => step c ⟨call, exec⟩) := by
  intro ac t h x t' h' he
  cases ac with
  | skip => cases he; exact Nat.le_refl _
  | ops l =>
    obtain ⟨⟨t1, h1⟩, g1, g2⟩ := ob_some.1 (show outOf (runOps call l t h) = some (x, t', h') from he)
    cases g2; exact runOps_next hcall l _ _ _ _ g1
  | drawn l =>
    obtain ⟨⟨t1, h1⟩, g1, g2⟩ := ob_some.1 (show outOf (runDrawn call l t h [h] 0) = some (x, t', h') from he)
    cases g2; exact runDrawn_next hcall l _ _ _ _ _ _ g1
  | seq a b => exact onNormal_next (fun _ _ _ e => hn _ _ _ _ _ _ e) (fun _ _ _ _ _ e => hn _ _ _ _ _ _ e) (show onNormal (exec a t h) (exec b) = some (x, t', h') from he)
  | cond o a b =>
    obtain ⟨v, g1, g2⟩ := ob_some.1 (show (ob (opd t o) fun v => ob (asBool v) fun d => oi d (exec a t h) (exec b t h)) = some (x, t', h') from he)
    obtain ⟨d, g3, g4⟩ := ob_some.1 g2
    cases d with
    | true => exact hn _ _ _ _ _ _ g4
    | false => exact hn _ _ _ _ _ _ g4
  | block id a =>
    obtain ⟨⟨y, t1, h1⟩, g1, g2⟩ := ob_some.1 (show onExit id (exec a t h) = some (x, t', h') from he)
    have k := hn _ _ _ _ _ _ g1
    cases y with
    | normal => cases g2; exact k
    | ret => cases g2; exact k
    | exit i =>
      have g2 : oi (Nat.beq i id) (some (AExit.normal, t1, h1)) (some (.exit i, t1, h1)) = some (x, t', h') := g2
      rw [oi_eq] at g2
      split at g2 <;> cases g2 <;> exact k
  | loop a => exact onNormal_next (fun _ _ _ e => hn _ _ _ _ _ _ e) (fun _ _ _ _ _ e => hn _ _ _ _ _ _ e) (show onNormal (exec a t h) (exec (.loop a)) = some (x, t', h') from he)
  | exit id => cases he; exact Nat.le_refl _
  | ret => cases he; exact Nat.le_refl _
  | range n g ps ca cb a b =>
    obtain ⟨v, _, he⟩ := ob_some.1 he
    obtain ⟨q, _, he⟩ := ob_some.1 he
    obtain ⟨_, he⟩ := og_some.1 he
    obtain ⟨⟨rv, h2⟩, g4, he⟩ := ob_some.1 he
    obtain ⟨o, g5, he⟩ := ob_some.1 he
    obtain ⟨R, rfl, he⟩ := onLoop_some he
    replace he : oi (Nat.beq R.st 1) none (some (exitOf R.pend, t, h2.upd h.next (.loop (R.turn 3 R.pend)))) = some (x, t', h') := he
    rw [oi_eq] at he
    have h1 := (hcall _ _ _ _ _ g4).1.1
    have h0 : h.next ≤ (h.new (.loop ⟨t, n, ps, ca, cb, a, b, 0, none⟩)).next := Nat.le_succ _
    split at he
    · cases he
    · cases he; exact Nat.le_trans h0 h1

/-! ### A round. -/
theorem putPs_nil (t : TM) (vs : List Value) : putPs t [] vs = og (isNil vs) (some t) := rfl
theorem putPs_cons (t : TM) (p : Nat) (ps : List Nat) (v : Value) (vs : List Value) : putPs t (p :: ps) (v :: vs) = putPs (t.set p v) ps vs := rfl
theorem putPs_length : ∀ {ps : List Nat} {vs : List Value} {t t' : TM}, putPs t ps vs = some t' → vs.length = ps.length
  | [], [], _, _, _ => rfl
  | [], _ :: _, _, _, h => by rw [putPs_nil] at h; cases h
  | _ :: _, [], _, _, h => by cases h
  | p :: ps, v :: vs, t, t', h => by
    rw [putPs_cons] at h
    simp [putPs_length h]
theorem putPs_sound : ∀ {ps : List Nat} {vs vs' : List Value} {t t' : TM} {tmps : Array Value}, putPs t ps vs = some t' → VRL ρ vs vs' → TR ρ t tmps → psOk n ps = true → n ≤ tmps.size →
    TR ρ t' ((ps.zip vs').foldl (fun tmps p => tmps.setIfInBounds p.1 p.2) tmps) ∧ n ≤ ((ps.zip vs').foldl (fun tmps p => tmps.setIfInBounds p.1 p.2) tmps).size
  | [], [], _, _, _, _, h, hv, ht, _, hn => by rw [putPs_nil] at h; cases h; cases hv; exact ⟨ht, hn⟩
  | [], _ :: _, _, _, _, _, h, _, _, _, _ => by rw [putPs_nil] at h; cases h
  | _ :: _, [], _, _, _, _, h, _, _, _, _ => by cases h
  | p :: ps, v :: vs, _, t, t', tmps, h, hv, ht, hps, hn => by
    cases hv with
    | cons h1 h2 =>
      rename_i v1 vs1
      rw [putPs_cons] at h
      have hps' : (Nat.ble (p + 1) n && psOk n ps) = true := hps
      rw [Bool.and_eq_true] at hps'
      have hp : p < n := Nat.le_of_ble_eq_true hps'.1
      have ht1 : TR ρ (t.set p v) (tmps.setIfInBounds p v1) := by
        refine ⟨fun i u hu => ?_⟩
        rw [T.get_set] at hu
        by_cases e : p = i
        · subst e
          simp at hu; subst hu
          exact ⟨v1, by simp [show p < tmps.size by omega], h1⟩
        · rw [if_neg e] at hu
          obtain ⟨u', k1, k2⟩ := ht.rel i u hu
          exact ⟨u', by simp [Array.getElem?_setIfInBounds_ne e, k1], k2⟩
      exact putPs_sound (ps := ps) (tmps := tmps.setIfInBounds p v1) h h2 ht1 hps'.2 (by simpa using hn)

theorem endRound_some {k : Nat} {x : AExit} {h h' : Heap} {v : Value} (he : endRoundV k x h = some (v, h')) : ∃ R, h.objs.get k = some (.loop R) ∧
    ((x = .normal ∧ v = .bool true ∧ h' = h.upd k (.loop (R.turn 0 none))) ∨ (x ≠ .normal ∧ v = .bool false ∧ h' = h.upd k (.loop (R.turn 2 (some x))))) := by
  obtain ⟨o, h1, h2⟩ := ob_some.1 he
  obtain ⟨R, rfl, h3⟩ := onLoop_some h2
  refine ⟨R, h1, ?_⟩
  cases x with
  | normal => cases h3; exact .inl ⟨rfl, rfl, rfl⟩
  | exit i => cases h3; exact .inr ⟨by simp, rfl, rfl⟩
  | ret => cases h3; exact .inr ⟨by simp, rfl, rfl⟩

theorem yield_sound {exec : ACode → TM → Heap → Out} {call : CallF} (hn : NextR exec) (hex : ExecR P exec) {k : Nat} {args : List Value} {v : Value} {h' : Heap} (he : callYield ⟨call, exec⟩ k args h = some (v, h')) :
    Ok P h h' ∧ (Wf P h → ∀ ρ args' w, VRL ρ args args' → HR ρ h.objs.get w → Free ρ h h' → ∀ L, ρ k = some L → RoundOut P L.blk args' w fun v' w' => ∃ ρ', After ρ h w v h' v' w' ρ') := by
  obtain ⟨o, g1, he⟩ := ob_some.1 he
  obtain ⟨R, rfl, he⟩ := onLoop_some he
  obtain ⟨t0, g2, he⟩ := ob_some.1 he
  obtain ⟨⟨y, t1, h1⟩, g3, he⟩ := ob_some.1 he
  cases y with
  | exit i => cases he
  | ret => cases he
  | normal =>
    obtain ⟨o1, g4, he⟩ := ob_some.1 (show roundBody k R.b ⟨call, exec⟩ t1 h1 = some (v, h') from he)
    obtain ⟨R1, rfl, he⟩ := onLoop_some he
    obtain ⟨g5, he⟩ := og_some.1 he
    obtain ⟨⟨x, t2, h2⟩, g6, g7⟩ := ob_some.1 he
    have g5 : R1.st = 0 := Nat.eq_of_beq_eq_true g5
    obtain ⟨R2, g8, g9⟩ := endRound_some g7
    have okT : Ok P h1 (h1.upd k (.loop (R1.turn 1 R1.pend))) := Ok.turn g4 1 R1.pend
    have nT : (h1.upd k (.loop (R1.turn 1 R1.pend))).next = h1.next := rfl
    have okE : Ok P h2 h' := by
      rcases g9 with ⟨_, _, rfl⟩ | ⟨_, _, rfl⟩
      · exact Ok.turn g8 0 none
      · exact Ok.turn g8 2 (some x)
    have nE : h'.next = h2.next := by rcases g9 with ⟨_, _, rfl⟩ | ⟨_, _, rfl⟩ <;> rfl
    -- the two walks need the loop's code; where the heap is ill-formed nothing is asked
    by_cases hgood : GoodLoop P R
    · have r1 := hex _ _ _ hgood.assign _ _ _ _ _ g3
      have r2 := hex _ _ _ hgood.body _ _ _ _ _ g6
      refine ⟨(r1.1.trans okT).trans (r2.1.trans okE), fun hwf ρ args' w hv hm hfr L hL => ?_⟩
      obtain ⟨q, q1, q2, q3, q4, q5, q6, q7, q8⟩ := hm.loop g1 hL
      have hlen : (⟨args'⟩ : Array Value).size = q.params.size := by
        rw [← Array.length_toList (xs := q.params), q4, ← putPs_length g2, hv.length]; simp
      obtain ⟨s1, s2⟩ := putPs_sound g2 hv q7 hgood.ps q8
      have hfold : (q.params.zip ⟨args'⟩).foldl (fun tmps (x : Nat × Value) => tmps.setIfInBounds x.1 x.2) q.tmps = (R.ps.zip args').foldl (fun tmps p => tmps.setIfInBounds p.1 p.2) q.tmps := by
        rw [← Array.foldl_toList, Array.toList_zip, q4]
      have o1 := r1.1.1
      have o2 := r2.1.1
      have o3 := okE.1
      rw [nT] at o2
      refine ⟨q.fn, _, q.assign, q.body, run_yield q1 hlen, fun F m hF => roundIn_of_wpIn (hF.fn _) ?_⟩
      have hF1 : Open (F.inRound L.blk) := ⟨hF.fn, hF.depth⟩
      rw [q5, q6]
      have AR0 : AR R.n [] ρ t0 ⟨(q.params.zip ⟨args'⟩).foldl (fun tmps (x : Nat × Value) => tmps.setIfInBounds x.1 x.2) q.tmps, []⟩ := by
        rw [hfold]; exact ⟨s1, s2, rfl⟩
      refine r1.2 (F.inRound L.blk) m hF1 (.inr hgood.noA) 0 ρ _ w AR0 hwf hm (hfr.left (by omega)) (Nat.zero_le _) _ fun a1 w1 ρ1 k1 k2 k3 k4 => ?_
      have hL1 : ρ1 k = some L := k3.ext _ _ hL
      obtain ⟨p, p1, p2, p3, p4, p5, p6, p7, p8⟩ := k2.loop g4 hL1
      have hready : p.state = .ready := by rw [p2, g5]; rfl
      refine ⟨_, run_beginRound p1 hready, ?_⟩
      obtain ⟨u1, u2⟩ := k2.turn g4 hL1 p1 1 R1.pend .busy p.pending rfl p3
      have k4' := k4.step (u2 0 0)
      refine r2.2 (F.inRound L.blk) m hF1 (.inr hgood.noB) 0 ρ1 a1 _ k1 (okT.2 (r1.1.2 hwf)) u1 ((hfr.right o1 k3).left (by rw [nE]; exact Nat.le_refl _)) k4' _ fun a2 w2 ρ2 m1 m2 m3 m4 => ?_
      have hL2 : ρ2 k = some L := m3.ext _ _ hL1
      obtain ⟨z, z1, z2, z3, z4, z5, z6, z7, z8⟩ := m2.loop g8 hL2
      have frB : Fr ρ h.objs.get w ρ2 h2.objs.get w2 h.next h'.next :=
        (k3.wider (Nat.le_refl _) (by rw [nE]; exact o2)).comp (((u2 h.next h'.next)).comp (m3.wider (by rw [nT]; exact o1) (by rw [nE]; exact Nat.le_refl _)))
      rcases g9 with ⟨rfl, rfl, rfl⟩ | ⟨hx, rfl, rfl⟩
      · obtain ⟨e1, e2⟩ := m2.turn g8 hL2 z1 0 none .ready none rfl rfl
        exact ⟨_, _, run_endRound none z1, .bool true, rfl, ρ2, .bool true, e1, frB.comp (e2 _ _)⟩
      · obtain ⟨e1, e2⟩ := m2.turn g8 hL2 z1 2 (some x) .done (some (codeOf x)) rfl rfl
        cases x with
        | normal => exact absurd rfl hx
        | exit i => exact ⟨_, _, run_endRound (some (.exit i)) z1, .bool false, rfl, ρ2, .bool false, e1, frB.comp (e2 _ _)⟩
        | ret => exact ⟨_, _, run_endRound (some .ret) z1, .bool false, rfl, ρ2, .bool false, e1, frB.comp (e2 _ _)⟩
    · have n1 := hn _ _ _ _ _ _ g3
      have n2 := hn _ _ _ _ _ _ g6
      rw [nT] at n2
      exact ⟨⟨by omega, fun hwf => absurd (hwf.loop k R g1) hgood⟩, fun hwf => absurd (hwf.loop k R g1) hgood⟩

theorem call_sound {F : Fns} (hF : FnsOk P F) {exec : ACode → TM → Heap → Out} {call : CallF} (hn : NextR exec) (hex : ExecR P exec) (hcall : CallR P call) : CallR P (callOf F ⟨call, exec⟩) := by
  intro c args h v h' he
  have hcase : (∃ f, c = 2 * f) ∨ ∃ k, c = 2 * k + 1 := by
    rcases Nat.mod_two_eq_zero_or_one c with e | e
    · exact .inl ⟨c / 2, by omega⟩
    · exact .inr ⟨c / 2, by omega⟩
  rcases hcase with ⟨f, rfl⟩ | ⟨k, rfl⟩
  · have he : callFn F ⟨call, exec⟩ f args h = some (v, h') := by
      have e : callOf F ⟨call, exec⟩ (2 * f) args h = callFn F ⟨call, exec⟩ (2 * f / 2) args h := by
        show oi (isEven (2 * f)) _ _ = _
        rw [isEven_two]; rfl
      rw [show 2 * f / 2 = f by omega] at e
      rw [← e]; exact he
    have even : ∀ g, 2 * f = 2 * g → f = g := fun g e => by omega
    cases hh : F.hook f with
    | some k =>
      have he : k call args h = some (v, h') := by
        have : callFn F ⟨call, exec⟩ f args h = k call args h := by simp only [callFn, hh]
        rw [← this]; exact he
      obtain ⟨r1, r2⟩ := hF.hook f k hh call hcall args h v h' he
      exact ⟨r1, fun hwf ρ args' w hv hm hfr => ⟨fun g e => by rw [← even g e]; exact r2 hwf ρ args' w hv hm hfr, fun k L e _ => by omega⟩⟩
    | none =>
      have he : ob (F.fn f) (enterFn ⟨call, exec⟩ args h) = some (v, h') := by
        have : callFn F ⟨call, exec⟩ f args h = ob (F.fn f) (enterFn ⟨call, exec⟩ args h) := by simp only [callFn, hh]
        rw [← this]; exact he
      obtain ⟨af, g1, g2⟩ := ob_some.1 he
      obtain ⟨fn, k1, k2, k3⟩ := hF.fn f af g1
      obtain ⟨r1, ⟨c, r2⟩, r3⟩ := enter_sound hex k1 k2 g2
      have hne : fn.name ≠ "runtime.NumGoroutine" := by simpa using k3
      refine ⟨r1, fun hwf ρ args' w hv hm hfr => ⟨fun g e => ?_, fun k L e _ => by omega⟩⟩
      rw [← even g e]
      exact .inr ⟨by simp [callFunc, k1, hne, r2], r3 hwf ρ args' w hv hm hfr⟩
  · have he : callYield ⟨call, exec⟩ k args h = some (v, h') := by
      have e : callOf F ⟨call, exec⟩ (2 * k + 1) args h = callYield ⟨call, exec⟩ ((2 * k + 1) / 2) args h := by
        show oi (isEven (2 * k + 1)) _ _ = _
        rw [isEven_odd]; rfl
      rw [show (2 * k + 1) / 2 = k by omega] at e
      rw [← e]; exact he
    obtain ⟨r1, r2⟩ := yield_sound hn hex he
    refine ⟨r1, fun hwf ρ args' w hv hm hfr => ⟨fun g e => by omega, fun j L e hL => ?_⟩⟩
    have : j = k := by omega
    subst this
    exact r2 hwf ρ args' w hv hm hfr L hL

theorem both_sound {F : Fns} (hF : FnsOk P F) (hmix : P.follows .mixedOrders = true) : ∀ n, CallR P (both F n).call ∧ ExecR P (both F n).exec ∧ LoopR P (both F n).exec ∧ NextR (both F n).exec
  | 0 => ⟨fun _ _ _ _ _ he => (by cases he), fun _ _ _ _ _ _ _ _ _ he => (by cases he), fun _ _ _ _ _ _ _ _ _ he => (by cases he), fun _ _ _ _ _ _ he => (by cases he)⟩
  | n + 1 => by
    obtain ⟨h1, h2, h3, h4⟩ := both_sound hF hmix n
    obtain ⟨k1, k2⟩ := step_sound hmix h1 h2 h3
    exact ⟨call_sound hF h4 h2 h1, k1, k2, step_next h1 h4⟩

/-- **What the evaluator finds from nothing, the program does.** -/
theorem top {F : Fns} (hF : FnsOk P F) (hmix : P.follows .mixedOrders = true) {N f : Nat} {args : List Value} {v : Value} {h' : Heap} (he : (both F N).call (2 * f) args Heap.empty = some (v, h')) (ha : plains args = true) (w : World) :
    (∃ v' w', (callFunc f ⟨args⟩).run P w = .ok (.value v') w') ∨ Calls P f ⟨args⟩ w fun e w' => ∃ v' ρ', e = .returned v' ∧ VR ρ' v v' ∧ HR ρ' h'.objs.get w' ∧ (w.heap.size ≤ w'.heap.size ∧ (∀ r, r < w.heap.size → w'.heap[r]? = w.heap[r]?) ∧ w'.os = w.os ∧ w'.output = w.output ∧ w'.tape = w.tape) := by
  obtain ⟨h1, h2⟩ := (both_sound hF hmix N).1 _ _ _ _ _ he
  have hm : HR (fun _ => none) Heap.empty.objs.get w := ⟨fun b o hb => (by cases hb), fun b c o p L M hb => (by cases hb)⟩
  have hwf : Wf P Heap.empty := ⟨fun _ _ => rfl, fun b R hb => (by cases hb)⟩
  rcases (h2 hwf (fun _ => none) args w (plains_refl ha _) hm (fun _ _ _ => rfl)).1 f rfl with ⟨v', w', q1, _⟩ | ⟨_, q2⟩
  · exact .inl ⟨v', w', q1⟩
  · right
    refine (callsIn_wide.1 (q2 Fence.wide 0 ⟨fun _ => trivial, rfl⟩ rfl)).mono fun e w' ⟨v', e1, ρ', e2, e3, e4⟩ => ⟨v', ρ', e1, e2, e3, e4.size, fun r hr => e4.junk r hr (fun b o L hb => by cases hb), e4.os, e4.output, e4.tape⟩
end
end Go.Ev
