/- Each operation, as it is compiled, is sound. -/
import Derived.Test.YtifddfbiehmmoaaGreatDoorEvGrow
namespace Go.Ev
open Go
set_option linter.unusedSimpArgs false

/-- A loop's code is compiled. -/
structure GoodLoop (P : Program) (R : ALoop) : Prop where
  assign : compCode P R.n R.ca = some R.a
  body : compCode P R.n R.cb = some R.b
  noA : noRange R.a = true
  noB : noRange R.b = true
  ps : psOk R.n R.ps = true
/-- Block numbers ahead are free. -/
structure Wf (P : Program) (h : Heap) : Prop where
  free : ∀ b, h.next ≤ b → h.objs.get b = none
  loop : ∀ b R, h.objs.get b = some (.loop R) → GoodLoop P R
def Ok (P : Program) (h h' : Heap) : Prop := h.next ≤ h'.next ∧ (Wf P h → Wf P h')
section
variable {P : Program}
theorem Ok.refl (h : Heap) : Ok P h h := ⟨Nat.le_refl _, id⟩
theorem Ok.trans {h h' h'' : Heap} (a : Ok P h h') (b : Ok P h' h'') : Ok P h h'' := ⟨Nat.le_trans a.1 b.1, fun w => b.2 (a.2 w)⟩
theorem Ok.new (h : Heap) (o : AObj) (hg : ∀ R, o = .loop R → GoodLoop P R := by intro R hh; cases hh) : Ok P h (h.new o) := ⟨Nat.le_succ _, fun w => ⟨fun b hb => by
  have hb' : h.next + 1 ≤ b := hb
  rw [new_get]; show (if h.next = b then some o else h.objs.get b) = none
  rw [if_neg (by omega)]; exact w.free b (by omega), fun b R hb => by
  rw [new_get] at hb
  replace hb : (if h.next = b then some o else h.objs.get b) = some (.loop R) := hb
  by_cases c : h.next = b
  · rw [if_pos c] at hb; exact hg R (Option.some.inj hb)
  · rw [if_neg c] at hb; exact w.loop b R hb⟩⟩
theorem Ok.upd {h : Heap} {b : Nat} (hb : ∃ o, h.objs.get b = some o) (o' : AObj) (hg : ∀ R, o' = .loop R → Wf P h → GoodLoop P R := by intro R hh; cases hh) : Ok P h (h.upd b o') := ⟨Nat.le_refl _, fun w => ⟨fun c hc => by
  rw [upd_get]; show (if b = c then some o' else h.objs.get c) = none
  obtain ⟨o, ho⟩ := hb
  rw [if_neg (fun e => by subst e; rw [w.free b hc] at ho; cases ho)]; exact w.free c hc, fun c R hc => by
  rw [upd_get] at hc
  replace hc : (if b = c then some o' else h.objs.get c) = some (.loop R) := hc
  by_cases d : b = c
  · rw [if_pos d] at hc; exact hg R (Option.some.inj hc) w
  · rw [if_neg d] at hc; exact w.loop c R hc⟩⟩
theorem Ok.kill (h : Heap) (b : Nat) : Ok P h (h.kill b) := ⟨Nat.le_refl _, fun w => ⟨fun c hc => by
  rw [kill_get]; show (if b = c then none else h.objs.get c) = none
  split
  · rfl
  · exact w.free c hc, fun c R hc => by
  rw [kill_get] at hc
  replace hc : (if b = c then none else h.objs.get c) = some (.loop R) := hc
  by_cases d : b = c
  · rw [if_pos d] at hc; cases hc
  · rw [if_neg d] at hc; exact w.loop c R hc⟩⟩
end
def Keeps {α : Type} (P : Program) (h : Heap) (r : Option (α × Heap)) : Prop := ∀ v h', r = some (v, h') → Ok P h h'
section
variable {P : Program} {α β : Type} {h : Heap}
theorem Keeps.ob {x : Option β} {f : β → Option (α × Heap)} (k : ∀ a, x = some a → Keeps P h (f a)) : Keeps P h (ob x f) := fun v h' e => by
  obtain ⟨a, h1, h2⟩ := ob_some.1 e
  exact k a h1 v h' h2
theorem Keeps.og {b : Bool} {r : Option (α × Heap)} (k : Keeps P h r) : Keeps P h (og b r) := fun v h' e => k v h' (og_some.1 e).2
theorem Keeps.oi {b : Bool} {r s : Option (α × Heap)} (k : Keeps P h r) (l : Keeps P h s) : Keeps P h (oi b r s) := by cases b <;> assumption
theorem Keeps.some {v : α} {h' : Heap} (k : Ok P h h') : Keeps P h (some (v, h')) := fun _ _ e => by cases e; exact k
theorem Keeps.none : Keeps (α := α) P h none := fun _ _ e => by cases e
theorem Keeps.same {v : α} : Keeps P h (Option.some (v, h)) := .some (.refl h)
theorem Keeps.ret1 {v : Value} : Keeps P h (ret1 h v) := .some (.refl h)
end
section
variable {P : Program} {t : TM} {h : Heap}
theorem ok_write {b o : Nat} {vs : List Value} {h' : Heap} (hw : h.write b o vs = some h') : Ok P h h' := by
  obtain ⟨c, e, z, cl, c', h1, _, rfl⟩ := write_some hw
  exact Ok.upd ⟨_, h1⟩ _
theorem ok_map {r : Nat} {p : List MapEntry × Nat} {es : List MapEntry} {c : Nat} (hg : h.getMap r = some p) : Ok P h (h.upd r (.map es c)) := Ok.upd ⟨_, getMap_some hg⟩ _
theorem keeps_move (x : Operand) : Keeps P h (oMove x t h) := .ob fun _ _ => .ret1
theorem keeps_appendV (e size bytes : Nat) (s : Value) (n : Nat) (new : List Value) : Keeps P h (appendV h e size bytes s n new) := by
  refine .ob fun q _ => .og (.oi ?_ (.ob fun old _ => ?_))
  · exact .oi (.og .same) (.ob fun p _ => .ob fun h' hw => .some (ok_write hw))
  · refine .og (.og (.oi (.some (Ok.new h _)) (.ob fun p _ => .oi (.some (Ok.new h _)) (.og (.ob fun o _ => ?_)))))
    cases o with
    | map => exact .none
    | text => exact .none
    | loop => exact .none
    | cells c e' z cl => exact .og (.og (.some (Ok.trans (Ok.kill h _) (Ok.new _ _))))

theorem evalOp_ok (o : AOp) : Keeps P h (evalOp o t h) := by
  cases o with
  | move x => exact keeps_move x
  | pick c a b => exact .ob fun _ _ => .ob fun d _ => .oi (keeps_move a) (keeps_move b)
  | alloc e z => exact .og (.og (.some (Ok.new h _)))
  | box e x => exact .ob fun _ _ => .og (.some (Ok.new h _))
  | build z ps => exact .og (.ob fun _ _ => .same)
  | buildSlice e n z ps => exact .og (.ob fun _ _ => .og (.some (Ok.new h _)))
  | load g n a => exact .ob fun _ _ => .ob fun _ _ => .ob fun _ _ => .ob fun _ _ => .ret1
  | store n a x => exact .ob fun _ _ => .ob fun _ _ => .ob fun _ _ => .og (.ob fun _ hw => .some (ok_write hw))
  | nilCheck x =>
    refine .ob fun v _ => ?_
    cases v with
    | pointer a => exact .oi .none .same
    | func fn a b => exact .ob fun _ _ => .same
    | _ => exact .none
  | bin op d x y => exact .ob fun _ _ => .ob fun _ _ => .ob fun _ _ => .ret1
  | un op x => exact .ob fun _ _ => .ob fun _ _ => .ret1
  | toInt k x => exact .ob fun _ _ => .ob fun _ _ => .ret1
  | toFloat k x => exact .ob fun _ _ => .ob fun _ _ => .ret1
  | same x => exact .ob fun _ _ => .ob fun _ _ => .same
  | bytesOf e x => exact .ob fun _ _ => .ob fun _ _ => .some (Ok.new h _)
  | textOf x =>
    refine .ob fun v _ => ?_
    show Keeps P h (textOfV h v)
    unfold textOfV
    split
    · exact .same
    · exact .ob fun _ _ => .ob fun _ _ => .same
    · exact .none
  | makeFunc fn a b => exact .ob fun _ _ => .ob fun _ _ => .same
  | makeMap => exact .some (Ok.new h _)
  | makeSlice e b z l c => exact .og (.og (.ob fun _ _ => .ob fun _ _ => .ob fun _ _ => .ob fun _ _ => .og (.og (.some (Ok.new h _)))))
  | sliceText x lo hi => exact .ob fun _ _ => .ob fun _ _ => .ob fun _ _ => .ob fun _ _ => .same
  | slice n x lo hi mx => exact .ob fun _ _ => .ob fun _ _ => .ret1
  | sliceArr l n x lo hi mx => exact .ob fun _ _ => .ob fun _ _ => .ob fun _ _ => .ret1
  | fieldAddr off x => exact .ob fun _ _ => .ob fun _ _ => .same
  | field off g n x => exact .ob fun _ _ => .ob fun _ _ => .ob fun _ _ => .ob fun _ _ => .ret1
  | indexArr l n x i => exact .ob fun _ _ => .ob fun _ _ => .ob fun _ _ => .ob fun _ _ => .og .same
  | indexSlice n x i => exact .ob fun _ _ => .ob fun _ _ => .ob fun _ _ => .ob fun _ _ => .ob fun _ _ => .og .same
  | indexAgg l n g x i => exact .ob fun _ _ => .ob fun _ _ => .ob fun _ _ => .ob fun _ _ => .og (.ob fun _ _ => .ob fun _ _ => .ret1)
  | indexText x i => exact .ob fun _ _ => .ob fun _ _ => .ob fun _ _ => .ob fun _ _ => .ob fun _ _ => .same
  | lookup kk z x i ok =>
    refine .og (.ob fun k _ => .og (.ob fun v _ => ?_))
    have hf : ∀ r, Keeps P h (found z ok h r) := fun r => by unfold found; split <;> exact .same
    show Keeps P h (lookupV z ok h k v)
    unfold lookupV
    split
    · exact hf _
    · exact .ob fun _ _ => .ob fun _ _ => hf _
    · exact .none
  | mapUpdate kk m k x =>
    refine .ob fun _ _ => .ob fun _ _ => .ob fun _ _ => .ob fun _ _ => .ob fun _ hg => .og (.ob fun f _ => ?_)
    cases f with
    | none => exact .some (ok_map hg)
    | some p => exact .some (ok_map hg)
  | mapEntry kk z m k =>
    refine .og (.ob fun _ _ => .ob fun _ _ => .ob fun _ _ => .ob fun _ hg => .og (.ob fun f _ => ?_))
    cases f with
    | none => exact .some (ok_map hg)
    | some p => exact .some (ok_map hg)
  | entryStore m s x => exact .ob fun _ _ => .ob fun _ _ => .ob fun _ _ => .ob fun _ _ => .ob fun _ _ => .ob fun _ hg => .ob fun _ _ => .some (ok_map hg)
  | delete kk m k =>
    refine .ob fun _ _ => .ob fun _ _ => .ob fun _ _ => .ob fun _ hg => .og (.ob fun f _ => ?_)
    cases f with
    | none => exact .same
    | some p => exact .some (ok_map hg)
  | rangeText x => exact .ob fun _ _ => .ob fun _ _ => .some (Ok.new h _)
  | nextText x =>
    refine .ob fun _ _ => .ob fun p _ => .og (.ob fun o ho => ?_)
    cases o with
    | cells => exact .none
    | map => exact .none
    | loop => exact .none
    | text s pos => exact .oi (.some (Ok.upd ⟨_, ho⟩ _)) .same
  | extract x i => exact .ob fun _ _ => .ob fun _ _ => .ob fun _ _ => .ret1
  | lenText x => exact .ob fun _ _ => .ob fun _ _ => .same
  | lenSlice x => exact .ob fun _ _ => .ob fun _ _ => .same
  | lenMap x =>
    refine .ob fun v _ => ?_
    show Keeps P h (lenMapV h v)
    unfold lenMapV
    split
    · exact .same
    · exact .ob fun _ _ => .same
    · exact .none
  | lenConst n => exact .same
  | capOf x =>
    refine .ob fun v _ => ?_
    show Keeps P h (capV h v)
    unfold capV
    split
    · exact .og .same
    · exact .none
  | append e n b s x => exact .ob fun _ _ => .ob fun _ _ => .ob fun _ _ => .ob fun _ _ => keeps_appendV _ _ _ _ _ _
  | appendZeros e n b z s x => exact .og (.ob fun _ _ => .ob fun _ _ => .ob fun _ _ => .og (.og (keeps_appendV _ _ _ _ _ _)))
  | copy n d s =>
    refine .ob fun dv _ => .ob fun sv _ => ?_
    show Keeps P h (copyV h n sv dv)
    unfold copyV
    split
    · refine .ob fun _ _ => .ob fun _ _ => ?_
      unfold copied
      split
      · exact .og .same
      · exact .ob fun _ hw => .some (ok_write hw)
      · exact .none
    · exact .none
  | clear z x =>
    refine .og (.ob fun v _ => ?_)
    show Keeps P h (clearV z h v)
    unfold clearV
    split
    · exact .same
    · exact .oi .same (.ob fun _ hw => .some (ok_write hw))
    · exact .none
  | minMax b x y => exact .ob fun _ _ => .ob fun _ _ => .ob fun _ _ => .ob fun _ _ => .og .same
  | call f as => exact .none
end

/-! ### By kind. -/
section
variable {P : Program} {ρ : Ren} {t : TM} {a : Act} {h h' : Heap} {v : Value} {w : World} {ao : AOp} {o : Oper}

structure Sound (P : Program) (ao : AOp) (o : Oper) (ρ : Ren) (t : TM) (a : Act) : Prop where
  pure : kindOf ao = 0 → ∀ {h h' v}, evalOp ao t h = some (v, h') → h' = h ∧ Pure0 P ρ a o v
  read : kindOf ao = 1 → ∀ {h h' v w}, HR ρ h.objs.get w → evalOp ao t h = some (v, h') → h' = h ∧ Read0 P ρ a o w v
  new : kindOf ao = 3 → ∀ {h h' v}, evalOp ao t h = some (v, h') → New0 P ρ a o h v h'
  eff : kindOf ao = 2 → isCallOp ao = false → ∀ {h h' v w}, HR ρ h.objs.get w → evalOp ao t h = some (v, h') → EffAt P ρ a o w v h h'
  call : isCallOp ao = true → ∃ (f : Operand) (args : Array Operand) (ats : Array TypeId), ao = .call f args.toList ∧ o.op = .call ⟨.value f, args, ats⟩

theorem nocall (hk : kindOf ao ≠ 2) : isCallOp ao = false := by cases ao <;> first | rfl | exact absurd rfl hk
theorem Sound.ofPure (hk : kindOf ao = 0) (k : ∀ {h h' v}, evalOp ao t h = some (v, h') → h' = h ∧ Pure0 P ρ a o v) : Sound P ao o ρ t a :=
  ⟨fun _ => k, fun e => by omega, fun e => by omega, fun e => by omega, fun e => by rw [nocall (by omega)] at e; cases e⟩
theorem Sound.ofRead (hk : kindOf ao = 1) (k : ∀ {h h' v w}, HR ρ h.objs.get w → evalOp ao t h = some (v, h') → h' = h ∧ Read0 P ρ a o w v) : Sound P ao o ρ t a :=
  ⟨fun e => by omega, fun _ => k, fun e => by omega, fun e => by omega, fun e => by rw [nocall (by omega)] at e; cases e⟩
theorem Sound.ofNew (hk : kindOf ao = 3) (k : ∀ {h h' v}, evalOp ao t h = some (v, h') → New0 P ρ a o h v h') : Sound P ao o ρ t a :=
  ⟨fun e => by omega, fun e => by omega, fun _ => k, fun e => by omega, fun e => by rw [nocall (by omega)] at e; cases e⟩
theorem Sound.ofEff (hk : kindOf ao = 2) (k : ∀ {h h' v w}, HR ρ h.objs.get w → evalOp ao t h = some (v, h') → EffAt P ρ a o w v h h') (hn : isCallOp ao = false := by rfl) : Sound P ao o ρ t a :=
  ⟨fun e => by omega, fun e => by omega, fun e => by omega, fun _ _ => k, fun e => by rw [hn] at e; cases e⟩
theorem Sound.ofCall {f : Operand} {args : Array Operand} {ats : Array TypeId} (ha : ao = .call f args.toList) (ho : o.op = .call ⟨.value f, args, ats⟩) : Sound P ao o ρ t a := by
  subst ha
  exact ⟨fun e => absurd e (by simp [kindOf]), fun e => absurd e (by simp [kindOf]), fun e => absurd e (by simp [kindOf]), fun _ e => absurd e (by simp [isCallOp]), fun _ => ⟨f, args, ats, rfl, ho⟩⟩
theorem EffOk.at_ (k : EffOk P ρ a o w v h h') : EffAt P ρ a o w v h h' := fun _ => k

theorem bind_some {α β : Type} {x : Option α} {f : α → Option β} {y : β} : (x >>= f) = some y ↔ ∃ z, x = some z ∧ f z = some y := by cases x <;> simp
theorem bif_some {β : Type} {b : Bool} {x : Option β} {y : β} : (bif b then x else none) = some y ↔ b = true ∧ x = some y := by cases b <;> simp
theorem float_same (k : FloatKind) (b : Nat) (w : World) : (Conv.floatToFloat k b k).run P w = .ok (.float k b) w := by
  simp [Conv.floatToFloat]

theorem builtin_sound {dst ty pos after guard} {b : Builtin} {xs : List Operand} {ats : List TypeId} (hc : compBuiltin P b xs ats = some ao) (hT : ∀ x ∈ xs, ∀ v, opd t x = some v → VR ρ v (a.eval x)) :
    Sound P ao ⟨dst, .call ⟨.builtin b, ⟨xs⟩, ⟨ats⟩⟩, ty, pos, after, guard⟩ ρ t a := by
  unfold compBuiltin at hc
  split at hc
  · rename_i x s
    have hx := hT x (by simp)
    split at hc
    · rename_i hd; cases hc; exact .ofPure rfl fun he => pure_lenText (s := s) rfl hd hx he
    · rename_i e hd; cases hc; exact .ofPure rfl fun he => pure_lenSlice (s := s) rfl hd hx he
    · rename_i k e hd; cases hc; exact .ofRead rfl fun hm he => read_lenMap (s := s) hm rfl hd hx he
    · rename_i n e hd; cases hc; exact .ofPure rfl fun he => pure_lenConst (t := t) (s := s) rfl (.inl ⟨e, hd⟩) he
    · rename_i p hd
      split at hc
      · rename_i n e hd2; cases hc; exact .ofPure rfl fun he => pure_lenConst (t := t) (s := s) rfl (.inr ⟨p, e, hd, hd2⟩) he
      · cases hc
    · cases hc
  · rename_i x s
    have hx := hT x (by simp)
    split at hc
    · rename_i e hd; cases hc; exact .ofPure rfl fun he => pure_cap (s := s) rfl hd hx he
    · cases hc
  · rename_i s x st xt
    have hs := hT s (by simp)
    have hx := hT x (by simp)
    split at hc
    · rename_i e hd
      split at hc
      · rename_i n by_ k hn hb hux
        split at hc
        · rename_i z hz
          obtain ⟨h1, h2⟩ := bif_some.1 hc
          cases h2
          exact .ofEff rfl fun hm he => eff_appendZeros (st := st) (xt := xt) hm rfl rfl hd hn hb hz (Nat.eq_of_beq_eq_true h1) hux hs hx he
        · cases hc
      · rename_i n by_ k hn hb hux
        split at hc
        · rename_i z hz
          obtain ⟨h1, h2⟩ := bif_some.1 hc
          cases h2
          exact .ofEff rfl fun hm he => eff_append (st := st) (xt := xt) hm rfl rfl hd hn hb hz (Nat.eq_of_beq_eq_true h1) (.inr ⟨_, hux⟩) hs hx he
        · cases hc
      · rename_i n by_ hn hb hux
        split at hc
        · rename_i z hz
          obtain ⟨h1, h2⟩ := bif_some.1 hc
          cases h2
          exact .ofEff rfl fun hm he => eff_append (st := st) (xt := xt) hm rfl rfl hd hn hb hz (Nat.eq_of_beq_eq_true h1) (.inl hux) hs hx he
        · cases hc
      · cases hc
    · cases hc
  · rename_i d s dt rest
    split at hc
    · rename_i e hd
      split at hc
      · rename_i n hn
        cases hc
        exact .ofEff rfl fun hm he => (eff_copy (dt := dt) hm rfl hd hn (hT d (by simp)) (hT s (by simp)) he).at_
      · cases hc
    · cases hc
  · rename_i x s
    split at hc
    · rename_i e hd
      split at hc
      · rename_i z hz
        cases hc
        exact .ofEff rfl fun hm he => (eff_clear (s := s) hm rfl hd hz (hT x (by simp)) he).at_
      · cases hc
    · cases hc
  · rename_i m k s u
    split at hc
    · rename_i kt e hd
      split at hc
      · rename_i j hk
        cases hc
        have hko : keyOk P kt = 1 := by simp [keyOk, hk]
        exact .ofEff rfl fun hm he => (eff_delete (s := s) (kt := kt) (e := e) hm rfl hd (by omega) (hT m (by simp)) (hT k (by simp)) (by rw [hko]; exact he)).at_
      · rename_i hk
        cases hc
        have hko : keyOk P kt = 2 := by simp [keyOk, hk]
        exact .ofEff rfl fun hm he => (eff_delete (s := s) (kt := kt) (e := e) hm rfl hd (by omega) (hT m (by simp)) (hT k (by simp)) (by rw [hko]; exact he)).at_
      · cases hc
    · cases hc
  · rename_i x y
    cases hc
    exact .ofPure rfl fun he => pure_minMax (isMax := true) (hT x (by simp)) (hT y (by simp)) he
  · rename_i x y
    cases hc
    exact .ofPure rfl fun he => pure_minMax (isMax := false) (hT x (by simp)) (hT y (by simp)) he
  · cases hc

theorem op_sound (hc : compOp P o = some ao) (hT : ∀ x ∈ o.op.operands.toList, ∀ v, opd t x = some v → VR ρ v (a.eval x)) : Sound P ao o ρ t a := by
  obtain ⟨dst, op, ty, pos, after, guard⟩ := o
  cases op with
  | move x => cases hc; exact .ofPure rfl fun he => pure_move (hT x (by simp [Op.operands])) he _ (.inl rfl)
  | assign x => cases hc; exact .ofPure rfl fun he => pure_move (hT x (by simp [Op.operands])) he _ (.inr rfl)
  | pick c x y => cases hc; exact .ofPure rfl fun he => pure_pick (hT c (by simp [Op.operands])) (hT x (by simp [Op.operands])) (hT y (by simp [Op.operands])) he
  | alloc e =>
    obtain ⟨z, h1, h2⟩ := bind_some.1 hc
    cases h2
    exact .ofNew rfl fun he => new_alloc (t := t) h1 he
  | box e x => cases hc; exact .ofNew rfl fun he => new_box (hT x (by simp [Op.operands])) he
  | build s ps =>
    obtain ⟨z, h1, h2⟩ := bind_some.1 hc
    have hps : ∀ p ∈ ps.toList, ∀ v, opd t p.2 = some v → VR ρ v (a.eval p.2) := fun p hp => hT p.2 (by simp [Op.operands]; exact ⟨p.1, by simpa using hp⟩)
    split at h2
    · rename_i fs hd
      obtain ⟨h3, h4⟩ := bif_some.1 h2
      split at h4
      · rename_i r hr
        cases h4
        exact .ofPure rfl fun he => pure_build h1 (.inl ⟨fs, hd, h3, hr⟩) hps he
      · cases h4
    · rename_i n e hd
      obtain ⟨k, h3, h4⟩ := bind_some.1 h2
      cases h4
      exact .ofPure rfl fun he => pure_build h1 (.inr ⟨n, e, k, hd, h3, rfl⟩) hps he
    · cases h2
  | buildSlice s len ps =>
    have hps : ∀ p ∈ ps.toList, ∀ v, opd t p.2 = some v → VR ρ v (a.eval p.2) := fun p hp => hT p.2 (by simp [Op.operands]; exact ⟨p.1, by simpa using hp⟩)
    simp only [compOp] at hc
    split at hc
    · rename_i e hd
      obtain ⟨n, h1, h2⟩ := bind_some.1 hc
      obtain ⟨z, h3, h4⟩ := bind_some.1 h2
      obtain ⟨h5, h6⟩ := bif_some.1 h4
      obtain ⟨h7, h8⟩ := bif_some.1 h6
      obtain ⟨h9, h10⟩ := bif_some.1 h8
      cases h10
      exact .ofNew rfl fun he => new_buildSlice hd h1 h3 (Nat.le_of_ble_eq_true h5) (Nat.eq_of_beq_eq_true h9) (Nat.le_of_ble_eq_true h7) hps he
    · cases hc
  | load s x =>
    obtain ⟨g, h1, h2⟩ := bind_some.1 hc
    obtain ⟨n, h3, h4⟩ := bind_some.1 h2
    cases g with
    | true => cases h4; exact .ofRead rfl fun hm he => read_load hm h1 h3 (hT x (by simp [Op.operands])) he
    | false => cases h4; exact .ofRead rfl fun hm he => read_load hm h1 h3 (hT x (by simp [Op.operands])) he
  | store s x y =>
    obtain ⟨n, h1, h2⟩ := bind_some.1 hc
    cases h2
    exact .ofEff rfl fun hm he => (eff_store hm h1 (hT x (by simp [Op.operands])) (hT y (by simp [Op.operands])) he).at_
  | nilCheck x => cases hc; exact .ofPure rfl fun he => pure_nilCheck (hT x (by simp [Op.operands])) he
  | binOp op s x y s2 =>
    simp only [compOp] at hc
    split at hc
    · rename_i e hd
      split at hc
      · rename_i n hn
        cases hc
        exact .ofRead rfl fun hm he => read_binPtr hm hd hn (by omega) (hT x (by simp [Op.operands])) (hT y (by simp [Op.operands])) he
      · cases hc
    · rename_i d hnp hd
      cases hc
      have h2 : descNo d ≠ 2 := by
        intro hh
        cases d <;> simp [descNo] at hh
        exact hnp _ rfl
      exact .ofPure (by simp only [kindOf]; have : Nat.beq (descNo d) 2 = false := by rw [Bool.eq_false_iff]; intro hb; exact h2 (Nat.eq_of_beq_eq_true hb)
                        rw [this]; rfl) fun he => pure_bin hd h2 (hT x (by simp [Op.operands])) (hT y (by simp [Op.operands])) he
    · cases hc
  | unOp op s x => cases hc; exact .ofPure rfl fun he => pure_un (hT x (by simp [Op.operands])) he
  | convert s d x =>
    have hx := hT x (by simp [Op.operands])
    simp only [compOp] at hc
    split at hc
    · rename_i k k' hs hd
      cases hc; exact .ofPure rfl fun he => pure_toInt (.inl ⟨_, hs⟩) hd hx he
    · rename_i k k' hs hd
      cases hc; exact .ofPure rfl fun he => pure_toInt (.inr ⟨_, hs⟩) hd hx he
    · rename_i k k' hs hd
      cases hc; exact .ofPure rfl fun he => pure_toFloat (.inl ⟨_, hs⟩) hd (float_same _) hx he
    · rename_i k k' hs hd
      cases hc; exact .ofPure rfl fun he => pure_toFloat (.inr ⟨_, hs⟩) hd (float_same _) hx he
    · rename_i hs hd
      cases hc; exact .ofPure rfl fun he => pure_same hs hd hx he
    · rename_i e hs hd
      split at hc
      · rename_i h8
        cases hc; exact .ofEff rfl fun hm he => eff_bytesOf hm hs hd h8 hx he
      · cases hc
    · rename_i e hs hd
      split at hc
      · rename_i h8
        cases hc; exact .ofRead rfl fun hm he => read_textOf hm hs h8 hd hx he
      · cases hc
    · cases hc
  | makeFunc fn f c =>
    have hn : (∀ l, fn ≠ .yield l) ∧ AOp.makeFunc fn f.toList c.toList = ao := by
      cases fn with
      | yield l => cases hc
      | _ => cases hc; exact ⟨by simp, rfl⟩
    obtain ⟨hn, rfl⟩ := hn
    exact .ofPure rfl fun he => pure_makeFunc hn (fun x hx => hT x (by simp only [Op.operands, Array.toList_append, List.mem_append]; exact .inl hx)) (fun x hx => hT x (by simp only [Op.operands, Array.toList_append, List.mem_append]; exact .inr hx)) he
  | makeMap s r =>
    cases r with
    | none => cases hc; exact .ofEff rfl fun hm he => eff_makeMap (t := t) hm he
    | some r => cases hc
  | makeSlice s l c =>
    simp only [compOp] at hc
    split at hc
    · rename_i e hd
      obtain ⟨by_, h1, h2⟩ := bind_some.1 hc
      obtain ⟨z, h3, h4⟩ := bind_some.1 h2
      obtain ⟨n, h5, h6⟩ := bind_some.1 h4
      obtain ⟨h7, h8⟩ := bif_some.1 h6
      obtain ⟨h9, h10⟩ := bif_some.1 h8
      cases h10
      exact .ofEff rfl fun hm he => eff_makeSlice hm hd h5 h1 h3 (Nat.eq_of_beq_eq_true h9) (hT l (by simp [Op.operands])) (hT c (by simp [Op.operands])) he
    · cases hc
  | slice s x lo hi mx =>
    have hx := hT x (by simp [Op.operands])
    have hlo : ∀ y, lo = some y → ∀ v, opd t y = some v → VR ρ v (a.eval y) := fun y hy => hT y (by simp [Op.operands, hy])
    have hhi : ∀ y, hi = some y → ∀ v, opd t y = some v → VR ρ v (a.eval y) := fun y hy => hT y (by simp [Op.operands, hy])
    have hmx : ∀ y, mx = some y → ∀ v, opd t y = some v → VR ρ v (a.eval y) := fun y hy => hT y (by simp [Op.operands, hy])
    simp only [compOp] at hc
    split at hc
    · rename_i hs
      split at hc
      · cases hc; exact .ofPure rfl fun he => pure_sliceText hs hx hlo hhi he
      · cases hc
    · rename_i e hs
      split at hc
      · cases hc
      · rename_i hmh
        obtain ⟨n, h1, h2⟩ := bind_some.1 hc
        cases h2
        exact .ofPure rfl fun he => pure_slice hs h1 hx hlo hhi hmx (fun hh => by cases hi <;> simp_all) he
    · rename_i len e hs
      split at hc
      · cases hc
      · rename_i hmh
        obtain ⟨n, h1, h2⟩ := bind_some.1 hc
        cases h2
        exact .ofPure rfl fun he => pure_sliceArr hs h1 hx hlo hhi hmx (fun hh => by cases hi <;> simp_all) he
    · cases hc
  | fieldAddr s x i =>
    obtain ⟨fs, h1, h2⟩ := bind_some.1 hc
    obtain ⟨f, h3, h4⟩ := bind_some.1 h2
    obtain ⟨n, h5, h6⟩ := bind_some.1 h4
    obtain ⟨h7, h8⟩ := bif_some.1 h6
    cases h8
    exact .ofPure rfl fun he => pure_fieldAddr h1 h3 h5 (Nat.le_of_ble_eq_true h7) (hT x (by simp [Op.operands])) he
  | field s x i =>
    obtain ⟨fs, h1, h2⟩ := bind_some.1 hc
    obtain ⟨f, h3, h4⟩ := bind_some.1 h2
    obtain ⟨g, h5, h6⟩ := bind_some.1 h4
    obtain ⟨n, h7, h8⟩ := bind_some.1 h6
    cases g with
    | true => cases h8; exact .ofPure rfl fun he => pure_field h1 h3 h5 h7 (hT x (by simp [Op.operands])) he
    | false => cases h8; exact .ofPure rfl fun he => pure_field h1 h3 h5 h7 (hT x (by simp [Op.operands])) he
  | indexAddr s x i =>
    have hx := hT x (by simp [Op.operands])
    have hi := hT i (by simp [Op.operands])
    simp only [compOp] at hc
    split at hc
    · rename_i len e hs
      obtain ⟨n, h1, h2⟩ := bind_some.1 hc
      cases h2; exact .ofPure rfl fun he => pure_indexArr hs h1 hx hi he
    · rename_i e hs
      obtain ⟨n, h1, h2⟩ := bind_some.1 hc
      cases h2; exact .ofPure rfl fun he => pure_indexSlice hs h1 hx hi he
    · cases hc
  | index s x i =>
    have hx := hT x (by simp [Op.operands])
    have hi := hT i (by simp [Op.operands])
    simp only [compOp] at hc
    split at hc
    · rename_i hs
      cases hc; exact .ofPure rfl fun he => pure_indexText hs hx hi he
    · rename_i len e hs
      obtain ⟨g, h1, h2⟩ := bind_some.1 hc
      obtain ⟨n, h3, h4⟩ := bind_some.1 h2
      cases g with
      | true => cases h4; exact .ofPure rfl fun he => pure_indexAgg hs h1 h3 rfl rfl hx hi he
      | false =>
        obtain ⟨h5, h6⟩ := bif_some.1 (show (bif Nat.beq n 1 then some (AOp.indexAgg len 1 false x i) else none) = some ao from h4)
        cases h6
        exact .ofPure rfl fun he => pure_indexAgg hs h1 h3 rfl (Nat.eq_of_beq_eq_true h5).symm hx hi he
    · cases hc
  | lookup s x i ok =>
    simp only [compOp] at hc
    split at hc
    · rename_i k e hd
      obtain ⟨h1, h2⟩ := bif_some.1 hc
      split at h2
      · rename_i z hz
        cases h2
        exact .ofRead rfl fun hm he => read_lookup hm hd (Nat.le_of_ble_eq_true h1) hz (hT x (by simp [Op.operands])) (hT i (by simp [Op.operands])) he
      · cases h2
    · cases hc
  | mapUpdate s m k x =>
    simp only [compOp] at hc
    split at hc
    · rename_i kt e hd
      obtain ⟨h1, h2⟩ := bif_some.1 hc
      cases h2
      exact .ofEff rfl fun hm he => (eff_mapUpdate _ (.inl rfl) hm hd (Nat.le_of_ble_eq_true h1) (hT m (by simp [Op.operands])) (hT k (by simp [Op.operands])) (hT x (by simp [Op.operands])) he).at_
    · cases hc
  | insert s m k x =>
    simp only [compOp] at hc
    split at hc
    · rename_i kt e hd
      obtain ⟨h1, h2⟩ := bif_some.1 hc
      cases h2
      exact .ofEff rfl fun hm he => (eff_mapUpdate _ (.inr rfl) hm hd (Nat.le_of_ble_eq_true h1) (hT m (by simp [Op.operands])) (hT k (by simp [Op.operands])) (hT x (by simp [Op.operands])) he).at_
    · cases hc
  | mapEntry s m k =>
    simp only [compOp] at hc
    split at hc
    · rename_i kt e hd
      obtain ⟨h1, h2⟩ := bif_some.1 hc
      split at h2
      · rename_i z hz
        cases h2
        exact .ofEff rfl fun hm he => (eff_mapEntry hm hd (Nat.le_of_ble_eq_true h1) hz (hT m (by simp [Op.operands])) (hT k (by simp [Op.operands])) he).at_
      · cases h2
    · cases hc
  | entryStore s m k x =>
    cases hc
    exact .ofEff rfl fun hm he => (eff_entryStore hm (hT m (by simp [Op.operands])) (hT k (by simp [Op.operands])) (hT x (by simp [Op.operands])) he).at_
  | range s x =>
    simp only [compOp] at hc
    split at hc
    · rename_i hd
      cases hc
      exact .ofEff rfl fun hm he => eff_rangeText hm hd (hT x (by simp [Op.operands])) he
    · cases hc
  | next x b =>
    cases b with
    | true => cases hc; exact .ofEff rfl fun hm he => (eff_nextText hm (hT x (by simp [Op.operands])) he).at_
    | false => cases hc
  | extract x i => cases hc; exact .ofPure rfl fun he => pure_extract (hT x (by simp [Op.operands])) he
  | call c =>
    obtain ⟨callee, xs, ats⟩ := c
    cases callee with
    | value f => cases hc; exact .ofCall rfl rfl
    | builtin b => exact builtin_sound hc (fun x hx => hT x (by simp only [Op.operands, Call.operands]; simpa using hx))
    | invoke r m => cases hc
  | _ => cases hc
end
end Go.Ev
