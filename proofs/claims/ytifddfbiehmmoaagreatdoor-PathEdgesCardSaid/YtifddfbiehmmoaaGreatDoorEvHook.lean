/- Functions that are told by hand. -/
import Derived.Test.YtifddfbiehmmoaaGreatDoorEvCall
import Derived.Laws.Externs
namespace Go.Ev
open Go
section
variable {P : Program}

theorem fnOf_ok {f : Nat} {af : AFun} (h : fnOf P f = some af) : ∃ fn, P.funcs[f]? = some fn ∧ compFn P fn = some af ∧ (fn.name == "runtime.NumGoroutine") = false := by
  unfold fnOf at h
  split at h
  · rename_i fn hf
    cases hn : fn.name == "runtime.NumGoroutine" with
    | true => rw [hn] at h; cases h
    | false => rw [hn] at h; exact ⟨fn, hf, h, hn⟩
  · cases h

abbrev HookF := CallF → List Value → Heap → Option (Value × Heap)
def HookOk (P : Program) (f : Nat) (k : HookF) : Prop := ∀ call, CallR P call → ∀ args h v h', k call args h = some (v, h') → Ok P h h' ∧ (Wf P h → ∀ ρ args' w, VRL ρ args args' → HR ρ h.objs.get w → Free ρ h h' →
    CallOut P f args' w fun v' w' => ∃ ρ', After ρ h w v h' v' w' ρ')

noncomputable def f64bits (_ : CallF) (args : List Value) (h : Heap) : Option (Value × Heap) :=
  match args with | [.float .f64 b] => some (.int .u64 (.ofNat b), h) | _ => none
noncomputable def f64from (_ : CallF) (args : List Value) (h : Heap) : Option (Value × Heap) :=
  match args with | [.int .u64 n] => some (.float .f64 n.toNat, h) | _ => none
theorem f64bits_ok {f : Nat} {fn : Func} (hf : P.funcs[f]? = some fn) (hname : (fn.name == "runtime.NumGoroutine") = false) (hb : fn.body.isNone = true) (hn : Extern.findNext fn = none) (he : Extern.find fn = some Extern.MathFloatBits.float64bits) : HookOk P f f64bits := by
  intro call _ args h v h' hk
  unfold f64bits at hk
  split at hk
  · rename_i b
    cases hk
    refine ⟨Ok.refl _, fun _ ρ args' w hv hm _ => .inl ⟨.int .u64 (.ofNat b), w, ?_, ?_, ρ, .int _ _, hm, Fr.refl ..⟩⟩
    · cases hv with | cons h1 h2 => cases h1; cases h2; rw [run_callFunc_extern hf hname hb hn he]; rfl
    · cases hv with | cons h1 h2 => cases h1; cases h2; intro u hu; simp at hu; subst hu; simp
  · cases hk
theorem f64from_ok {f : Nat} {fn : Func} (hf : P.funcs[f]? = some fn) (hname : (fn.name == "runtime.NumGoroutine") = false) (hb : fn.body.isNone = true) (hn : Extern.findNext fn = none) (he : Extern.find fn = some Extern.MathFloatBits.float64frombits) : HookOk P f f64from := by
  intro call _ args h v h' hk
  unfold f64from at hk
  split at hk
  · rename_i n
    cases hk
    refine ⟨Ok.refl _, fun _ ρ args' w hv hm _ => .inl ⟨.float .f64 n.toNat, w, ?_, ?_, ρ, .float _ _, hm, Fr.refl ..⟩⟩
    · cases hv with | cons h1 h2 => cases h1; cases h2; rw [run_callFunc_extern hf hname hb hn he]; rfl
    · cases hv with | cons h1 h2 => cases h1; cases h2; intro u hu; simp at hu; subst hu; simp
  · cases hk

/-- A function that is known to say yes, from nothing: it says so everywhere. -/
noncomputable def yesHook (_ : CallF) (args : List Value) (h : Heap) : Option (Value × Heap) :=
  match args with | [] => some (.bool true, h) | _ => none
theorem yes_ok {F : Fns} (hF : FnsOk P F) (hmix : P.follows .mixedOrders = true) {N f : Nat} {h0 : Heap} (he : (both F N).call (2 * f) [] Heap.empty = some (.bool true, h0)) : HookOk P f yesHook := by
  intro call _ args h v h' hk
  unfold yesHook at hk
  split at hk
  · cases hk
    refine ⟨Ok.refl _, fun _ ρ args' w hv hm _ => ?_⟩
    cases hv
    obtain ⟨_, h2⟩ := (both_sound hF hmix N).1 _ _ _ _ _ he
    have hm0 : HR (fun _ => none) Heap.empty.objs.get w := ⟨fun b o hb => (by cases hb), fun b c o p L M hb => (by cases hb)⟩
    have hwf : Wf P Heap.empty := ⟨fun _ _ => rfl, fun b R hb => (by cases hb)⟩
    have key : ∀ v' w', (∃ ρ', After (fun _ => none) Heap.empty w (.bool true) h0 v' w' ρ') → ∃ ρ', After ρ h w (.bool true) h v' w' ρ' := fun v' w' ⟨ρ', k1, k2, k3⟩ => by
      cases k1
      have hj : ∀ r, r < w.heap.size → w'.heap[r]? = w.heap[r]? := fun r hr => k3.junk r hr (fun b o L hb => (by cases hb))
      refine ⟨ρ, .bool _, ⟨fun b o hb => ?_, hm.inj⟩, ⟨ρ.le_refl, fun _ _ h => .inl h, k3.size, fun r hr _ => hj r hr, fun b o L h1 h2 => .inl ⟨b, o, L, h1, h2, rfl⟩, k3.os, k3.output, k3.tape⟩⟩
      obtain ⟨L, r, g1, g2, g3⟩ := hm.obj b o hb
      exact ⟨L, r, g1, by rw [hj _ (Array.getElem?_eq_some_iff.1 g2).1]; exact g2, g3⟩
    rcases (h2 hwf (fun _ => none) [] w .nil hm0 (fun _ _ _ => rfl)).1 f rfl with ⟨v', w', q1, q2, q3⟩ | ⟨q1, q2⟩
    · exact .inl ⟨v', w', q1, q2, key v' w' q3⟩
    · exact .inr ⟨q1, fun F n hF hr => (q2 F n hF hr).mono fun e w' ⟨v', e1, e2⟩ => ⟨v', e1, key v' w' e2⟩⟩
  · cases hk

/-- Hooks by number. -/
noncomputable def pickHook (l : List (Nat × HookF)) (f : Nat) : Option HookF :=
  List.rec (motive := fun _ => Option HookF) none (fun p _ ih => oi (Nat.beq p.1 f) (some p.2) ih) l
theorem pickHook_ok : ∀ {l : List (Nat × HookF)}, (∀ p ∈ l, HookOk P p.1 p.2) → ∀ f k, pickHook l f = some k → HookOk P f k
  | [], _, f, k, h => by cases h
  | p :: l, hl, f, k, h => by
    have h : oi (Nat.beq p.1 f) (some p.2) (pickHook l f) = some k := h
    cases hb : Nat.beq p.1 f with
    | true =>
      rw [hb] at h; cases h
      rw [← Nat.eq_of_beq_eq_true hb]; exact hl p (by simp)
    | false => rw [hb] at h; exact pickHook_ok (fun q hq => hl q (by simp [hq])) f k h
theorem fns_ok {l : List (Nat × HookF)} (hl : ∀ p ∈ l, HookOk P p.1 p.2) : FnsOk P ⟨fnOf P, pickHook l⟩ := ⟨fun _ _ h => fnOf_ok h, fun f k hk => pickHook_ok hl f k hk⟩

noncomputable def saysYes : Option (Value × Heap) → Bool :=
  Option.rec (motive := fun _ => Bool) false fun p => Option.rec (motive := fun _ => Bool) false (fun b => b) (asBool p.1)
theorem saysYes_some {r : Option (Value × Heap)} (h : saysYes r = true) : ∃ h0, r = some (.bool true, h0) := by
  cases r with
  | none => cases h
  | some p =>
    obtain ⟨v, h0⟩ := p
    have h : Option.rec (motive := fun _ => Bool) false (fun b => b) (asBool v) = true := h
    cases hv : asBool v with
    | none => rw [hv] at h; cases h
    | some b =>
      rw [hv] at h
      have h : b = true := h
      subst h
      rw [asBool_some] at hv; subst hv
      exact ⟨h0, rfl⟩
end
end Go.Ev
