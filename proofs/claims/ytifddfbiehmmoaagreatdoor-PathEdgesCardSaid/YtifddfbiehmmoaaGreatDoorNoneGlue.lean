/- A text of this seat: the evaluator at work. -/
import Derived.Test.YtifddfbiehmmoaaGreatDoorSeatYes
import Derived.Test.YtifddfbiehmmoaaGreatDoorCards
import Derived.Test.YtifddfbiehmmoaaGreatDoorTie
import Derived.ProofKit
import Derived.OpenShut
import Derived.Deep.DeepHandedRow
namespace Go.Proofs.YtifddfbiehmmoaaGreatDoor.Seat
open Go Go.Ev Go.Proofs Go.Proofs.YtifddfbiehmmoaaGreatDoor Go.ChangeShapes Go.WideShapes Go.ChangeAt Go.RowKit

theorem keptBut_of {W W' : World} (hh : ∀ r, r < W.heap.size → W'.heap[r]? = W.heap[r]?) (ho : W'.os = W.os) (hu : W'.output = W.output) (may : MemPlace → Prop) : W.keptBut W' may := by
  refine ⟨ho, hu, fun i hi => ?_⟩
  rw [hh i hi]
  cases h : W.heap[i]? with
  | none => rfl
  | some o => cases o <;> first | rfl | exact ⟨rfl, rfl, rfl, fun _ _ => rfl⟩ | exact .inr ⟨rfl, rfl⟩

section
variable {H : Type} {enc : TypeId × Value → H} {P : Program}
theorem post_old {f : Func} {s : ChangeSpec} {apart fresh handsOn : Bool} {W W' : World} {args : Array Value} {v : Value} {ds gs : List (DataW H)} {before pa pv : List MemPlace}
    (hW : DataW.Whole enc P f.params.toList s.vars apart W args.toList ds gs before)
    (hres : ∀ (b : Nat) (sp : Nat → Bool) (hd : Bool), DataW.TrodAll enc P W' b sp hd f.resultTypes.toList (v.resultList f.resultTypes.size) (s.fn H (ds ++ gs)).results [])
    (hargs : ∀ sp : Nat → Bool, (∀ p ∈ before, sp p.block = true) → DataW.TrodAll enc P W' 0 sp true f.params.toList args.toList (s.fn H (ds ++ gs)).args pa)
    (hvars : ∀ sp : Nat → Bool, (∀ p ∈ before, sp p.block = true) → DataW.TrodVars enc P W' sp s.vars (s.fn H (ds ++ gs)).vars pv)
    (hps : before = pa ++ pv) (hk : W.keptBut W' (· ∈ before)) : s.post enc P f apart fresh handsOn false W args v W' := by
  have hold : ∀ p ∈ before, (fun b => decide (b < W.heap.size)) p.block = true := fun p hp => by simpa using hW.lt p hp
  refine ⟨ds, gs, before, [], pa, pv, hW, hres _ _ _, hargs _ hold, hvars _ hold, World.keptBut_mono (fun p hp => ⟨hp, ?_⟩) hk, fun h => by cases h⟩
  rw [hps, List.mem_append] at hp
  exact Or.inr hp
end

/-- What a law's function does, where the evaluator says yes. -/
theorem calls_yes {F : Fns} (hF : FnsOk Tryz.prog F) {N f : Nat} {fn : Func} {args : List Value} (hf : Tryz.prog.funcs[f]? = some fn) (hname : (fn.name == "runtime.NumGoroutine") = false) (hb : ∃ c, fn.body = some c)
    (he : saysYes ((both F N).call (2 * f) args Heap.empty) = true) (ha : plains args = true) (w : World) :
    Calls Tryz.prog f ⟨args⟩ w fun e w' => e = .returned (.bool true) ∧ (∀ r, r < w.heap.size → w'.heap[r]? = w.heap[r]?) ∧ w'.os = w.os ∧ w'.output = w.output := by
  obtain ⟨h0, he⟩ := saysYes_some he
  obtain ⟨c, hb⟩ := hb
  have hne : fn.name ≠ "runtime.NumGoroutine" := by simpa using hname
  have hrun : (callFunc f ⟨args⟩).run Tryz.prog w = .ok (.enter f ⟨args⟩) w := by simp [callFunc, hf, hne, hb]
  rcases top hF mix he ha w with ⟨v', w', q⟩ | q
  · rw [hrun] at q; cases q
  · exact q.mono fun e w' ⟨v', ρ', e1, e2, _, _, e3, e4, e5, _⟩ => by cases e2; exact ⟨e1, e3, e4, e5⟩

theorem own : ownKnob Tryz.prog.godebug = none := by kernel_rfl
end Go.Proofs.YtifddfbiehmmoaaGreatDoor.Seat
