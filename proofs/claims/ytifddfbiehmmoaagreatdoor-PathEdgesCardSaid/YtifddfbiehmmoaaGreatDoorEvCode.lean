/- Code. -/
import Derived.Test.YtifddfbiehmmoaaGreatDoorEvPlan
import Derived.LoopNIn
import Derived.Scope
import Derived.RangeFuncLeaves
import Derived.RangeFuncRecord
namespace Go.Ev
open Go
set_option linter.unusedSimpArgs false

def toExit : AExit → Exit
  | .normal => .normal
  | .exit i => .exit i
  | .ret => .ret

/-! ### Marks: the blocks for what the rounds defer; nothing is in them. -/
def Marks (lo : Nat) (m : Objs) (w : World) (ρ : Ren) : List Deferred → Prop
  | [] => lo ≤ w.heap.size
  | d :: ds => (∃ r, d = { target := .collected r, args := #[] } ∧ lo ≤ r ∧ w.heap[r]? = some (.deferred (some [])) ∧ (∀ b o L, m b = some o → ρ b = some L → L.blk ≠ r) ∧
      ∀ d' ∈ ds, d' ≠ { target := .collected r, args := #[] }) ∧ Marks lo m w ρ ds
theorem Marks.step {lo lo' hi' : Nat} {m m' : Objs} {w w' : World} {ρ ρ' : Ren} (fr : Fr ρ m w ρ' m' w' lo' hi') : ∀ {D : List Deferred}, Marks lo m w ρ D → Marks lo m' w' ρ' D
  | [], h => Nat.le_trans h fr.size
  | d :: ds, ⟨⟨r, h1, h2, h3, h4, h5⟩, h6⟩ => by
    have hlt := (Array.getElem?_eq_some_iff.1 h3).1
    refine ⟨⟨r, h1, h2, (fr.junk r hlt h4).trans h3, fun b o L hb hL e => ?_, h5⟩, Marks.step fr h6⟩
    rcases fr.own b o L hb hL with ⟨b0, o0, L0, k1, k2, k3⟩ | k1
    · exact h4 b0 o0 L0 k1 k2 (k3.trans e)
    · omega
theorem Marks.base {lo : Nat} {m : Objs} {w : World} {ρ : Ren} : ∀ {D : List Deferred}, Marks lo m w ρ D → lo ≤ w.heap.size
  | [], h => h
  | _ :: _, ⟨_, h⟩ => h.base
theorem Marks.lt {lo : Nat} {m : Objs} {w : World} {ρ : Ren} : ∀ {D : List Deferred}, Marks lo m w ρ D → ∀ d ∈ D, ∀ r, d = { target := .collected r, args := #[] } → r < w.heap.size
  | _ :: _, ⟨⟨r, h1, _, h3, _⟩, h6⟩, d, hd, r', e => by
    rcases List.mem_cons.1 hd with rfl | hd
    · rw [h1] at e
      have : r = r' := by injection e with e1 _; injection e1
      rw [← this]; exact (Array.getElem?_eq_some_iff.1 h3).1
    · exact h6.lt d hd r' e

section
variable {P : Program} {n : Nat} {nr : Bool} {ρ : Ren} {t : TM} {a : Act} {h : Heap} {w : World}

def Ends (n lo : Nat) (ρ : Ren) (h : Heap) (w : World) (x : AExit) (t' : TM) (h' : Heap) (Q : Exit → Act → World → Prop) : Prop :=
  ∀ a' w' ρ', AR n a'.defers ρ' t' a' → HR ρ' h'.objs.get w' → Fr ρ h.objs.get w ρ' h'.objs.get w' h.next h'.next → Marks lo h'.objs.get w' ρ' a'.defers → Q (toExit x) a' w'
abbrev WP := Fence → Nat → (Exit → Act → World → Prop) → Act → World → Prop
def Runs (P : Program) (nr : Bool) (n : Nat) (h : Heap) (t : TM) (x : AExit) (t' : TM) (h' : Heap) (W : WP) : Prop :=
  Ok P h h' ∧ ∀ F m, Open F → (F.round = none ∨ nr = true) → ∀ lo ρ a w, AR n a.defers ρ t a → Wf P h → HR ρ h.objs.get w → Free ρ h h' → Marks lo h.objs.get w ρ a.defers → ∀ Q, Ends n lo ρ h w x t' h' Q → W F m Q a w
def codeW (P : Program) (c : Code) : WP := fun F m Q => Code.wpIn F m P c Q
def ExecR (P : Program) (exec : ACode → TM → Heap → Out) : Prop := ∀ n c ac, compCode P n c = some ac → ∀ t h x t' h', exec ac t h = some (x, t', h') → Runs P (noRange ac) n h t x t' h' (codeW P c)
def LoopR (P : Program) (exec : ACode → TM → Heap → Out) : Prop := ∀ n c ac, compCode P n c = some ac → ∀ t h x t' h', exec (.loop ac) t h = some (x, t', h') → ∃ k, Runs P (noRange ac) n h t x t' h' (fun F m Q => Code.roundsIn F m P c Q k)

theorem Runs.weak {x : AExit} {t' : TM} {h' : Heap} {W : WP} {nr' : Bool} (k : Runs P nr n h t x t' h' W) (hn : nr' = true → nr = true) : Runs P nr' n h t x t' h' W :=
  ⟨k.1, fun F m hF hr => k.2 F m hF (hr.imp (fun h => h) hn)⟩
theorem Runs.imp {x : AExit} {t' : TM} {h' : Heap} {W W' : WP} (k : Runs P nr n h t x t' h' W) (hW : ∀ F m Q a w, W F m Q a w → W' F m Q a w) : Runs P nr n h t x t' h' W' :=
  ⟨k.1, fun F m hF hr lo ρ a w h1 h2 h3 h4 h5 Q hQ => hW F m Q a w (k.2 F m hF hr lo ρ a w h1 h2 h3 h4 h5 Q hQ)⟩

theorem onNormal_some {r : Out} {k : TM → Heap → Out} {x : AExit} {t' : TM} {h' : Heap} (he : onNormal r k = some (x, t', h')) :
    ∃ y t1 h1, r = some (y, t1, h1) ∧ ((y = .normal ∧ k t1 h1 = some (x, t', h')) ∨ (y ≠ .normal ∧ x = y ∧ t' = t1 ∧ h' = h1)) := by
  obtain ⟨⟨y, t1, h1⟩, g1, g2⟩ := ob_some.1 he
  refine ⟨y, t1, h1, g1, ?_⟩
  cases y with
  | normal => exact .inl ⟨rfl, g2⟩
  | exit i => cases g2; exact .inr ⟨by simp, rfl, rfl, rfl⟩
  | ret => cases g2; exact .inr ⟨by simp, rfl, rfl, rfl⟩
theorem toExit_ne {y : AExit} (hy : y ≠ .normal) : toExit y ≠ .normal := by cases y <;> simp [toExit] at *
theorem then_ne {e : Exit} (he : e ≠ .normal) (N : Act → World → Prop) (Q : Exit → Act → World → Prop) : Exit.then N Q e = Q e := by cases e <;> first | rfl | exact absurd rfl he

/-- One behind the other. -/
theorem Runs.seq {W1 W2 : WP} {y x : AExit} {t1 t' : TM} {h1 h' : Heap}
    (k1 : Runs P nr n h t y t1 h1 W1) (k2 : (y = .normal ∧ Runs P nr n h1 t1 x t' h' W2) ∨ (y ≠ .normal ∧ x = y ∧ t' = t1 ∧ h' = h1)) : Runs P nr n h t x t' h' (fun F m Q => W1 F m (Exit.then (W2 F m Q) Q)) := by
  rcases k2 with ⟨rfl, k2⟩ | ⟨hy, rfl, rfl, rfl⟩
  · refine ⟨k1.1.trans k2.1, fun F m hF hr lo ρ a w ha hwf hm hf hk Q hQ => ?_⟩
    refine k1.2 F m hF hr lo ρ a w ha hwf hm (hf.left k2.1.1) hk _ fun a' w' ρ' r1 r2 r3 r4 => ?_
    exact k2.2 F m hF hr lo ρ' a' w' r1 (k1.1.2 hwf) r2 (hf.right k1.1.1 r3) r4 Q fun a2 w2 ρ2 s1 s2 s3 s4 => hQ a2 w2 ρ2 s1 s2 (r3.trans k1.1.1 k2.1.1 s3) s4
  · refine ⟨k1.1, fun F m hF hr lo ρ a w ha hwf hm hf hk Q hQ => ?_⟩
    refine k1.2 F m hF hr lo ρ a w ha hwf hm hf hk _ fun a' w' ρ' r1 r2 r3 r4 => ?_
    rw [then_ne (toExit_ne hy)]
    exact hQ a' w' ρ' r1 r2 r3 r4

/-- What leaves the slots to themselves and turns nothing. -/
theorem Runs.still {x : AExit} {W : WP} (k : ∀ F m Q a w, Q (toExit x) a w → W F m Q a w) : Runs P nr n h t x t h W :=
  ⟨Ok.refl h, fun _ _ _ _ _ ρ a w ha _ hm _ hk Q hQ => k _ _ Q a w (hQ a w ρ ha hm (Fr.refl ..) hk)⟩

theorem stepR_scope {b : Frame} {k : List Item} {cs : List Frame} {c : Code} : Go.step P (lone (b.atR a (.code (.scope c) :: k)) cs w) = .next (lone (b.atR a (.code c :: .inScope c :: k)) cs w) :=
  step_lone_go (by simp [stepG, stepG.exec, Frame.atR])
theorem stepR_inScope {b : Frame} {k : List Item} {cs : List Frame} {c : Code} : Go.step P (lone (b.atR a (.inScope c :: k)) cs w) = .next (lone (b.atR a k) cs w) :=
  step_lone_go (by simp [stepG, stepG.exec, Frame.atR])
theorem wpIn_scope {F : Fence} {m : Nat} {c : Code} {Q : Exit → Act → World → Prop} (h : c.wpIn F m P (Exit.noGoto Q) a w) : (Code.scope c).wpIn F m P Q a w := by
  intro b k cs hro hb hr
  have h0 : (lone (b.atR a (.code (.scope c) :: k)) cs w).fenced P F := fenced_calm hb hr rfl
  obtain ⟨e, a₁, w₁, hq, harr⟩ := h b (.inScope c :: k) cs hro hb hr
  cases e with
  | normal => exact ⟨.normal, a₁, w₁, hq, .head h0 stepR_scope (StepsIn.trans harr (.one (fenced_calm hb hr rfl) stepR_inScope))⟩
  | exit id =>
    have hx : exitTo id (.inScope c :: k) = exitTo id k := by simp [exitTo]
    exact ⟨.exit id, a₁, w₁, hq, fun k' hk => .head h0 stepR_scope (harr.1 k' (by rw [hx]; exact hk)),
      fun hr' hk => let ⟨k₁, h1, h2⟩ := harr.2 hr' (by rw [hx]; exact hk); ⟨k₁, h1, .head h0 stepR_scope h2⟩⟩
  | goto l => exact hq.elim
  | ret => exact ⟨_, a₁, w₁, hq, .of_steps (.one h0 stepR_scope) harr⟩
  | panic ch => exact ⟨_, a₁, w₁, hq, .of_steps (.one h0 stepR_scope) harr⟩
  | outgrown => exact ⟨_, a₁, w₁, hq, .of_steps (.one h0 stepR_scope) harr⟩

/-! ### Loops over functions. -/
/-- A block of nobody's is laid. -/
theorem HR.junk {m : Objs} (hm : HR ρ m w) (o : Obj) : HR ρ m { w with heap := w.heap.push o } := by
  refine ⟨fun b ob hb => ?_, hm.inj⟩
  obtain ⟨L, r, h1, h2, h3⟩ := hm.obj b ob hb
  have hlt := (Array.getElem?_eq_some_iff.1 h2).1
  exact ⟨L, r, h1, by simp [Array.getElem?_push, Nat.ne_of_lt hlt, h2], h3⟩
theorem Fr.junkAlloc {m : Objs} (o : Obj) (lo hi : Nat) : Fr ρ m w ρ m { w with heap := w.heap.push o } lo hi :=
  ⟨ρ.le_refl, fun _ _ h => .inl h, by simp, fun r hr _ => by simp [Array.getElem?_push, Nat.ne_of_lt hr], fun b o L h h' => .inl ⟨b, o, L, h, h', rfl⟩, rfl, rfl, rfl⟩

theorem isEven_two (f : Nat) : isEven (2 * f) = true := by
  have : (2 * f) % 2 = 0 := by omega
  show Nat.beq ((2 * f) % 2) 0 = true
  rw [this]; rfl
theorem isEven_odd (f : Nat) : isEven (2 * f + 1) = false := by
  have : (2 * f + 1) % 2 = 1 := by omega
  show Nat.beq ((2 * f + 1) % 2) 0 = false
  rw [this]; rfl

theorem onLoop_some {β : Type} {o : AObj} {k : ALoop → Option β} {y : β} (he : onLoop o k = some y) : ∃ R, o = .loop R ∧ k R = some y := by
  cases o with
  | loop R => exact ⟨R, rfl, he⟩
  | _ => cases he
theorem HR.loop {m : Objs} (hm : HR ρ m w) {b : Nat} {R : ALoop} {L : Loc} (hb : m b = some (.loop R)) (hL : ρ b = some L) : ∃ q : Loop, w.heap[L.blk]? = some (.loop q) ∧ q.state = stOf R.st ∧ q.pending = R.pend.map codeOf ∧ q.params.toList = R.ps ∧ q.assign = R.ca ∧ q.body = R.cb ∧ TR ρ R.t q.tmps ∧ R.n ≤ q.tmps.size := by
  obtain ⟨L', r, h1, h2, q, rfl, h3⟩ := hm.obj b _ hb
  rw [hL] at h1; cases h1
  exact ⟨q, h2, h3⟩
theorem HR.turn {h : Heap} (hm : HR ρ h.objs.get w) {b : Nat} {R : ALoop} {L : Loc} {q : Loop} (hb : h.objs.get b = some (.loop R)) (hL : ρ b = some L) (hq : w.heap[L.blk]? = some (.loop q)) (st : Nat) (pend : Option AExit) (s : LoopState) (pn : Option Code) (hs : s = stOf st) (hp : pn = pend.map codeOf) :
    HR ρ (h.upd b (.loop (R.turn st pend))).objs.get (w.putObj L.blk (.loop { q with state := s, pending := pn })) ∧
    ∀ lo hi, Fr ρ h.objs.get w ρ (h.upd b (.loop (R.turn st pend))).objs.get (w.putObj L.blk (.loop { q with state := s, pending := pn })) lo hi := by
  obtain ⟨q', h1, h2, h3, h4, h5, h6, h7, h8⟩ := hm.loop hb hL
  rw [hq] at h1; cases h1
  rw [upd_get]
  exact ⟨hm.upd ⟨_, hb⟩ hL ⟨_, rfl, hs, hp, h4, h5, h6, h7, h8⟩, fun lo hi => Fr.upd _ hb hL lo hi⟩
theorem Ok.turn {b : Nat} {R : ALoop} (hb : h.objs.get b = some (.loop R)) (st : Nat) (pend : Option AExit) : Ok P h (h.upd b (.loop (R.turn st pend))) :=
  Ok.upd ⟨_, hb⟩ _ fun R' e w => by
    cases e
    obtain ⟨g1, g2, g3, g4, g5⟩ := w.loop b R hb
    exact ⟨g1, g2, g3, g4, g5⟩

theorem range_sound {call : CallF} {exec : ACode → TM → Heap → Out} (hcall : CallR P call) {g : Operand} {ps : Array Tmp} {ca cb : Code} {xa xb : ACode} (hca : compCode P n ca = some xa) (hcb : compCode P n cb = some xb) (hna : noRange xa = true) (hnb : noRange xb = true) (hps : psOk n ps.toList = true)
    {x : AExit} {t' : TM} {h' : Heap} (he : step (.range n g ps.toList ca cb xa xb) ⟨call, exec⟩ t h = some (x, t', h')) : Runs P false n h t x t' h' (codeW P (.rangeFunc g ps ca cb)) := by
  obtain ⟨v, g1, he⟩ := ob_some.1 he
  obtain ⟨q, g2, he⟩ := ob_some.1 he
  obtain ⟨g3, he⟩ := og_some.1 he
  obtain ⟨⟨rv, h2⟩, g4, he⟩ := ob_some.1 he
  obtain ⟨o, g5, he⟩ := ob_some.1 he
  obtain ⟨R, rfl, he⟩ := onLoop_some he
  replace he : oi (Nat.beq R.st 1) none (some (exitOf R.pend, t, h2.upd h.next (.loop (R.turn 3 R.pend)))) = some (x, t', h') := he
  replace g5 : h2.objs.get h.next = some (.loop R) := g5
  rw [oi_eq] at he
  by_cases hst : Nat.beq R.st 1 = true
  · rw [if_pos hst] at he; cases he
  rw [if_neg hst] at he
  cases he
  have hst : R.st ≠ 1 := fun e => hst (by rw [e]; rfl)
  obtain ⟨A, eA⟩ : ∃ A : ALoop, A = ⟨t, n, ps.toList, ca, cb, xa, xb, 0, none⟩ := ⟨_, rfl⟩
  rw [← eA] at g4
  have hgood : GoodLoop P A := by rw [eA]; exact ⟨hca, hcb, hna, hnb, hps⟩
  have ok1 : Ok P h (h.new (.loop A)) := Ok.new h _ fun R' e => by cases e; exact hgood
  obtain ⟨gf, rfl, hgf⟩ : ∃ f, v = .func (.func f) ⟨q.2.1⟩ ⟨q.2.2⟩ ∧ q.1 = 2 * f := by
    rcases asFunc_some g2 with hh | ⟨l, _, hl⟩
    · exact hh
    · rw [hl, isEven_odd] at g3; cases g3
  rw [appL_eq, appL_eq] at g4
  obtain ⟨ok2, hr⟩ := hcall _ _ _ _ _ g4
  have ok3 : Ok P h2 (h2.upd h.next (.loop (R.turn 3 R.pend))) := Ok.turn g5 3 R.pend
  refine ⟨(ok1.trans ok2).trans ok3, fun F m hF hro lo ρ a w ha hwf hm hf hk Q hQ => ?_⟩
  have hro : F.round = none := hro.resolve_right (by simp)
  have hnx : (h.new (.loop A)).next = h.next + 1 := rfl
  have hn12 : h.next + 1 ≤ h2.next := ok2.1
  have hnone : ρ h.next = none := hf h.next (Nat.le_refl _) (by show h.next < h2.next; omega)
  refine wpIn_rangeFunc fun fn hfn => ?_
  rw [hro]
  -- the two blocks
  obtain ⟨w0, ew0⟩ : ∃ w0, w0 = w.alloc (.deferred (some [])) := ⟨_, rfl⟩
  obtain ⟨rec, erec⟩ : ∃ rec : Loop, rec = { state := .ready, pending := none, fn, tmps := a.tmps, params := ps, assign := ca, body := cb, defers := w.heap.size } := ⟨_, rfl⟩
  obtain ⟨L, eL⟩ : ∃ L : Loc, L = ⟨w.heap.size + 1, 0, 0, 0⟩ := ⟨_, rfl⟩
  have hs0 : w0.heap.size = w.heap.size + 1 := by rw [ew0]; exact World.size_alloc _ _
  have hm0 : HR ρ h.objs.get w0 := by rw [ew0]; exact hm.junk _
  have f0 : ∀ lo hi, Fr ρ h.objs.get w ρ h.objs.get w0 lo hi := fun lo hi => by rw [ew0]; exact Fr.junkAlloc _ lo hi
  have hLb : L.blk = w0.heap.size := by rw [eL, hs0]
  have hle := Ren.le_add hnone L
  have hor : OR (ρ.add h.next L) (.loop A) L (.loop rec) := by
    rw [eA, erec]
    exact ⟨_, rfl, rfl, rfl, rfl, rfl, rfl, ha.tmps.mono hle, ha.size⟩
  have hm1 : HR (ρ.add h.next L) (h.new (.loop A)).objs.get (w0.alloc (.loop rec)) := by rw [new_get]; exact HR.new hm0 hnone hLb hor
  have f1 : Fr ρ h.objs.get w0 (ρ.add h.next L) (h.new (.loop A)).objs.get (w0.alloc (.loop rec)) h.next (h.next + 1) := by rw [new_get]; exact Fr.add _ hnone hLb
  have f01 := (f0 h.next (h.next + 1)).comp f1
  have hk1 := hk.step f01
  have hD : (w0.alloc (.loop rec)).heap[w.heap.size]? = some (.deferred (some [])) := by
    have h1 : w0.heap[w.heap.size]? = some (.deferred (some [])) := by rw [ew0]; exact World.alloc_heap_new w _
    have : w.heap.size < w0.heap.size := by omega
    show (w0.heap.push _)[w.heap.size]? = _
    rw [Array.getElem?_push, if_neg (Nat.ne_of_lt this)]; exact h1
  have hmk : Marks lo (h.new (.loop A)).objs.get (w0.alloc (.loop rec)) (ρ.add h.next L) ([{ target := .collected w.heap.size, args := #[] }] ++ a.defers) := by
    refine ⟨⟨w.heap.size, rfl, hk.base, hD, fun b o M hb hM e => ?_, fun d hd e => ?_⟩, hk1⟩
    · rcases f01.own b o M hb hM with ⟨b0, o0, L0, k1, k2, k3⟩ | k1
      · obtain ⟨L1, r1, j1, j2, _⟩ := hm.obj b0 o0 k1
        rw [k2] at j1; cases j1
        have := (Array.getElem?_eq_some_iff.1 j2).1
        omega
      · by_cases hb' : h.next = b
        · subst hb'; simp [Ren.add] at hM; rw [← hM, eL] at e; simp at e
        · have hM' : ρ b = some M := by simpa [Ren.add, hb'] using hM
          rw [new_get] at hb
          replace hb : (if h.next = b then some (AObj.loop A) else h.objs.get b) = some o := hb
          rw [if_neg hb'] at hb
          obtain ⟨L1, r1, j1, j2, _⟩ := hm.obj b o hb
          rw [hM'] at j1; cases j1
          have := (Array.getElem?_eq_some_iff.1 j2).1
          omega
    · have := hk.lt d hd _ e; omega
  -- the call
  have hfv := ha.tmps.opd g1
  obtain ⟨x', y', k1, k2, k3⟩ := func_inv hfv
  have hy : VR (ρ.add h.next L) (.func (.yield h.next) ⟨[]⟩ ⟨[]⟩) (.func (.yield L.blk) ⟨[]⟩ ⟨[]⟩) := .yield (by simp [Ren.add])
  have hargs : VRL (ρ.add h.next L) (q.2.1 ++ ([.func (.yield h.next) ⟨[]⟩ ⟨[]⟩] ++ q.2.2)) (x' ++ ([.func (.yield L.blk) ⟨[]⟩ ⟨[]⟩] ++ y')) := (k2.mono hle).append ((VRL.cons hy .nil).append (k3.mono hle))
  have hf1 : Free (ρ.add h.next L) (h.new (.loop A)) h2 := fun b hb hb' => by
    rw [hnx] at hb
    have : h.next ≠ b := by omega
    simp [Ren.add, this]
    exact hf b (by omega) hb'
  rcases (hr (ok1.2 hwf) _ _ _ hargs hm1 hf1).1 gf hgf with ⟨v', w', q1, q2, _⟩ | ⟨q1, q2⟩
  · exact absurd rfl (q2 (.func (.yield L.blk) ⟨[]⟩ ⟨[]⟩) (by simp) L.blk _ _)
  have el : L.blk = w.heap.size + 1 := by rw [eL]
  refine ⟨w.heap.size + 1, [{ target := .collected w.heap.size, args := #[] }], w0.alloc (.loop rec), { target := .fn (.func gf) ⟨y'⟩, args := ⟨x'⟩ ++ #[.func (.yield (w.heap.size + 1)) #[] #[]] }, w0.alloc (.loop rec), gf, ⟨x' ++ ([.func (.yield L.blk) ⟨[]⟩ ⟨[]⟩] ++ y')⟩, w0.alloc (.loop rec), ?_, ?_, fun f' _ => hF.fn f', ?_, fun h => hF.room m h, ?_⟩
  · rw [ew0, erec]; exact run_enterLoop_outer _ _ _ _ _
  · unfold resolve rangeCall
    simp only [k1, Deferred.ofValue, Sem.run_pure, List.map_toArray, List.map_cons, List.map_nil]
    rfl
  · have e : ((⟨x'⟩ : Array Value) ++ #[.func (.yield (w.heap.size + 1)) #[] #[]] ++ ⟨y'⟩ : Array Value) = ⟨x' ++ ([.func (.yield L.blk) ⟨[]⟩ ⟨[]⟩] ++ y')⟩ := by
      rw [el]; apply Array.ext'; simp [List.append_assoc]
    simp only [invoke, e]; exact q1
  · refine (q2 F (m - 1) hF hro).mono fun e w3 ⟨v', e1, ρ3, e2, e3, e4⟩ => ?_
    subst e1
    have hL3 : ρ3 h.next = some L := e4.ext _ _ (by simp [Ren.add])
    obtain ⟨qq, j1, j2, j3, _⟩ := e3.loop g5 hL3
    have hnb : qq.state ≠ .busy := fun e => by
      rw [j2] at e
      have : ∀ k, k ≠ 1 → stOf k ≠ .busy := fun k hk => by
        match k with
        | 0 => simp [stOf]
        | 1 => exact absurd rfl hk
        | 2 => simp [stOf]
        | k + 3 => simp [stOf]
      exact this _ hst e
    have hend := run_endLoop (P := P) j1 hnb
    rw [el] at hend
    refine ⟨qq.pending, _, hend, ?_⟩
    obtain ⟨t1, t2⟩ := e3.turn g5 hL3 j1 3 R.pend .exhausted qq.pending rfl j3
    rw [el] at t1 t2
    have fAll : Fr ρ h.objs.get w ρ3 (h2.upd h.next (.loop (R.turn 3 R.pend))).objs.get (w3.putObj (w.heap.size + 1) (.loop { qq with state := .exhausted })) h.next h2.next :=
      (f01.wider (Nat.le_refl _) hn12).comp ((e4.wider (by rw [hnx]; omega) (Nat.le_refl _)).comp (t2 _ _))
    have mAll : Marks lo (h2.upd h.next (.loop (R.turn 3 R.pend))).objs.get (w3.putObj (w.heap.size + 1) (.loop { qq with state := .exhausted })) ρ3 ([{ target := .collected w.heap.size, args := #[] }] ++ a.defers) :=
      (hmk.step e4).step (t2 0 0)
    have hfin : Q (toExit (exitOf R.pend)) { a with defers := [{ target := .collected w.heap.size, args := #[] }] ++ a.defers } (w3.putObj (w.heap.size + 1) (.loop { qq with state := .exhausted })) :=
      hQ _ _ ρ3 ⟨ha.tmps.mono fAll.ext, ha.size, rfl⟩ t1 fAll mAll
    generalize w3.putObj (w.heap.size + 1) (.loop { qq with state := .exhausted }) = W at hfin
    have key : ∀ pn : Option Code, pn = R.pend.map codeOf → (match pn with
        | none => Q .normal { a with defers := [{ target := .collected w.heap.size, args := #[] }] ++ a.defers } W
        | some c => c.wpIn F m P Q { a with defers := [{ target := .collected w.heap.size, args := #[] }] ++ a.defers } W) := fun pn hpn => by
      subst hpn
      cases hp : R.pend with
      | none => rw [hp] at hfin; exact hfin
      | some y =>
        rw [hp] at hfin
        cases y with
        | normal => exact wpIn_skip hfin
        | exit i => exact wpIn_exit hfin
        | ret => exact wpIn_ret hfin
    exact key _ j3

theorem step_sound {call : CallF} {exec : ACode → TM → Heap → Out} (hmix : P.follows .mixedOrders = true) (hcall : CallR P call) (hex : ExecR P exec) (hlp : LoopR P exec) :
    ExecR P (fun c => step c ⟨call, exec⟩) ∧ LoopR P (fun c => step c ⟨call, exec⟩) := by
  have loop : LoopR P (fun c => step c ⟨call, exec⟩) := by
    intro n c ac hc t h x t' h' he
    obtain ⟨y, t1, h1, g1, g2⟩ := onNormal_some (show onNormal (exec ac t h) (exec (.loop ac)) = some (x, t', h') from he)
    have k1 := hex n c ac hc _ _ _ _ _ g1
    rcases g2 with ⟨rfl, g2⟩ | g2
    · obtain ⟨m, k2⟩ := hlp n c ac hc _ _ _ _ _ g2
      exact ⟨m + 1, Runs.seq k1 (.inl ⟨rfl, k2⟩)⟩
    · exact ⟨1, Runs.seq (W2 := fun F m Q => Code.roundsIn F m P c Q 0) k1 (.inr g2)⟩
  refine ⟨?_, loop⟩
  intro n c
  induction c with
  | skip =>
    intro ac hc t h x t' h' he
    cases hc; cases he
    exact Runs.still fun _ _ _ _ _ hQ => wpIn_skip hQ
  | region id ops d =>
    intro ac hc t h x t' h' he
    cases d with
    | false =>
      simp only [compCode] at hc
      split at hc
      · cases hc
      · rename_i l hl
        cases hc
        obtain ⟨⟨t1, h1⟩, g1, g2⟩ := ob_some.1 (show outOf (runOps call l t h) = some (x, t', h') from he)
        cases g2
        obtain ⟨s1, s2⟩ := compOpers_spec hl
        have sp : ∀ (j i : Nat) (ao : AOper), (List.range ops.size)[j]? = some i → l[j]? = some ao → ∃ o, ops[i]? = some o ∧ CompO P n ops o ao := fun j i ao hj hao => by
          have hj' : j < ops.size ∧ j = i := by
            obtain ⟨h1, h2⟩ := List.getElem?_eq_some_iff.1 hj
            exact ⟨by simpa using h1, by simpa using h2⟩
          obtain ⟨hj1, rfl⟩ := hj'
          obtain ⟨ao', q1, q2⟩ := s2 j ops[j] (by simp [hj1])
          rw [hao] at q1; cases q1
          exact ⟨_, by simp [hj1], q2⟩
        have len : l.length = (List.range ops.size).length := by simp [s1]
        refine ⟨(runOps_sound (F := Fence.wide) (m := 0) (D := []) (Q := fun _ _ _ => True) ⟨fun _ => trivial, rfl⟩ hcall l (List.range ops.size) len sp (fun _ => none) t ⟨#[], []⟩ h default t1 h1 g1).1, fun F m hF hr lo ρ a w ha hwf hm hf hk Q hQ => ?_⟩
        exact wpIn_region ((runOps_sound hF hcall l (List.range ops.size) len sp ρ t a h w t1 h1 g1).2 ha hwf hm hf fun a' w' ρ' r1 r2 r3 => by
          have e := r1.defers
          exact hQ a' w' ρ' ⟨r1.tmps, r1.size, rfl⟩ r2 r3 (by rw [e]; exact hk.step r3))
    | true =>
      simp only [compCode] at hc
      split at hc
      · cases hc
      · rename_i l hl
        split at hc
        · cases hc
        · rename_i r hp
          cases hc
          obtain ⟨⟨t1, h1⟩, g1, g2⟩ := ob_some.1 (show outOf (runDrawn call r t h [h] 0) = some (x, t', h') from he)
          cases g2
          exact ⟨(drawn_sound (F := Fence.wide) (fm := 0) (D := []) (id := id) (ρ := fun _ => none) (a := ⟨#[], []⟩) (w := default) ⟨fun _ => trivial, rfl⟩ hcall hmix hl hp g1).1, fun F m hF hr lo ρ a w ha hwf hm hf hk Q hQ =>
            (drawn_sound hF hcall hmix hl hp g1).2 ha hwf hm hf Q fun a' w' ρ' r1 r2 r3 => by
              have e := r1.defers
              exact hQ a' w' ρ' ⟨r1.tmps, r1.size, rfl⟩ r2 r3 (by rw [e]; exact hk.step r3)⟩
  | seq c1 c2 ih1 ih2 =>
    intro ac hc t h x t' h' he
    simp only [compCode] at hc
    split at hc
    · cases hc
    · rename_i x1 e1
      split at hc
      · cases hc
      · rename_i y1 e2
        cases hc
        obtain ⟨y, t1, h1, g1, g2⟩ := onNormal_some (show onNormal (exec x1 t h) (exec y1) = some (x, t', h') from he)
        have n1 : noRange (.seq x1 y1) = true → noRange x1 = true := fun hh => ((Bool.and_eq_true _ _).mp hh).1
        have n2 : noRange (.seq x1 y1) = true → noRange y1 = true := fun hh => ((Bool.and_eq_true _ _).mp hh).2
        refine Runs.imp (Runs.seq ((hex n _ _ e1 _ _ _ _ _ g1).weak n1) (W2 := codeW P c2) ?_) fun F m Q a w hh => wpIn_seq hh
        rcases g2 with ⟨rfl, g2⟩ | g2
        · exact .inl ⟨rfl, (hex n _ _ e2 _ _ _ _ _ g2).weak n2⟩
        · exact .inr g2
  | cond o c1 c2 ih1 ih2 =>
    intro ac hc t h x t' h' he
    simp only [compCode] at hc
    split at hc
    · cases hc
    · rename_i x1 e1
      split at hc
      · cases hc
      · rename_i y1 e2
        cases hc
        have n1 : noRange (.cond o x1 y1) = true → noRange x1 = true := fun hh => ((Bool.and_eq_true _ _).mp hh).1
        have n2 : noRange (.cond o x1 y1) = true → noRange y1 = true := fun hh => ((Bool.and_eq_true _ _).mp hh).2
        obtain ⟨v, g1, g2⟩ := ob_some.1 (show (ob (opd t o) fun v => ob (asBool v) fun d => oi d (exec x1 t h) (exec y1 t h)) = some (x, t', h') from he)
        obtain ⟨d, g3, g4⟩ := ob_some.1 g2
        rw [asBool_some] at g3; subst g3
        cases d with
        | true =>
          have k := (hex n _ _ e1 _ _ _ _ _ g4).weak n1
          refine ⟨k.1, fun F m hF hr lo ρ a w ha hwf hm hf hk Q hQ => wpIn_cond_true ?_ (k.2 F m hF hr lo ρ a w ha hwf hm hf hk Q hQ)⟩
          have := ha.tmps.opd g1; cases hx : a.eval o <;> rw [hx] at this <;> cases this; rfl
        | false =>
          have k := (hex n _ _ e2 _ _ _ _ _ g4).weak n2
          refine ⟨k.1, fun F m hF hr lo ρ a w ha hwf hm hf hk Q hQ => wpIn_cond_false ?_ (k.2 F m hF hr lo ρ a w ha hwf hm hf hk Q hQ)⟩
          have := ha.tmps.opd g1; cases hx : a.eval o <;> rw [hx] at this <;> cases this; rfl
  | block id c1 ih =>
    intro ac hc t h x t' h' he
    simp only [compCode] at hc
    split at hc
    · cases hc
    · rename_i x1 e1
      cases hc
      obtain ⟨⟨y, t1, h1⟩, g1, g2⟩ := ob_some.1 (show onExit id (exec x1 t h) = some (x, t', h') from he)
      have k := hex n _ _ e1 _ _ _ _ _ g1
      have : ∀ Q lo ρ w, Ends n lo ρ h w x t' h' Q → Ends n lo ρ h w y t1 h1 (Exit.inBlock id Q) ∧ h1 = h' := fun Q lo ρ w hQ => by
        cases y with
        | normal => cases g2; exact ⟨hQ, rfl⟩
        | ret => cases g2; exact ⟨hQ, rfl⟩
        | exit i =>
          have g2 : oi (Nat.beq i id) (some (AExit.normal, t1, h1)) (some (.exit i, t1, h1)) = some (x, t', h') := g2
          rw [oi_eq] at g2
          by_cases e : i = id
          · rw [if_pos (by rw [e]; exact Nat.beq_refl id)] at g2
            cases g2
            refine ⟨fun a' w' ρ' r1 r2 r3 r4 => ?_, rfl⟩
            show Exit.inBlock id Q (.exit i) a' w'
            simp only [Exit.inBlock, e, if_true]
            exact hQ a' w' ρ' r1 r2 r3 r4
          · rw [if_neg (fun hb => e (Nat.eq_of_beq_eq_true hb))] at g2
            cases g2
            refine ⟨fun a' w' ρ' r1 r2 r3 r4 => ?_, rfl⟩
            show Exit.inBlock id Q (.exit i) a' w'
            simp only [Exit.inBlock, e, if_false]
            exact hQ a' w' ρ' r1 r2 r3 r4
      have e : h1 = h' := (this (fun _ _ _ => True) 0 (fun _ => none) default (fun _ _ _ _ _ _ _ => trivial)).2
      subst e
      exact ⟨k.1, fun F m hF hr lo ρ a w ha hwf hm hf hk Q hQ => wpIn_block (k.2 F m hF hr lo ρ a w ha hwf hm hf hk _ (this Q lo ρ w hQ).1)⟩
  | loop c1 ih =>
    intro ac hc t h x t' h' he
    simp only [compCode] at hc
    split at hc
    · cases hc
    · rename_i x1 e1
      cases hc
      obtain ⟨k, hk⟩ := loop n _ _ e1 _ _ _ _ _ he
      exact hk.imp fun F m Q a w hh => wpIn_loop_rounds k hh
  | exit id =>
    intro ac hc t h x t' h' he
    cases hc; cases he
    exact Runs.still fun _ _ _ _ _ hQ => wpIn_exit hQ
  | ret =>
    intro ac hc t h x t' h' he
    cases hc; cases he
    exact Runs.still fun _ _ _ _ _ hQ => wpIn_ret hQ
  | label l =>
    intro ac hc t h x t' h' he
    cases hc; cases he
    exact Runs.still fun _ _ _ _ _ hQ => wpIn_label hQ
  | scope c1 ih =>
    intro ac hc t h x t' h' he
    have k := ih ac hc t h x t' h' he
    refine ⟨k.1, fun F m hF hr lo ρ a w ha hwf hm hf hk Q hQ => wpIn_scope (k.2 F m hF hr lo ρ a w ha hwf hm hf hk _ fun a' w' ρ' r1 r2 r3 r4 => ?_)⟩
    have := hQ a' w' ρ' r1 r2 r3 r4
    cases x <;> exact this
  | rangeFunc g ps ca cb ih1 ih2 =>
    intro ac hc t h x t' h' he
    simp only [compCode] at hc
    split at hc
    · cases hc
    · rename_i xa ea
      split at hc
      · cases hc
      · rename_i xb eb
        obtain ⟨h1, h2⟩ := bif_some.1 hc
        cases h2
        rw [Bool.and_eq_true, Bool.and_eq_true] at h1
        exact range_sound hcall ea eb h1.1.1 h1.1.2 h1.2 he
  | _ => intro ac hc; cases hc
end
end Go.Ev
