/- Regions that draw their order are sound. -/
import Derived.Test.YtifddfbiehmmoaaGreatDoorEvTrace
namespace Go.Ev
open Go
set_option linter.unusedSimpArgs false

theorem Fr.comp {ρ ρ' ρ'' : Ren} {m m' m'' : Objs} {w w' w'' : World} {lo hi : Nat} (h : Fr ρ m w ρ' m' w' lo hi) (k : Fr ρ' m' w' ρ'' m'' w'' lo hi) : Fr ρ m w ρ'' m'' w'' lo hi where
  ext := Ren.le_trans h.ext k.ext
  new := fun b L hb => by
    rcases k.new b L hb with h1 | h1
    · exact h.new b L h1
    · exact .inr h1
  size := Nat.le_trans h.size k.size
  junk := fun r hr hj => by
    rw [k.junk r (Nat.lt_of_lt_of_le hr h.size) (fun b o L hb hL e => ?_), h.junk r hr hj]
    rcases h.own b o L hb hL with ⟨b0, o0, L0, h1, h2, h3⟩ | h1
    · exact hj b0 o0 L0 h1 h2 (h3.trans e)
    · omega
  own := fun b o L hb hL => by
    rcases k.own b o L hb hL with ⟨b0, o0, L0, h1, h2, h3⟩ | h1
    · rcases h.own b0 o0 L0 h1 h2 with ⟨b1, o1, L1, h4, h5, h6⟩ | h4
      · exact .inl ⟨b1, o1, L1, h4, h5, h6.trans h3⟩
      · exact .inr (by omega)
    · exact .inr (Nat.le_trans h.size h1)
  os := k.os.trans h.os
  output := k.output.trans h.output
  tape := k.tape.trans h.tape

/-- A part of the heap turns; the rest stands by. -/
theorem merge {ρ ρ' : Ren} {M A A' B M' : Objs} {w w' : World} {lo hi : Nat} (hm : HR ρ M w) (hsub : ∀ b o, A b = some o → M b = some o) (hA : HR ρ' A' w') (fr : Fr ρ A w ρ' A' w' lo hi)
    (hB : ∀ b o, B b = some o → M b = some o ∧ A b = none) (hM : ∀ b o, M' b = some o → B b = some o ∨ A' b = some o) : HR ρ' M' w' ∧ Fr ρ M w ρ' M' w' lo hi := by
  have stays : ∀ b o, B b = some o → ∃ L r, ρ b = some L ∧ ρ' b = some L ∧ w.heap[L.blk]? = some r ∧ w'.heap[L.blk]? = some r ∧ OR ρ o L r := fun b o hb => by
    obtain ⟨h1, h2⟩ := hB b o hb
    obtain ⟨L, r, g1, g2, g3⟩ := hm.obj b o h1
    refine ⟨L, r, g1, fr.ext b L g1, g2, ?_, g3⟩
    rw [fr.junk L.blk (Array.getElem?_eq_some_iff.1 g2).1 (fun b' o' L' hb' hL' e => ?_), g2]
    have := hm.inj b' b o' o L' L (hsub b' o' hb') h1 hL' g1 e
    subst this; rw [h2] at hb'; cases hb'
  have apart : ∀ b o L c p N, B b = some o → ρ' b = some L → A' c = some p → ρ' c = some N → L.blk ≠ N.blk := fun b o L c p N hb hL hc hN e => by
    obtain ⟨L1, r, g1, g2, g3, _, _⟩ := stays b o hb
    rw [g2] at hL; cases hL
    rcases fr.own c p N hc hN with ⟨b0, o0, L0, k1, k2, k3⟩ | k1
    · have := hm.inj b0 b o0 o L0 L (hsub _ _ k1) (hB b o hb).1 k2 g1 (k3.trans e.symm)
      subst this; rw [(hB _ _ hb).2] at k1; cases k1
    · have := (Array.getElem?_eq_some_iff.1 g3).1; omega
  constructor
  · refine ⟨fun b o hb => ?_, fun b c o p L N hb hc hL hN e => ?_⟩
    · rcases hM b o hb with h1 | h1
      · obtain ⟨L, r, _, g2, _, g4, g5⟩ := stays b o h1
        exact ⟨L, r, g2, g4, g5.mono fr.ext⟩
      · exact hA.obj b o h1
    · rcases hM b o hb with h1 | h1 <;> rcases hM c p hc with h2 | h2
      · obtain ⟨L1, _, g1, g2, _⟩ := stays b o h1
        obtain ⟨L2, _, k1, k2, _⟩ := stays c p h2
        rw [g2] at hL; cases hL
        rw [k2] at hN; cases hN
        exact hm.inj b c o p _ _ (hB b o h1).1 (hB c p h2).1 g1 k1 e
      · exact absurd e (apart b o L c p N h1 hL h2 hN)
      · exact absurd e.symm (apart c p N b o L h2 hN h1 hL)
      · exact hA.inj b c o p L N h1 h2 hL hN e
  · refine ⟨fr.ext, fr.new, fr.size, fun r hr hj => fr.junk r hr fun b o L hb hL => hj b o L (hsub b o hb) hL, fun b o L hb hL => ?_, fr.os, fr.output, fr.tape⟩
    rcases hM b o hb with h1 | h1
    · obtain ⟨L1, _, g1, g2, _⟩ := stays b o h1
      rw [g2] at hL; cases hL
      exact .inl ⟨b, o, _, (hB b o h1).1, g1, rfl⟩
    · rcases fr.own b o L h1 hL with ⟨b0, o0, L0, k1, k2, k3⟩ | k1
      · exact .inl ⟨b0, o0, L0, hsub _ _ k1, k2, k3⟩
      · exact .inr k1

theorem countP_lt {α : Type} {p q : α → Bool} : ∀ {l : List α}, (∀ x ∈ l, q x = true → p x = true) → (∃ x ∈ l, p x = true ∧ q x = false) → l.countP q < l.countP p
  | [], _, h => by obtain ⟨x, hx, _⟩ := h; simp at hx
  | y :: l, h1, h2 => by
    have hle : l.countP q ≤ l.countP p := List.countP_mono_left fun x hx => h1 x (by simp [hx])
    obtain ⟨x, hx, hp, hq⟩ := h2
    rw [List.countP_cons, List.countP_cons]
    by_cases hl : ∃ x ∈ l, p x = true ∧ q x = false
    · have := countP_lt (fun x hx => h1 x (by simp [hx])) hl
      have hy := h1 y (by simp)
      cases hqy : q y with
      | false => simp; omega
      | true => rw [hy hqy]; simp; omega
    · have : x = y := by
        rcases List.mem_cons.1 hx with h | h
        · exact h
        · exact absurd ⟨x, h, hp, hq⟩ hl
      subst this
      rw [hp, hq]; simp; omega

namespace Tr
variable {P : Program} {call : CallF} {m : Nat} {ops : Array Oper} (T : Tr P call m ops)
def Done (listed : Array Bool) (p : Nat) : Prop := listed.getD (T.pi p) false = true
open Classical in
noncomputable def md (listed : Array Bool) (c : Nat) : Objs := fun b => if ∃ q, c ≤ q ∧ q < ops.size ∧ T.Done listed q ∧ T.NewAt q b then T.nobj b else (T.S c).h.objs.get b

def Pend (listed : Array Bool) (c b : Nat) : Prop := ∃ q, c ≤ q ∧ q < ops.size ∧ T.Done listed q ∧ T.NewAt q b
theorem md_pos {listed : Array Bool} {c b : Nat} (h : T.Pend listed c b) : T.md listed c b = T.nobj b := by unfold md; exact if_pos h
theorem md_neg {listed : Array Bool} {c b : Nat} (h : ¬ T.Pend listed c b) : T.md listed c b = (T.S c).h.objs.get b := by unfold md; exact if_neg h
theorem md_congr {l l' : Array Bool} {c b : Nat} (h : T.Pend l c b ↔ T.Pend l' c b) : T.md l c b = T.md l' c b := by
  by_cases k : T.Pend l c b
  · rw [T.md_pos k, T.md_pos (h.1 k)]
  · rw [T.md_neg k, T.md_neg (fun k' => k (h.2 k'))]

structure Inv (D : List Deferred) (ρ0 : Ren) (w0 : World) (listed : Array Bool) (a : Act) (w : World) (ρ : Ren) (c : Nat) : Prop where
  size : listed.size = ops.size
  down : ∀ i, listed.getD i false = true → ∀ j, T.Ah i j → listed.getD j false = true
  slot : ∀ p, p < ops.size → T.Done listed p → ∀ d, (T.op p).dst = some d → (∀ q, q < ops.size → p < q → T.Done listed q → (T.op q).dst ≠ some d) → ∃ v', a.tmps[d]? = some v' ∧ VR ρ (T.V p) v'
  slot0 : ∀ d v, (T.S 0).t.get d = some v → (∀ q, q < ops.size → T.Done listed q → (T.op q).dst ≠ some d) → ∃ v', a.tmps[d]? = some v' ∧ VR ρ v v'
  asz : m ≤ a.tmps.size
  defers : a.defers = D
  cle : c ≤ ops.size
  cut : T.Cut c
  pre : ∀ q, q < c → T.Done listed q
  post : ∀ q, c ≤ q → q < ops.size → T.Done listed q → (T.op q).kind ≠ 2
  heap : HR ρ (T.md listed c) w
  fr : Fr ρ0 (T.S 0).h.objs.get w0 ρ (T.md listed c) w (T.S 0).h.next (T.S ops.size).h.next
  fresh : ∀ b L, ρ b = some L → ρ0 b = some L ∨ ∃ q, q < ops.size ∧ T.Done listed q ∧ (T.S q).h.next ≤ b ∧ b < (T.S (q + 1)).h.next

theorem pi_lt {p : Nat} (hp : p < ops.size) : T.pi p < ops.size := by
  obtain ⟨o, h, _⟩ := T.comp p hp
  exact (Array.getElem?_eq_some_iff.1 h).1
theorem pi_inj {p q : Nat} (hp : p < ops.size) (hq : q < ops.size) (h : T.pi p = T.pi q) : p = q := by
  rcases Nat.lt_trichotomy p q with hl | rfl | hl
  · exact absurd h (T.pair p q hl hq).1
  · rfl
  · exact absurd h.symm (T.pair q p hl hp).1
theorem done_set {listed : Array Bool} {p q : Nat} (hs : listed.size = ops.size) (hp : p < ops.size) (hq : q < ops.size) : T.Done (listed.setIfInBounds (T.pi p) true) q ↔ q = p ∨ T.Done listed q := by
  unfold Done
  rw [Array.getD_eq_getD_getElem?, Array.getD_eq_getD_getElem?, Array.getElem?_setIfInBounds]
  by_cases h : T.pi p = T.pi q
  · have := T.pi_inj hp hq h
    subst this
    have hlt := T.pi_lt hp
    simp [hs, hlt]
  · rw [if_neg h]
    constructor
    · exact .inr
    · rintro (rfl | h')
      · exact absurd rfl h
      · exact h'

variable {T}
variable {D : List Deferred} {ρ0 ρ : Ren} {w0 w : World} {listed : Array Bool} {a : Act} {c : Nat}

theorem Inv.cle_p (I : T.Inv D ρ0 w0 listed a w ρ c) {p : Nat} (hnd : ¬ T.Done listed p) : c ≤ p := by
  rcases Nat.lt_or_ge p c with h | h
  · exact absurd (I.pre p h) hnd
  · exact h

/-- Slots that an operation looks at. -/
theorem Inv.looks (I : T.Inv D ρ0 w0 listed a w ρ c) {p : Nat} (hp : p < ops.size) (hnd : ¬ T.Done listed p) (hready : ∀ j, T.Ah (T.pi p) j → listed.getD j false = true) {o : Oper} (ho : ops[T.pi p]? = some o) :
    ∀ d ∈ o.looksAt ops, ∀ v, (T.S p).t.get d = some v → ∃ v', a.tmps[d]? = some v' ∧ VR ρ v v' := by
  intro d hd v hv
  have later : ∀ q, q < ops.size → p < q → T.Done listed q → (T.op q).dst ≠ some d := fun q hq hpq hdone hdst => by
    obtain ⟨oq, hoq, hcq⟩ := T.comp q hq
    rcases (T.pair p q hpq hq).2 with h1 | ⟨_, x, y, h1, h2, h3⟩
    · exact hnd (I.down _ hdone _ h1)
    · rw [ho] at h1; cases h1
      rw [hoq] at h2; cases h2
      exact (Oper.apart_spec h3).2.2 d (by rw [← hcq.dst']; exact hdst) hd
  rcases T.slot_from p (by omega) d v hv with ⟨q, h1, h2, h3, h4⟩ | ⟨h1, h2⟩
  · obtain ⟨oq, hoq, hcq⟩ := T.comp q (by omega)
    have hdone : T.Done listed q := by
      rcases (T.pair q p h1 hp).2 with k1 | ⟨_, x, y, k1, k2, k3⟩
      · exact hready _ k1
      · rw [hoq] at k1; cases k1
        rw [ho] at k2; cases k2
        exact absurd hd ((Oper.apart_spec k3).1 d (by rw [← hcq.dst']; exact h2))
    rw [← h3]
    refine I.slot q (by omega) hdone d h2 fun q' hq' hqq hdq => ?_
    rcases Nat.lt_trichotomy q' p with hl | rfl | hl
    · exact h4 q' hqq hl
    · exact absurd hdq hnd
    · exact later q' hq' hl hdq
  · refine I.slot0 d v h1 fun q hq hdq => ?_
    rcases Nat.lt_trichotomy q p with hl | rfl | hl
    · exact h2 q hl
    · exact absurd hdq hnd
    · exact later q hq hl hdq

/-- The slots behind a step. -/
theorem Inv.slots (I : T.Inv D ρ0 w0 listed a w ρ c) {p : Nat} (hp : p < ops.size) (hnd : ¬ T.Done listed p) {o : Oper} (ho : ops[T.pi p]? = some o) {ρ' : Ren} (hle : ρ.le ρ') {v' : Value} (hv : VR ρ' (T.V p) v') :
    (∀ q, q < ops.size → T.Done (listed.setIfInBounds (T.pi p) true) q → ∀ d, (T.op q).dst = some d → (∀ q', q' < ops.size → q < q' → T.Done (listed.setIfInBounds (T.pi p) true) q' → (T.op q').dst ≠ some d) → ∃ v1, (a.put o.dst v').tmps[d]? = some v1 ∧ VR ρ' (T.V q) v1) ∧
    (∀ d v, (T.S 0).t.get d = some v → (∀ q, q < ops.size → T.Done (listed.setIfInBounds (T.pi p) true) q → (T.op q).dst ≠ some d) → ∃ v1, (a.put o.dst v').tmps[d]? = some v1 ∧ VR ρ' v v1) := by
  obtain ⟨o', ho', hc⟩ := T.comp p hp
  rw [ho] at ho'; cases ho'
  have other : ∀ d, (T.op p).dst ≠ some d → (a.put o.dst v').tmps[d]? = a.tmps[d]? := fun d hd => by
    rw [hc.dst'] at hd
    cases he : o.dst with
    | none => rfl
    | some e => simp [Act.put, Array.getElem?_setIfInBounds_ne (show e ≠ d from fun h => hd (by rw [he, h]))]
  constructor
  · intro q hq hdq d hdst hlast
    rcases (T.done_set I.size hp hq).1 hdq with rfl | hdq2
    · have hd' : o.dst = some d := by rw [← hc.dst']; exact hdst
      have hlt : d < a.tmps.size := by
        have := hc.dst
        rw [hd'] at this
        exact Nat.lt_of_lt_of_le (Nat.le_of_ble_eq_true this) I.asz
      exact ⟨v', by simp [Act.put, hd', hlt], hv⟩
    · by_cases hpd : (T.op p).dst = some d
      · exfalso
        rcases Nat.lt_trichotomy q p with hl | rfl | hl
        · exact hlast p hp hl ((T.done_set I.size hp hp).2 (.inl rfl)) hpd
        · exact hnd hdq2
        · obtain ⟨oq, hoq, hcq⟩ := T.comp q hq
          rcases (T.pair p q hl hq).2 with k1 | ⟨_, x, y, k1, k2, k3⟩
          · exact hnd (I.down _ hdq2 _ k1)
          · rw [ho] at k1; cases k1
            rw [hoq] at k2; cases k2
            exact (Oper.apart_spec k3).2.1 d (by rw [← hc.dst']; exact hpd) (by rw [← hcq.dst']; exact hdst)
      · obtain ⟨v1, h1, h2⟩ := I.slot q hq hdq2 d hdst fun q' hq' hqq hdq' => hlast q' hq' hqq ((T.done_set I.size hp hq').2 (.inr hdq'))
        exact ⟨v1, by rw [other d hpd]; exact h1, h2.mono hle⟩
  · intro d v hv0 hnone
    have hpd := hnone p hp ((T.done_set I.size hp hp).2 (.inl rfl))
    obtain ⟨v1, h1, h2⟩ := I.slot0 d v hv0 fun q hq hdq => hnone q hq ((T.done_set I.size hp hq).2 (.inr hdq))
    exact ⟨v1, by rw [other d hpd]; exact h1, h2.mono hle⟩

/-- What stays as it is behind a step. -/
theorem Inv.next (I : T.Inv D ρ0 w0 listed a w ρ c) {p : Nat} (hp : p < ops.size) (hnd : ¬ T.Done listed p) (hready : ∀ j, T.Ah (T.pi p) j → listed.getD j false = true) {o : Oper} (ho : ops[T.pi p]? = some o) {ρ' : Ren} (hle : ρ.le ρ') {v' : Value} (hv : VR ρ' (T.V p) v')
    {c' : Nat} {w' : World} (hcle : c' ≤ ops.size) (hcut : T.Cut c') (hpre : ∀ q, q < c' → T.Done (listed.setIfInBounds (T.pi p) true) q) (hpost : ∀ q, c' ≤ q → q < ops.size → T.Done (listed.setIfInBounds (T.pi p) true) q → (T.op q).kind ≠ 2)
    (hheap : HR ρ' (T.md (listed.setIfInBounds (T.pi p) true) c') w') (hfr : Fr ρ (T.md listed c) w ρ' (T.md (listed.setIfInBounds (T.pi p) true) c') w' (T.S 0).h.next (T.S ops.size).h.next)
    (hfresh : ∀ b L, ρ' b = some L → ρ b = some L ∨ ((T.S p).h.next ≤ b ∧ b < (T.S (p + 1)).h.next)) : T.Inv D ρ0 w0 (listed.setIfInBounds (T.pi p) true) (a.put o.dst v') w' ρ' c' := by
  obtain ⟨s1, s2⟩ := I.slots hp hnd ho hle hv
  refine ⟨by simpa using I.size, fun i hi j hj => ?_, s1, s2, by simpa using I.asz, by rw [defers_put]; exact I.defers, hcle, hcut, hpre, hpost, hheap, I.fr.comp hfr, fun b L hb => ?_⟩
  · have mono : ∀ j, listed.getD j false = true → (listed.setIfInBounds (T.pi p) true).getD j false = true := fun j hj => by
      rw [Array.getD_eq_getD_getElem?, Array.getElem?_setIfInBounds] 
      by_cases h : T.pi p = j
      · subst h; simp [I.size, T.pi_lt hp]
      · rw [if_neg h, ← Array.getD_eq_getD_getElem?]; exact hj
    by_cases h : T.pi p = i
    · subst h; exact mono j (hready j hj)
    · rw [Array.getD_eq_getD_getElem?, Array.getElem?_setIfInBounds, if_neg h, ← Array.getD_eq_getD_getElem?] at hi
      exact mono j (I.down i hi j hj)
  · rcases hfresh b L hb with h1 | h1
    · rcases I.fresh b L h1 with h2 | ⟨q, q1, q2, q3⟩
      · exact .inl h2
      · exact .inr ⟨q, q1, (T.done_set I.size hp q1).2 (.inr q2), q3⟩
    · exact .inr ⟨p, hp, (T.done_set I.size hp hp).2 (.inl rfl), h1⟩

theorem Inv.edges (I : T.Inv D ρ0 w0 listed a w ρ c) {i : Nat} {o : Oper} (ho : ops[i]? = some o) (h : ∀ e ∈ o.after.toList, Region.binds .any e = true → listed.getD e.on false = true) : ∀ j, T.Ah i j → listed.getD j false = true := fun j hj => by
  obtain ⟨o', ho', e, he, hb, h1⟩ := T.ahead i j hj
  rw [ho] at ho'; cases ho'
  rcases h1 with rfl | h1
  · exact h e he hb
  · exact I.down _ (h e he hb) j h1

/-- A region's operation, where the act and the one order differ in what is no matter. -/
theorem Inv.guard (I : T.Inv D ρ0 w0 listed a w ρ c) {p : Nat} (hp : p < ops.size) (hnd : ¬ T.Done listed p) (hready : ∀ j, T.Ah (T.pi p) j → listed.getD j false = true) {o : Oper} (ho : ops[T.pi p]? = some o) (hc : CompO P m ops o (T.op p)) {g : Bool}
    (hg : wantedA (T.S p).t (T.op p).guard = some g) : Region.wanted o (yielded ops a.tmps) = g :=
  guard_sound hc.guard hg fun d wt hd v hv => by
    refine I.looks hp hnd hready ho d ?_ v hv
    rcases hc.guard with ⟨_, h2⟩ | ⟨j, w1, d', go, h1, h2, h3, h4⟩
    · rw [h2] at hd; cases hd
    · rw [h4] at hd; cases hd
      simp [Oper.looksAt, h1, h2, h3]
theorem Inv.operands (I : T.Inv D ρ0 w0 listed a w ρ c) {p : Nat} (hp : p < ops.size) (hnd : ¬ T.Done listed p) (hready : ∀ j, T.Ah (T.pi p) j → listed.getD j false = true) {o : Oper} (ho : ops[T.pi p]? = some o) :
    ∀ x ∈ o.op.operands.toList, ∀ v, opd (T.S p).t x = some v → VR ρ v (a.eval x) := fun x hx v hv => by
  cases x with
  | tmp d =>
    obtain ⟨v', h1, h2⟩ := I.looks hp hnd hready ho d (by
      simp only [Oper.looksAt, List.mem_append]
      exact .inl (List.mem_filterMap.2 ⟨.tmp d, hx, rfl⟩)) v hv
    simpa [Act.eval, h1] using h2
  | const u =>
    obtain ⟨h1, h2⟩ := og_some.1 (show og (constOk u) (some u) = some v from hv)
    cases h2
    exact constOk_refl h1 ρ
  | global g => cases hv
  | func f => cases hv; exact .func (by simp) .nil .nil

/-- A step that leaves the heap. -/
theorem Inv.md_same (I : T.Inv D ρ0 w0 listed a w ρ c) {p : Nat} (hp : p < ops.size) (hn : ∀ b, ¬ T.NewAt p b) : T.md (listed.setIfInBounds (T.pi p) true) c = T.md listed c := by
  funext b
  refine T.md_congr ⟨?_, ?_⟩
  · rintro ⟨q, h1, h2, h3, h4⟩
    rcases (T.done_set I.size hp h2).1 h3 with rfl | h3
    · exact absurd h4 (hn b)
    · exact ⟨q, h1, h2, h3, h4⟩
  · rintro ⟨q, h1, h2, h3, h4⟩
    exact ⟨q, h1, h2, (T.done_set I.size hp h2).2 (.inr h3), h4⟩

theorem Inv.still (I : T.Inv D ρ0 w0 listed a w ρ c) {p : Nat} (hp : p < ops.size) (hnd : ¬ T.Done listed p) (hready : ∀ j, T.Ah (T.pi p) j → listed.getD j false = true) {o : Oper} (ho : ops[T.pi p]? = some o) (hk : (T.op p).kind ≠ 2)
    (hsame : (T.S (p + 1)).h = (T.S p).h) {v' : Value} (hv : VR ρ (T.V p) v') : T.Inv D ρ0 w0 (listed.setIfInBounds (T.pi p) true) (a.put o.dst v') w ρ c := by
  have hn : ∀ b, ¬ T.NewAt p b := fun b hb => by have h1 := hb.2.1; have h2 := hb.2.2; rw [hsame] at h2; omega
  have hmd := I.md_same hp hn
  refine I.next hp hnd hready ho ρ.le_refl hv I.cle I.cut (fun q hq => (T.done_set I.size hp (by have := I.cle; omega)).2 (.inr (I.pre q hq))) (fun q h1 h2 h3 => ?_) (by rw [hmd]; exact I.heap) (by rw [hmd]; exact Fr.refl ..) (fun b L hb => .inl hb)
  rcases (T.done_set I.size hp h2).1 h3 with rfl | h3
  · exact hk
  · exact I.post q h1 h2 h3

/-- A read finds what the one order found. -/
theorem Inv.read (hcall : CallR P call) (I : T.Inv D ρ0 w0 listed a w ρ c) {p : Nat} (hp : p < ops.size) (hnd : ¬ T.Done listed p) (hready : ∀ j, T.Ah (T.pi p) j → listed.getD j false = true)
    {g0 : Heap} {rest : List Heap} {h1 : Heap} (hh : (T.S p).hist = g0 :: rest) (he : evalOp (T.op p).op (T.S p).t g0 = some (T.V p, h1)) (hs : sameAt (T.S p).t (T.op p).op (T.V p) ((T.S p).k - (T.op p).lo) rest = true) (hwf : Wf P (T.S 0).h) :
    HR ρ (T.S c).h.objs.get w ∧ ∃ h2, evalOp (T.op p).op (T.S p).t (T.S c).h = some (T.V p, h2) := by
  have hcp := I.cle_p hnd
  constructor
  · refine I.heap.sub fun b o hb => ?_
    rw [T.md_neg, hb]
    rintro ⟨q, h1, h2, _, h4⟩
    have h5 := (T.ok hcall c q h1 (by omega)).1
    have h6 := ((T.ok hcall 0 c (by omega) I.cle).2 hwf).free b (by have := h4.2.1; omega)
    rw [hb] at h6; cases h6
  · obtain ⟨k1, k2⟩ := T.hist_at p (by omega) c hcp I.cut
    have hlo : (T.op p).lo ≤ (T.S c).k := T.lo p hp c I.cle fun q hq hk ha => by
      rcases Nat.lt_or_ge q c with h | h
      · exact h
      · exact absurd hk (I.post q h hq (hready _ ha))
    rw [hh] at k2
    cases hi : (T.S p).k - (T.S c).k with
    | zero => rw [hi] at k2; simp at k2; subst k2; exact ⟨h1, he⟩
    | succ j =>
      rw [hi] at k2
      exact sameAt_some hs j (by omega) _ (by simpa using k2)

/-- A block that stands alone, made. -/
theorem Inv.made (hcall : CallR P call) (I : T.Inv D ρ0 w0 listed a w ρ c) (hfree : Free ρ0 (T.S 0).h (T.S ops.size).h) {p : Nat} (hp : p < ops.size) (hnd : ¬ T.Done listed p) (hready : ∀ j, T.Ah (T.pi p) j → listed.getD j false = true) {o : Oper} (ho : ops[T.pi p]? = some o) (hk : (T.op p).kind = 3)
    {h' : Heap} (hS : (T.S (p + 1)).h = h') (k : New0 P ρ a o (T.S p).h (T.V p) h') :
    ∃ v' w' ρ', (execOp a.eval o).run P w = .ok (.value v') w' ∧ T.Inv D ρ0 w0 (listed.setIfInBounds (T.pi p) true) (a.put o.dst v') w' ρ' c := by
  obtain ⟨sl, cells, cells', e, e', hv, rfl, h1, h2⟩ := k
  have hnone : ρ (T.S p).h.next = none := by
    cases hr : ρ (T.S p).h.next with
    | none => rfl
    | some L =>
      exfalso
      rcases I.fresh _ L hr with h3 | ⟨q, q1, q2, q3, q4⟩
      · have := hfree (T.S p).h.next (T.ok hcall 0 p (by omega) (by omega)).1 (by
          have := (T.ok hcall (p + 1) ops.size (by omega) (Nat.le_refl _)).1
          rw [hS, alloc_next] at this; omega)
        rw [this] at h3; cases h3
      · rcases Nat.lt_trichotomy q p with hl | rfl | hl
        · have := (T.ok hcall (q + 1) p hl (by omega)).1; omega
        · exact hnd q2
        · have := (T.ok hcall (p + 1) q hl (by omega)).1
          rw [hS, alloc_next] at this; omega
  obtain ⟨L, eL⟩ : ∃ L : Loc, L = ⟨w.heap.size, 0, 0, 0⟩ := ⟨_, rfl⟩
  have hLb : L.blk = w.heap.size := by rw [eL]
  have hle := Ren.le_add hnone L
  have hor : OR (ρ.add (T.S p).h.next L) (.cells (fillFrom .nil 0 cells) e 0 true) L (.cells ⟨cells'⟩ e' (0, 0)) := by
    have := OR.row (ρ := ρ.add (T.S p).h.next L) (e := e) (e' := e') (z := 0) (cl := true) (rest := []) (h1.mono hle) (L := L) (by rw [eL]) (fun hh => absurd rfl hh)
    simpa using this
  have hn : T.NewAt p (T.S p).h.next := ⟨hk, rfl, by rw [hS, alloc_next]⟩
  have hmd : T.md (listed.setIfInBounds (T.pi p) true) c = fun x => if (T.S p).h.next = x then some (.cells (fillFrom .nil 0 cells) e 0 true) else T.md listed c x := by
    funext x
    by_cases hx : (T.S p).h.next = x
    · rw [if_pos hx]
      subst hx
      rw [T.md_pos ⟨p, I.cle_p hnd, hp, (T.done_set I.size hp hp).2 (.inl rfl), hn⟩, T.nobj_at hcall hp hn, hS, alloc_get]
      exact if_pos rfl
    · rw [if_neg hx]
      refine T.md_congr ⟨?_, ?_⟩
      · rintro ⟨q, q1, q2, q3, q4⟩
        rcases (T.done_set I.size hp q2).1 q3 with rfl | q3
        · exact absurd q4.2.1 hx
        · exact ⟨q, q1, q2, q3, q4⟩
      · rintro ⟨q, q1, q2, q3, q4⟩
        exact ⟨q, q1, q2, (T.done_set I.size hp q2).2 (.inr q3), q4⟩
  refine ⟨_, _, ρ.add (T.S p).h.next L, h2 w, I.next hp hnd hready ho hle ?_ I.cle I.cut (fun q hq => (T.done_set I.size hp (by have := I.cle; omega)).2 (.inr (I.pre q hq))) (fun q h1 h2 h3 => ?_) ?_ ?_ (fun b M hb => ?_)⟩
  · rw [hv]
    have := mk_VR (ρ := ρ.add (T.S p).h.next L) (sl := sl) (b := (T.S p).h.next) (L := L) (by simp [Ren.add]) (by rw [eL])
    rw [hLb] at this; exact this
  · rcases (T.done_set I.size hp h2).1 h3 with rfl | h3
    · omega
    · exact I.post q h1 h2 h3
  · rw [hmd]; exact HR.new I.heap hnone hLb hor
  · rw [hmd]
    refine (Fr.add (m := T.md listed c) (w := w) _ hnone hLb).wider (T.ok hcall 0 p (by omega) (by omega)).1 ?_
    have := (T.ok hcall (p + 1) ops.size (by omega) (Nat.le_refl _)).1
    rw [hS, alloc_next] at this; exact this
  · by_cases hbb : (T.S p).h.next = b
    · exact .inr (by rw [hS, alloc_next]; omega)
    · exact .inl (by simpa [Ren.add, hbb] using hb)

theorem Inv.ahead_done (_ : T.Inv D ρ0 w0 listed a w ρ c) {p : Nat} (hp : p < ops.size) (hready : ∀ j, T.Ah (T.pi p) j → listed.getD j false = true) (hk : (T.op p).kind = 2) : ∀ q, q < p → T.Done listed q := fun q hq => by
  rcases (T.pair q p hq hp).2 with h | ⟨h, _⟩
  · exact hready _ h
  · exact absurd hk h
theorem Inv.sub_of (hcall : CallR P call) (I : T.Inv D ρ0 w0 listed a w ρ c) (hwf : Wf P (T.S 0).h) {p : Nat} (hp : p ≤ ops.size) (hcp : c ≤ p) (hpre : ∀ q, q < p → T.Done listed q) : ∀ b o, (T.S p).h.objs.get b = some o → T.md listed c b = some o := fun b o hb => by
  have hq : ∀ q, c ≤ q → q < p → (T.op q).kind ≠ 2 := fun q h1 h2 => I.post q h1 (by omega) (hpre q h2)
  have hf := T.heap_from hcall p hcp hp hq b
  by_cases hx : ∃ q, c ≤ q ∧ q < p ∧ T.NewAt q b
  · rw [if_pos hx] at hf
    obtain ⟨q, h1, h2, h3⟩ := hx
    rw [T.md_pos ⟨q, h1, by omega, hpre q h2, h3⟩, ← hf]; exact hb
  · rw [if_neg hx] at hf
    rw [T.md_neg, ← hf]
    · exact hb
    rintro ⟨q, h1, h2, _, h4⟩
    rcases Nat.lt_or_ge q p with h5 | h5
    · exact hx ⟨q, h1, h5, h4⟩
    · have h6 := (T.ok hcall p q h5 (by omega)).1
      have h7 := ((T.ok hcall 0 p (by omega) hp).2 hwf).free b (by have := h4.2.1; omega)
      rw [hb] at h7; cases h7

/-- An effect, taken. -/
theorem Inv.effect (hcall : CallR P call) (I : T.Inv D ρ0 w0 listed a w ρ c) (hwf : Wf P (T.S 0).h) {p : Nat} (hp : p < ops.size) (hnd : ¬ T.Done listed p) (hready : ∀ j, T.Ah (T.pi p) j → listed.getD j false = true) {o : Oper} (ho : ops[T.pi p]? = some o) (hk : (T.op p).kind = 2)
    {v' : Value} {w' : World} {ρ' : Ren} (k : After ρ (T.S p).h w (T.V p) (T.S (p + 1)).h v' w' ρ') : T.Inv D ρ0 w0 (listed.setIfInBounds (T.pi p) true) (a.put o.dst v') w' ρ' (p + 1) := by
  obtain ⟨hv, hA, fr⟩ := k
  have hpre := I.ahead_done hp hready hk
  have hcp := I.cle_p hnd
  have hsub := I.sub_of hcall hwf (by omega) hcp hpre
  have hok := T.ok hcall p (p + 1) (by omega) (by omega)
  classical
  have hm := merge (B := fun b => if T.Pend listed (p + 1) b then T.nobj b else none) (M' := T.md (listed.setIfInBounds (T.pi p) true) (p + 1)) I.heap hsub hA fr ?_ ?_
  · refine I.next hp hnd hready ho fr.ext hv (by omega) (.inr (by simpa using hk)) (fun q hq => ?_) (fun q h1 h2 h3 => ?_) hm.1 (hm.2.wider (T.ok hcall 0 p (by omega) (by omega)).1 (T.ok hcall (p + 1) ops.size (by omega) (Nat.le_refl _)).1) fr.new
    · refine (T.done_set I.size hp (by omega)).2 ?_
      rcases Nat.lt_or_ge q p with h | h
      · exact .inr (hpre q h)
      · exact .inl (by omega)
    · rcases (T.done_set I.size hp h2).1 h3 with rfl | h3
      · omega
      · intro hk2
        rcases (T.pair p q (by omega) h2).2 with k1 | ⟨k1, _⟩
        · exact hnd (I.down _ h3 _ k1)
        · exact k1 hk2
  · intro b ob hb
    replace hb : (if T.Pend listed (p + 1) b then T.nobj b else none) = some ob := hb
    by_cases hx : T.Pend listed (p + 1) b
    · rw [if_pos hx] at hb
      obtain ⟨q, h1, h2, h3, h4⟩ := hx
      refine ⟨by rw [T.md_pos ⟨q, by omega, h2, h3, h4⟩]; exact hb, ?_⟩
      have h6 := (T.ok hcall p q (by omega) (by omega)).1
      exact ((T.ok hcall 0 p (by omega) (by omega)).2 hwf).free b (by have := h4.2.1; omega)
    · rw [if_neg hx] at hb; cases hb
  · intro b ob hb
    by_cases hx : T.Pend (listed.setIfInBounds (T.pi p) true) (p + 1) b
    · rw [T.md_pos hx] at hb
      obtain ⟨q, h1, h2, h3, h4⟩ := hx
      rcases (T.done_set I.size hp h2).1 h3 with rfl | h3
      · omega
      · left
        show (if T.Pend listed (p + 1) b then T.nobj b else none) = some ob
        rw [if_pos ⟨q, h1, h2, h3, h4⟩]; exact hb
    · rw [T.md_neg hx] at hb; exact .inr hb

/-- Whatever may come up now goes well. -/
theorem Inv.go (hcall : CallR P call) (I : T.Inv D ρ0 w0 listed a w ρ c) (hwf : Wf P (T.S 0).h) (hfree : Free ρ0 (T.S 0).h (T.S ops.size).h) {p : Nat} (hp : p < ops.size) (hnd : ¬ T.Done listed p) (hready : ∀ j, T.Ah (T.pi p) j → listed.getD j false = true)
    {F : Fence} {fm : Nat} (hF : Open F) {K : Act → World → Prop} {Q : Exit → Act → World → Prop} (hK : ∀ a' w' ρ' c', T.Inv D ρ0 w0 (listed.setIfInBounds (T.pi p) true) a' w' ρ' c' → K a' w') : wpOpIn F fm P ops Q (T.pi p) K a w := by
  obtain ⟨o, ho, hc⟩ := T.comp p hp
  obtain ⟨_, g, hg, hst⟩ := T.step p hp
  have hw := I.guard hp hnd hready ho hc hg
  have hT := I.operands hp hnd hready ho
  unfold wpOpIn
  simp only [ho, hw]
  have hd := no_defer hc.op
  have hcp := I.cle_p hnd
  rcases hst with ⟨hk, _, _, hst⟩ | ⟨hk, _, _, hst⟩
  · rcases hst with ⟨rfl, hv, hs⟩ | ⟨rfl, hk1, hs, g0, rest, h1, hh, he, hsm⟩ | ⟨rfl, hk1, he⟩
    · simp only [Bool.false_eq_true, if_false]
      refine ⟨fun f _ => hF.fn f, ?_⟩
      exact hK _ _ _ _ (I.still hp hnd hready ho hk hs (by rw [hv]; exact VR.undef ρ))
    · simp only [if_true]
      obtain ⟨r1, h2, r2⟩ := I.read hcall hp hnd hready hh he hsm hwf
      obtain ⟨_, v', k1, k2⟩ := (op_sound hc.op hT).read (by rw [← hc.kind]; exact hk1) r1 r2
      exact wpIn_of hF hd k2 (hK _ _ _ _ (I.still hp hnd hready ho hk hs k1))
    · simp only [if_true]
      rcases kindOf_le (T.op p).op with e | e | e | e <;> have e' := hc.kind.trans e
      · obtain ⟨hs, v', k1, k2⟩ := (op_sound hc.op hT).pure e he
        exact wpIn_of hF hd (k2 w) (hK _ _ _ _ (I.still hp hnd hready ho hk hs k1))
      · exact absurd e' hk1
      · exact absurd e' hk
      · have k := (op_sound hc.op hT).new e he
        obtain ⟨v', w', ρ', k1, k2⟩ := I.made hcall hfree hp hnd hready ho e' rfl k
        exact wpIn_of hF hd k1 (hK _ _ _ _ k2)
  · have hpre := I.ahead_done hp hready hk
    have hm : HR ρ (T.S p).h.objs.get w := I.heap.sub (I.sub_of hcall hwf (by omega) hcp hpre)
    rcases hst with ⟨rfl, hv, hs⟩ | ⟨rfl, he⟩
    · simp only [Bool.false_eq_true, if_false]
      refine ⟨fun f _ => hF.fn f, ?_⟩
      refine hK _ _ _ _ (I.effect hcall hwf hp hnd hready ho hk ⟨by rw [hv]; exact VR.undef ρ, by rw [hs]; exact hm, by rw [hs]; exact Fr.refl ..⟩)
    · simp only [if_true]
      refine (oper_sound hF hcall hc.op hc.call hT he).2 ((T.ok hcall 0 p (by omega) (by omega)).2 hwf) hm (fun b hb hb' => ?_) fun v' w' ρ' k => hK _ _ _ _ (I.effect hcall hwf hp hnd hready ho hk k)
      cases hr : ρ b with
      | none => rfl
      | some L =>
        exfalso
        rcases I.fresh _ L hr with h3 | ⟨q, q1, q2, q3, q4⟩
        · have := hfree b (Nat.le_trans (T.ok hcall 0 p (by omega) (by omega)).1 hb) (Nat.lt_of_lt_of_le hb' (T.ok hcall (p + 1) ops.size (by omega) (Nat.le_refl _)).1)
          rw [this] at h3; cases h3
        · rcases Nat.lt_trichotomy q p with hl | rfl | hl
          · have := (T.ok hcall (q + 1) p hl (by omega)).1; omega
          · exact hnd q2
          · have := (T.ok hcall (p + 1) q hl (by omega)).1; omega

/-- At the end. -/
theorem Inv.fin (hcall : CallR P call) (I : T.Inv D ρ0 w0 listed a w ρ c) (hwf : Wf P (T.S 0).h) (hall : ∀ p, p < ops.size → T.Done listed p) : AR m D ρ (T.S ops.size).t a ∧ HR ρ (T.S ops.size).h.objs.get w ∧
    Fr ρ0 (T.S 0).h.objs.get w0 ρ (T.S ops.size).h.objs.get w (T.S 0).h.next (T.S ops.size).h.next := by
  have hsub := I.sub_of hcall hwf (Nat.le_refl _) I.cle hall
  refine ⟨⟨⟨fun d v hv => ?_⟩, I.asz, I.defers⟩, I.heap.sub hsub, I.fr.comp (Fr.sub hsub _ _)⟩
  rcases T.slot_from ops.size (Nat.le_refl _) d v hv with ⟨q, h1, h2, h3, h4⟩ | ⟨h1, h2⟩
  · rw [← h3]
    exact I.slot q h1 (hall q h1) d h2 fun q' hq' hqq _ => h4 q' hqq hq'
  · exact I.slot0 d v h1 fun q hq _ => h2 q hq

theorem ready_mem {listed : Array Bool} {i : Nat} (hi : i ∈ Region.ready .any ops listed) : i < ops.size ∧ listed.getD i true = false ∧ ∃ o, ops[i]? = some o ∧ ∀ e ∈ o.after.toList, Region.binds .any e = true → listed.getD e.on false = true := by
  unfold Region.ready at hi
  obtain ⟨h1, h2⟩ := List.mem_filter.1 hi
  have h1 : i < ops.size := by simpa using h1
  simp only [Bool.and_eq_true, Bool.not_eq_true'] at h2
  obtain ⟨h3, h4⟩ := h2
  refine ⟨h1, h3, ops[i], by simp [h1], fun e he hb => ?_⟩
  simp only [Array.getElem?_eq_getElem h1, Option.map_some, Option.getD_some, Array.all_eq_true'] at h4
  have := h4 e (by simpa using he)
  rw [hb] at this; simpa using this

theorem ready_nil (I : T.Inv D ρ0 w0 listed a w ρ c) (hnil : Region.ready .any ops listed = []) : ∀ i, i < ops.size → listed.getD i false = true := by
  intro i
  induction i using Nat.strongRecOn with
  | ind i ih =>
    intro hi
    cases hl : listed.getD i false with
    | true => rfl
    | false =>
      exfalso
      have hmem : i ∈ Region.ready .any ops listed := by
        unfold Region.ready
        refine List.mem_filter.2 ⟨by simpa using hi, ?_⟩
        have hlt : i < listed.size := by rw [I.size]; exact hi
        have hl2 : listed.getD i true = false := by
          rw [Array.getD_eq_getD_getElem?] at hl ⊢
          simp [hlt] at hl ⊢
          exact hl
        simp only [Bool.and_eq_true, Bool.not_eq_true', Array.getElem?_eq_getElem hi, Option.map_some, Option.getD_some, Array.all_eq_true']
        refine ⟨hl2, fun e he => ?_⟩
        cases hb : Region.binds .any e with
        | false => rfl
        | true =>
          have := T.edge i ops[i] (by simp [hi]) e (by simpa using he) hb
          simpa using ih e.on this (by omega)
      rw [hnil] at hmem; cases hmem

/-- All orders. -/
theorem all {F : Fence} {fm : Nat} (hF : Open F) (hcall : CallR P call) (hwf : Wf P (T.S 0).h) (hfree : Free ρ0 (T.S 0).h (T.S ops.size).h) {Q : Exit → Act → World → Prop} (hQ : ∀ a' w' ρ', AR m D ρ' (T.S ops.size).t a' → HR ρ' (T.S ops.size).h.objs.get w' →
    Fr ρ0 (T.S 0).h.objs.get w0 ρ' (T.S ops.size).h.objs.get w' (T.S 0).h.next (T.S ops.size).h.next → Q .normal a' w') :
    ∀ (fuel : Nat) (listed : Array Bool) (a : Act) (w : World) (ρ : Ren) (c : Nat), T.Inv D ρ0 w0 listed a w ρ c → (List.range ops.size).countP (fun i => !listed.getD i false) ≤ fuel → wpAnyIn F fm P .any ops Q fuel listed a w := by
  have done : ∀ (listed : Array Bool) (a : Act) (w : World) (ρ : Ren) (c : Nat), T.Inv D ρ0 w0 listed a w ρ c → (∀ i, i < ops.size → listed.getD i false = true) → Q .normal a w := fun listed a w ρ c I h => by
    obtain ⟨r1, r2, r3⟩ := I.fin hcall hwf (fun p hp => h _ (T.pi_lt hp))
    exact hQ a w ρ r1 r2 r3
  intro fuel
  induction fuel with
  | zero =>
    intro listed a w ρ c I hf
    have hall : ∀ i, i < ops.size → listed.getD i false = true := fun i hi => by
      cases hl : listed.getD i false with
      | true => rfl
      | false =>
        have := (List.countP_pos_iff (p := fun i => !listed.getD i false)).2 ⟨i, List.mem_range.2 hi, show (!listed.getD i false) = true by rw [hl]; rfl⟩
        omega
    refine ⟨?_, done listed a w ρ c I hall⟩
    cases hr : Region.ready .any ops listed with
    | nil => rfl
    | cons i l =>
      obtain ⟨h1, h2, _⟩ := ready_mem (i := i) (by rw [hr]; simp)
      have h3 := hall i h1
      have hlt : i < listed.size := by rw [I.size]; exact h1
      rw [Array.getD_eq_getD_getElem?] at h2 h3
      simp [hlt] at h2 h3
      rw [h2] at h3; cases h3
  | succ fuel ih =>
    intro listed a w ρ c I hf
    refine ⟨fun hnil => done listed a w ρ c I (ready_nil I hnil), fun i hi => ?_⟩
    obtain ⟨h1, h2, o, ho, he⟩ := ready_mem hi
    obtain ⟨p, hp, rfl⟩ := T.onto i h1
    have hlt : T.pi p < listed.size := by rw [I.size]; exact h1
    have hnd : ¬ T.Done listed p := fun hd => by
      unfold Done at hd
      rw [Array.getD_eq_getD_getElem?] at hd h2
      simp [hlt] at hd h2
      rw [hd] at h2; cases h2
    refine I.go hcall hwf hfree hp hnd (I.edges ho he) hF fun a' w' ρ' c' I' => ih _ a' w' ρ' c' I' ?_
    have : (List.range ops.size).countP (fun i => !(listed.setIfInBounds (T.pi p) true).getD i false) < (List.range ops.size).countP (fun i => !listed.getD i false) := by
      refine countP_lt (fun x hx hq => ?_) ⟨T.pi p, List.mem_range.2 h1, ?_, ?_⟩
      · by_cases hxp : T.pi p = x
        · subst hxp
          rw [Array.getD_eq_getD_getElem?] at hq; simp [hlt] at hq
        · rw [Array.getD_eq_getD_getElem?, Array.getElem?_setIfInBounds, if_neg hxp, ← Array.getD_eq_getD_getElem?] at hq
          exact hq
      · cases hl : listed.getD (T.pi p) false with
        | true => exact absurd hl hnd
        | false => rfl
      · rw [Array.getD_eq_getD_getElem?]; simp [hlt]
    omega
end Tr
end Go.Ev
