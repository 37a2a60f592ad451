/- The plan of a drawn region is what it must be. -/
import Derived.Test.YtifddfbiehmmoaaGreatDoorEvDrawn
namespace Go.Ev
open Go
set_option linter.unusedSimpArgs false

theorem aheadOf_bit (after : List Edge) (acc : List Nat) : ∀ (s j : Nat), (after.foldl (fun s e => if Region.binds .any e then s ||| 2 ^ e.on ||| (acc.getD e.on 0) else s) s).testBit j = true ↔
    s.testBit j = true ∨ ∃ e ∈ after, Region.binds .any e = true ∧ (j = e.on ∨ (acc.getD e.on 0).testBit j = true) := by
  induction after with
  | nil => intro s j; simp
  | cons e l ih =>
    intro s j
    rw [List.foldl_cons, ih]
    cases hb : Region.binds .any e with
    | false => simp [hb]
    | true =>
      simp only [if_true, Nat.testBit_or, Bool.or_eq_true, Nat.testBit_two_pow, decide_eq_true_eq, List.mem_cons, exists_eq_or_imp, hb, true_and]
      constructor
      · rintro ((h | h) | h)
        · rcases h with h | h
          · exact .inl h
          · exact .inr (.inl (.inl h.symm))
        · exact .inr (.inl (.inr h))
        · exact .inr (.inr h)
      · rintro (h | (h | h) | h)
        · exact .inl (.inl (.inl h))
        · exact .inl (.inl (.inr h.symm))
        · exact .inl (.inr h)
        · exact .inr h
theorem aheads_length : ∀ (os : List Oper) (acc : List Nat), (aheads os acc).length = acc.length + os.length
  | [], acc => by simp [aheads]
  | o :: os, acc => by rw [aheads, aheads_length os]; simp; omega
theorem aheads_pre : ∀ (os : List Oper) (acc : List Nat) (i : Nat), i < acc.length → (aheads os acc)[i]? = acc[i]?
  | [], acc, i, _ => rfl
  | o :: os, acc, i, h => by rw [aheads, aheads_pre os _ i (by simp; omega), List.getElem?_append_left h]
theorem aheads_at : ∀ (os : List Oper) (acc : List Nat) (i : Nat) (o : Oper), os[i]? = some o → (aheads os acc)[acc.length + i]? = some (aheadOf o ((aheads os acc).take (acc.length + i)))
  | [], acc, i, o, h => by simp at h
  | x :: os, acc, 0, o, h => by
    simp at h; subst h
    rw [aheads, aheads_pre os _ _ (by simp)]
    have : (aheads os (acc ++ [aheadOf x acc])).take (acc.length + 0) = acc := by
      apply List.ext_getElem?
      intro k
      rw [List.getElem?_take]
      by_cases hk : k < acc.length
      · rw [if_pos (by omega), aheads_pre os _ k (by simp; omega), List.getElem?_append_left hk]
      · rw [if_neg (by omega)]; simp; omega
    rw [this]; simp
  | x :: os, acc, i + 1, o, h => by
    rw [aheads]
    have := aheads_at os (acc ++ [aheadOf x acc]) i o (by simpa using h)
    simp only [List.length_append, List.length_cons, List.length_nil] at this
    rw [show acc.length + (i + 1) = acc.length + (0 + 1) + i by omega]; exact this

theorem inOrder_at : ∀ (b : List Nat) (k : Nat), inOrder b k = true → ∀ i x, b[i]? = some x → x < 2 ^ (k + i)
  | [], _, _, i, x, h => by simp at h
  | y :: b, k, hb, i, x, h => by
    have hb' : (Nat.ble (y + 1) (2 ^ k) && inOrder b (k + 1)) = true := hb
    rw [Bool.and_eq_true] at hb'
    cases i with
    | zero => simp at h; subst h; exact Nat.le_of_ble_eq_true hb'.1
    | succ i => have := inOrder_at b (k + 1) hb'.2 i x (by simpa using h); rw [show k + (i + 1) = k + 1 + i by omega]; exact this

theorem pairsOk_at {ops : Array Oper} {l : List AOper} {b : List Nat} : ∀ (π : List Nat), pairsOk ops l b π = true → ∀ (p q i j : Nat), p < q → π[p]? = some i → π[q]? = some j → pairOk ops l b i j = true
  | [], _, p, _, _, _, _, h, _ => by simp at h
  | x :: π, hp, p, q, i, j, hpq, hi, hj => by
    have hp' : (π.all (fun j => pairOk ops l b x j) && pairsOk ops l b π) = true := hp
    rw [Bool.and_eq_true] at hp'
    obtain ⟨q, rfl⟩ : ∃ k, q = k + 1 := ⟨q - 1, by omega⟩
    have hj : π[q]? = some j := by simpa using hj
    cases p with
    | zero => simp at hi; subst hi; exact List.all_eq_true.1 hp'.1 j (List.mem_of_getElem? hj)
    | succ p => exact pairsOk_at π hp'.2 p q i j (by omega) (by simpa using hi) hj

theorem picks_at {l : List AOper} {b π : List Nat} : ∀ {is : List Nat} {r : List AOper}, picks l b π is = some r → r.length = is.length ∧ ∀ (p i : Nat), is[p]? = some i → ∃ o, l[i]? = some o ∧ r[p]? = some { o with lo := loOf l b i π }
  | [], r, h => by cases h; exact ⟨rfl, fun p i hp => by simp at hp⟩
  | i :: is, r, h => by
    unfold picks at h
    split at h
    · cases h
    · rename_i o ho
      split at h
      · cases h
      · rename_i os hos
        cases h
        obtain ⟨h1, h2⟩ := picks_at hos
        refine ⟨by simp [h1], fun p j hp => ?_⟩
        cases p with
        | zero =>
          simp at hp; subst hp
          unfold pick1 at ho
          split at ho
          · rename_i x hx; cases ho; exact ⟨x, hx, rfl⟩
          · cases ho
        | succ p => obtain ⟨x, k1, k2⟩ := h2 p j (by simpa using hp); exact ⟨x, k1, by simpa using k2⟩

theorem filter_le {α : Type} {Q E : α → Bool} (hQE : ∀ x, Q x = true → E x = true) : ∀ (l : List α) (c : Nat), (∀ q x, l[q]? = some x → Q x = true → q < c) → (l.filter Q).length ≤ ((l.take c).filter E).length
  | [], c, _ => by simp
  | x :: l, 0, h => by
    have hx : Q x = false := by
      cases hq : Q x with
      | false => rfl
      | true => have := h 0 x rfl hq; omega
    have := filter_le hQE l 0 (fun q y hy hq => by have := h (q + 1) y (by simpa using hy) hq; omega)
    rw [List.filter_cons, hx]; simpa using this
  | x :: l, c + 1, h => by
    have ih := filter_le hQE l c (fun q y hy hq => by have := h (q + 1) y (by simpa using hy) hq; omega)
    rw [List.take_succ_cons, List.filter_cons, List.filter_cons]
    cases hq : Q x with
    | true => rw [hQE x hq]; simp; exact ih
    | false =>
      cases he : E x with
      | true => simp; omega
      | false => simp; exact ih

noncomputable def noOper : AOper := ⟨none, none, .makeMap, false, 0, 0⟩

theorem drawn_sound {P : Program} {call : CallF} {F : Fence} {fm : Nat} {D : List Deferred} (hF : Open F) (hcall : CallR P call) (hmix : P.follows .mixedOrders = true) {id n : Nat} {ops : Array Oper} {l r : List AOper} (hl : compOpers P n ops ops.toList = some l) (hp : planOf ops l = some r)
    {ρ : Ren} {t t' : TM} {a : Act} {h h' : Heap} {w : World} (hr : runDrawn call r t h [h] 0 = some (t', h')) :
    Ok P h h' ∧ (AR n D ρ t a → Wf P h → HR ρ h.objs.get w → Free ρ h h' → ∀ Q : Exit → Act → World → Prop,
      (∀ a' w' ρ', AR n D ρ' t' a' → HR ρ' h'.objs.get w' → Fr ρ h.objs.get w ρ' h'.objs.get w' h.next h'.next → Q .normal a' w') → (Code.region id ops true).wpIn F fm P Q a w) := by
  obtain ⟨l1, l2⟩ := compOpers_spec hl
  unfold planOf at hp
  simp only at hp
  obtain ⟨b, eb⟩ : ∃ b, b = aheads ops.toList [] := ⟨_, rfl⟩
  rw [← eb] at hp
  obtain ⟨π, eπ⟩ : ∃ π, π = orderOf b l.length (effects l 0) 0 := ⟨_, rfl⟩
  rw [← eπ] at hp
  split at hp
  · rename_i hchk
    simp only [Bool.and_eq_true] at hchk
    obtain ⟨⟨c1, c2⟩, c3⟩ := hchk
    unfold permOk at c1
    rw [Bool.and_eq_true] at c1
    have hlen : π.length = ops.size := Nat.eq_of_beq_eq_true c1.1
    have honto : ∀ i, i < ops.size → i ∈ π := fun i hi => by
      have := List.all_eq_true.1 c1.2 i (List.mem_range.2 hi)
      simpa using this
    obtain ⟨r1, r2⟩ := picks_at hp
    have hlb : l.length = ops.size := by rw [l1]; simp
    have hπ : ∀ p, p < ops.size → π[p]? = some (π.getD p 0) := fun p hp => by
      rw [List.getD_eq_getElem?_getD]
      have : p < π.length := by omega
      simp [this]
    have hcomp : ∀ p, p < ops.size → ∃ o ao, ops[π.getD p 0]? = some o ∧ l[π.getD p 0]? = some ao ∧ CompO P n ops o ao ∧ r[p]? = some { ao with lo := loOf l b (π.getD p 0) π } := fun p hp => by
      obtain ⟨ao, h1, h2⟩ := r2 p _ (hπ p hp)
      have hi : π.getD p 0 < ops.size := by rw [← hlb]; exact (List.getElem?_eq_some_iff.1 h1).1
      obtain ⟨ao', k1, k2⟩ := l2 (π.getD p 0) ops[π.getD p 0] (by simp [hi])
      rw [h1] at k1; cases k1
      exact ⟨_, ao, by simp [hi], h1, k2, h2⟩
    have hkinds : ∀ o ∈ r, o.kind = kindOf o.op := fun o ho => by
      obtain ⟨p, hp⟩ := List.getElem?_of_mem ho
      have hlt : p < ops.size := by
        have := (List.getElem?_eq_some_iff.1 hp).1; omega
      obtain ⟨_, ao, _, _, k1, k2⟩ := hcomp p hlt
      rw [hp] at k2; cases k2
      exact k1.kind
    obtain ⟨S, V, s0, s1, s2, s3⟩ := runDrawn_trace r hkinds _ _ _ _ _ _ hr
    have hbit : ∀ i j, (b.getD i 0).testBit j = true → ∃ o, ops[i]? = some o ∧ ∃ e ∈ o.after.toList, Region.binds .any e = true ∧ (j = e.on ∨ ((b.take i).getD e.on 0).testBit j = true) := fun i j hj => by
      have hi : i < ops.size := by
        rcases Nat.lt_or_ge i ops.size with h | h
        · exact h
        · have : b[i]? = none := List.getElem?_eq_none (by rw [eb, aheads_length]; simp; exact h)
          rw [List.getD_eq_getElem?_getD, this] at hj; simp at hj
      have hat := aheads_at ops.toList [] i ops[i] (by simp [hi])
      rw [← eb] at hat
      simp only [List.length_nil, Nat.zero_add] at hat
      rw [List.getD_eq_getElem?_getD, hat, Option.getD_some] at hj
      unfold aheadOf at hj
      rcases (aheadOf_bit _ _ 0 j).1 hj with h | h
      · simp at h
      · exact ⟨_, by simp [hi], h⟩
    have hkind : ∀ p, p < ops.size → ((r.getD p noOper).kind = 2 ↔ isEff l (π.getD p 0) = true) := fun p hp => by
      obtain ⟨_, ao, _, k1, _, k2⟩ := hcomp p hp
      rw [List.getD_eq_getElem?_getD, k2, isEff, k1]
      simp
    have hop : ∀ p, p < ops.size → r[p]? = some (r.getD p noOper) := fun p hp => by
      obtain ⟨_, ao, _, _, _, k2⟩ := hcomp p hp
      rw [List.getD_eq_getElem?_getD, k2]; rfl
    have hkc : ∀ c, c ≤ ops.size → (S c).k = ((π.take c).filter (isEff l)).length := by
      intro c
      induction c with
      | zero => intro _; rw [s0]; simp
      | succ c ih =>
        intro hc
        have ih := ih (by omega)
        obtain ⟨_, g, _, hst⟩ := s3 c _ (hop c (by omega))
        rw [List.take_add_one, hπ c (by omega), Option.toList_some, List.filter_append, List.length_append]
        rcases hst with ⟨hk, _, hk2, _⟩ | ⟨hk, _, hk2, _⟩
        · have : isEff l (π.getD c 0) = false := by
            cases he : isEff l (π.getD c 0) with
            | false => rfl
            | true => exact absurd ((hkind c (by omega)).2 he) hk
          rw [hk2, ih, List.filter_cons, this]; simp
        · have := (hkind c (by omega)).1 hk
          rw [hk2, ih, List.filter_cons, this]; simp
    let T : Tr P call n ops := {
      pi := fun p => π.getD p 0
      op := fun p => r.getD p noOper
      S := S
      V := V
      Ah := fun i j => (b.getD i 0).testBit j = true
      comp := fun p hp => by
        obtain ⟨o, ao, k1, k2, k3, k4⟩ := hcomp p hp
        refine ⟨o, k1, ?_⟩
        rw [List.getD_eq_getElem?_getD, k4]
        exact ⟨k3.dst, k3.dst', k3.op, k3.call, k3.kind, k3.guard⟩
      step := fun p hp => s3 p _ (hop p hp)
      onto := fun i hi => by
        obtain ⟨p, hp⟩ := List.getElem?_of_mem (honto i hi)
        have : p < π.length := (List.getElem?_eq_some_iff.1 hp).1
        exact ⟨p, by omega, by rw [List.getD_eq_getElem?_getD, hp]; rfl⟩
      pair := fun p q hpq hq => by
        have := pairsOk_at π c2 p q _ _ hpq (hπ p (by omega)) (hπ q hq)
        unfold pairOk at this
        rw [Bool.and_eq_true] at this
        refine ⟨fun e => ?_, ?_⟩
        · rw [e, Nat.beq_refl] at this; cases this.1
        · rw [Bool.or_eq_true] at this
          rcases this.2 with h | h
          · exact .inl h
          · right
            rw [Bool.and_eq_true] at h
            refine ⟨fun hk => ?_, ?_⟩
            · rw [(hkind q hq).1 hk] at h; cases h.1
            · obtain ⟨x, _, k1, _⟩ := hcomp p (by omega)
              obtain ⟨y, _, k2, _⟩ := hcomp q hq
              refine ⟨x, y, k1, k2, ?_⟩
              rw [k1, k2] at h; exact h.2
      edge := fun i o ho e he hb => by
        have hi : i < ops.size := (Array.getElem?_eq_some_iff.1 ho).1
        have hat := aheads_at ops.toList [] i o (by simpa using ho)
        rw [← eb] at hat
        simp only [List.length_nil, Nat.zero_add] at hat
        have hlt := inOrder_at b 0 c3 i _ hat
        rw [Nat.zero_add] at hlt
        have hbit2 : (aheadOf o (b.take i)).testBit e.on = true := (aheadOf_bit _ _ 0 e.on).2 (.inr ⟨e, he, hb, .inl rfl⟩)
        rcases Nat.lt_or_ge e.on i with h | h
        · exact h
        · rw [Nat.testBit_lt_two_pow (Nat.lt_of_lt_of_le hlt (Nat.pow_le_pow_right (by omega) h))] at hbit2
          cases hbit2
      ahead := fun i j hj => by
        obtain ⟨o, ho, e, he, hb, h1⟩ := hbit i j hj
        refine ⟨o, ho, e, he, hb, h1.imp (fun h => h) fun h2 => ?_⟩
        rw [List.getD_eq_getElem?_getD, List.getElem?_take] at h2
        by_cases hlt : e.on < i
        · rw [if_pos hlt] at h2; rw [List.getD_eq_getElem?_getD]; exact h2
        · rw [if_neg hlt] at h2; simp at h2
      lo := fun p hp c hc hq => by
        obtain ⟨o, ao, k1, k2, k3, k4⟩ := hcomp p hp
        rw [hkc c hc, List.getD_eq_getElem?_getD, k4, Option.getD_some]
        show (π.filter fun e => isEff l e && (b.getD (π.getD p 0) 0).testBit e).length ≤ _
        refine filter_le (fun x hx => ?_) π c (fun q x hx hQ => ?_)
        · rw [Bool.and_eq_true] at hx; exact hx.1
        · rw [Bool.and_eq_true] at hQ
          have hql : q < ops.size := by rw [← hlen]; exact (List.getElem?_eq_some_iff.1 hx).1
          have hxq : x = π.getD q 0 := by rw [List.getD_eq_getElem?_getD, hx]; rfl
          subst hxq
          exact hq q hql ((hkind q hql).2 hQ.1) hQ.2
      hist0 := by rw [s0]
      k0 := by rw [s0] }
    have hT0 : T.S 0 = ⟨t, h, [h], 0⟩ := s0
    have hTn : (T.S ops.size).t = t' ∧ (T.S ops.size).h = h' := by
      have e : r.length = ops.size := by omega
      rw [← e]; exact ⟨s1, s2⟩
    have hok := T.ok hcall 0 ops.size (by omega) (Nat.le_refl _)
    rw [hT0, hTn.2] at hok
    refine ⟨hok, fun ha hwf hm hf Q hQ => ?_⟩
    refine wpIn_region_any hmix ?_
    have hm0 : HR ρ h.objs.get { w with drawn := w.drawn + 1 } := hm.drew _
    have hgetD : ∀ i, (Array.replicate ops.size false).getD i false = false := fun i => by
      rw [Array.getD_eq_getD_getElem?]
      by_cases hi : i < ops.size <;> simp [hi]
    have hnd : ∀ p, ¬ T.Done (Array.replicate ops.size false) p := fun p hd => by
      unfold Tr.Done at hd; rw [hgetD] at hd; cases hd
    have hmd : T.md (Array.replicate ops.size false) 0 = h.objs.get := by
      funext x
      rw [T.md_neg, hT0]
      rintro ⟨q, _, _, h3, _⟩
      exact hnd q h3
    refine Tr.all (T := T) (D := D) (ρ0 := ρ) (w0 := { w with drawn := w.drawn + 1 }) hF hcall (by rw [hT0]; exact hwf) (by rw [hT0, hTn.2]; exact hf) (fun a' w' ρ' r1 r2 r3 => ?_) ops.size _ a _ ρ 0 ?_ ?_
    · rw [hTn.1] at r1
      rw [hTn.2] at r2 r3
      rw [hT0] at r3
      exact hQ a' w' ρ' r1 r2 { r3 with }
    · refine ⟨by simp, fun i hi => ?_, fun p _ hd => absurd hd (hnd p), fun d v hv _ => ?_, ha.size, ha.defers, by omega, .inl rfl, fun q hq => by omega, fun q _ _ hd => absurd hd (hnd q), ?_, ?_, fun b L hb => .inl hb⟩
      · rw [hgetD] at hi; cases hi
      · rw [hT0] at hv; exact ha.tmps.rel d v hv
      · rw [hmd]; exact hm0
      · rw [hmd, hT0]; exact Fr.refl ..
    · have := List.countP_le_length (p := fun i => !(Array.replicate ops.size false).getD i false) (l := List.range ops.size)
      simpa using this
  · cases hp
end Go.Ev
