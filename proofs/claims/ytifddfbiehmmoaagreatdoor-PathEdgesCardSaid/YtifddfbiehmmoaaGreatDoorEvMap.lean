/- Operations with effects: maps, texts that are gone through, and what makes room. -/
import Derived.Test.YtifddfbiehmmoaaGreatDoorEvEff2
namespace Go.Ev
open Go
set_option linter.unusedSimpArgs false

section
variable {P : Program} {ρ : Ren} {t : TM} {a : Act} {h h' : Heap} {v : Value} {w : World}

theorem run_setMap {r : Nat} {es : Array MapEntry} {k : Nat} (o : Obj) (hb : w.heap[r]? = some (.map es k)) : (setObj r o).run P w = .ok () (World.put w r o) := by simp [setObj, Sem.run, hb, World.put]

theorem MR.append {es es' fs fs' : List MapEntry} (h : MR ρ es es') (k : MR ρ fs fs') : MR ρ (es ++ fs) (es' ++ fs') := by
  induction h with
  | nil => exact k
  | cons hk hp hv _ ih => exact .cons hk hp hv ih
theorem MR.set {kk kk' vv vv' : Value} (hk : VR ρ kk kk') (hp : plain kk = true) (hv : VR ρ vv vv') : ∀ {es es' : List MapEntry} (i : Nat), MR ρ es es' → MR ρ (setEntry kk vv es i) (es'.modify i fun e => { e with key := kk', val := vv' })
  | _, _, i, .nil => by cases i <;> exact .nil
  | _, _, 0, .cons _ _ _ ht => .cons hk hp hv ht
  | _, _, i + 1, .cons h1 h2 h3 ht => .cons h1 h2 h3 (MR.set hk hp hv i ht)
theorem MR.drop {es es' : List MapEntry} (i : Nat) (h : MR ρ es es') : MR ρ (dropEntry es i) (es'.eraseIdx i) := by
  induction h generalizing i with
  | nil => exact .nil
  | cons h1 h2 h3 ht ih =>
    cases i with
    | zero => exact ht
    | succ i => exact .cons h1 h2 h3 (ih i)

theorem keyEq_true {k u : Value} (h : keyEq k u = some true) (hk : keyKind k ≠ 0) : k = u := by
  cases k with
  | int j n =>
    obtain ⟨q, h1, h2⟩ := ob_some.1 (show (ob (asInt u) fun q => og (kindEq j q.1) (some (intEq n q.2))) = some true from h)
    obtain ⟨h3, h4⟩ := og_some.1 h2
    rw [asInt_some] at h1; subst h1
    obtain rfl := kindEq_iff.1 h3
    have h4 : intEq n q.2 = true := Option.some.inj h4
    rw [intEq_eq] at h4
    rw [beq_iff_eq.1 h4]
  | string s =>
    obtain ⟨q, h1, h2⟩ := ob_some.1 (show (ob (asText u) fun b => some (textEq s b)) = some true from h)
    rw [asText_some] at h1; subst h1
    rw [textEq_iff.1 (Option.some.inj h2)]
  | _ => exact absurd rfl hk
theorem sameBits_self {k : Value} (h : keyKind k ≠ 0) : Instr.sameBits 10000 k k = true := by
  cases k with
  | int j n => simp [Instr.sameBits]
  | string s => simp only [Instr.sameBits]; rw [beq_text]; exact textEq_iff.2 rfl
  | _ => exact absurd rfl h

theorem stays {k k' : Value} {es : Array MapEntry} {e' : MapEntry} {i : Nat} (hi : es[i]? = some e') (he : e'.key = k) (hk : keyKind k ≠ 0) (hkk : k' = k) :
    (Instr.keyThatStays (((es[i]?).map (·.key)).getD k') k').run P w = .ok k w := by
  subst hkk
  simp [Instr.keyThatStays, hi, he, sameBits_self hk]

theorem map_upd {r : Nat} {es : List MapEntry} {c : Nat} {L : Loc} {es1 : List MapEntry} {es1' : Array MapEntry} {c1 : Nat} (hm : HR ρ h.objs.get w) (hb : h.objs.get r = some (.map es c)) (hL : ρ r = some L) (h1 : MR ρ es1 es1'.toList) :
    HR ρ (h.upd r (.map es1 c1)).objs.get (World.put w L.blk (.map es1' c1)) ∧ ∀ lo hi, Fr ρ h.objs.get w ρ (h.upd r (.map es1 c1)).objs.get (World.put w L.blk (.map es1' c1)) lo hi := by
  rw [upd_get]
  exact ⟨hm.upd ⟨_, hb⟩ hL ⟨es1', rfl, h1⟩, fun lo hi => Fr.upd _ hb hL lo hi⟩

theorem map_inv {r : Nat} {y : Value} (h : VR ρ (.map (some r)) y) : ∃ L, ρ r = some L ∧ y = .map (some L.blk) := by cases h with | map hL => exact ⟨_, hL, rfl⟩

theorem eff_mapUpdate {dst ty pos after guard} {s kt e : TypeId} {m k x : Operand} (op : Op) (ho : op = .mapUpdate s m k x ∨ op = .insert s m k x) (hm : HR ρ h.objs.get w) (hd : P.underlying s = some (.map kt e)) (hk : 1 ≤ keyOk P kt)
    (h1 : ∀ v, opd t m = some v → VR ρ v (a.eval m)) (h2 : ∀ v, opd t k = some v → VR ρ v (a.eval k)) (h3 : ∀ v, opd t x = some v → VR ρ v (a.eval x))
    (he : oMapUpdate (keyOk P kt) m k x t h = some (v, h')) : EffOk P ρ a ⟨dst, op, ty, pos, after, guard⟩ w v h h' := by
  obtain ⟨mv, g1, g2⟩ := ob_some.1 he
  obtain ⟨r, g3, g4⟩ := ob_some.1 g2
  obtain ⟨kv, g5, g6⟩ := ob_some.1 g4
  obtain ⟨xv, g7, g8⟩ := ob_some.1 g6
  obtain ⟨es, g9, g10⟩ := ob_some.1 g8
  obtain ⟨g11, g12⟩ := og_some.1 g10
  obtain ⟨f, g13, g14⟩ := ob_some.1 g12
  have g11 := Nat.eq_of_beq_eq_true g11
  rw [asMap_some] at g3; subst g3
  obtain ⟨L, hL, em⟩ := map_inv (h1 _ g1)
  have hpl := keyKind_plain hk g11
  have hkv := h2 _ g5
  have ek : a.eval k = kv := plain_eq hkv hpl
  rw [ek] at hkv
  have hxv := h3 _ g7
  have hb := getMap_some g9
  obtain ⟨es', q1, q2⟩ := hm.map hb hL
  obtain ⟨f', q3, q4⟩ := run_findKey hk g11 q2 g13
  have hk0 : keyKind kv ≠ 0 := by omega
  have fin : ∀ w', (Instr.mapUpdate s (.map (some L.blk)) kv (a.eval x)).run P w = .ok () w' → (execOp a.eval ⟨dst, op, ty, pos, after, guard⟩).run P w = .ok .skip w' := by
    intro w' hw'
    rcases ho with rfl | rfl <;> simp [execOp, em, ek, hw']
  cases f with
  | none =>
    have g14' : some (undefV, h.upd r (.map (es.1 ++ [⟨kv, xv, es.2⟩]) (es.2 + 1))) = some (v, h') := g14
    cases g14'
    simp only at q4; subst q4
    obtain ⟨k1, k2⟩ := map_upd (c1 := es.2 + 1) (es1' := es'.push ⟨kv, a.eval x, es.2⟩) hm hb hL (by rw [Array.toList_push]; exact q2.append (.cons hkv hpl hxv .nil))
    refine ⟨undef, _, ρ, .inr ⟨fin _ ?_, rfl⟩, VR.undef ρ, k1, k2 _ _, Nat.le_refl _⟩
    simp only [Instr.mapUpdate, Sem.run_bind, run_underlying hd, Result.andThen_ok, run_getMap q1, run_checkKey hk, q3, run_setMap _ q1]
  | some ie =>
    obtain ⟨i, e0⟩ := ie
    have g14' : some (undefV, h.upd r (.map (setEntry kv xv es.1 i) es.2)) = some (v, h') := g14
    cases g14'
    obtain ⟨r1, e1', r2, rfl, r3, r4, r5, r6, r7⟩ := q4
    have ekk : kv = e0.key := keyEq_true r7 hk0
    have r4' : e1'.key = e0.key := plain_eq r4 r5
    obtain ⟨k1, k2⟩ := map_upd (c1 := es.2) (es1' := es'.modify i fun e => { e with key := kv, val := a.eval x }) hm hb hL (by rw [Array.toList_modify]; exact MR.set hkv hpl hxv i q2)
    refine ⟨undef, _, ρ, .inr ⟨fin _ ?_, rfl⟩, VR.undef ρ, k1, k2 _ _, Nat.le_refl _⟩
    have hst := stays (P := P) (w := w) (k' := kv) r2 (r4'.trans ekk.symm) hk0 rfl
    simp only [Instr.mapUpdate, Sem.run_bind, run_underlying hd, Result.andThen_ok, run_getMap q1, run_checkKey hk, q3, hst, run_setMap _ q1]

theorem eff_mapEntry {dst ty pos after guard} {s kt e : TypeId} {m k : Operand} {z : Value} (hm : HR ρ h.objs.get w) (hd : P.underlying s = some (.map kt e)) (hk : 1 ≤ keyOk P kt) (hz : zeroT P e = some z)
    (h1 : ∀ v, opd t m = some v → VR ρ v (a.eval m)) (h2 : ∀ v, opd t k = some v → VR ρ v (a.eval k))
    (he : oMapEntry (keyOk P kt) z m k t h = some (v, h')) : EffOk P ρ a ⟨dst, .mapEntry s m k, ty, pos, after, guard⟩ w v h h' := by
  obtain ⟨hc, he⟩ := og_some.1 he
  obtain ⟨mv, g1, g2⟩ := ob_some.1 he
  obtain ⟨r, g3, g4⟩ := ob_some.1 g2
  obtain ⟨kv, g5, g6⟩ := ob_some.1 g4
  obtain ⟨es, g9, g10⟩ := ob_some.1 g6
  obtain ⟨g11, g12⟩ := og_some.1 g10
  obtain ⟨f, g13, g14⟩ := ob_some.1 g12
  have g11 := Nat.eq_of_beq_eq_true g11
  rw [asMap_some] at g3; subst g3
  obtain ⟨L, hL, em⟩ := map_inv (h1 _ g1)
  have hpl := keyKind_plain hk g11
  have hkv := h2 _ g5
  have ek : a.eval k = kv := plain_eq hkv hpl
  rw [ek] at hkv
  have hzz := constOk_refl hc ρ
  have hb := getMap_some g9
  obtain ⟨es', q1, q2⟩ := hm.map hb hL
  obtain ⟨f', q3, q4⟩ := run_findKey hk g11 q2 g13
  have hk0 : keyKind kv ≠ 0 := by omega
  cases f with
  | none =>
    have g14' : some (Value.tuple ⟨[z, .int .i64 es.2]⟩, h.upd r (.map (es.1 ++ [⟨kv, z, es.2⟩]) (es.2 + 1))) = some (v, h') := g14
    cases g14'
    simp only at q4; subst q4
    obtain ⟨k1, k2⟩ := map_upd (c1 := es.2 + 1) (es1' := es'.push ⟨kv, z, es.2⟩) hm hb hL (by rw [Array.toList_push]; exact q2.append (.cons hkv hpl hzz .nil))
    refine ⟨.tuple ⟨[z, .int .i64 es.2]⟩, _, ρ, .inl ?_, .tuple (.cons hzz (.cons (.int _ _) .nil)), k1, k2 _ _, Nat.le_refl _⟩
    simp only [execOp, em, ek, Instr.mapEntry, Sem.run_bind, run_underlying hd, Result.andThen_ok, run_getMap q1, run_checkKey hk, q3, run_zeroT hz, run_setMap _ q1, Sem.run_pure, goInt]
  | some ie =>
    obtain ⟨i, e0⟩ := ie
    have g14' : some (Value.tuple ⟨[e0.val, .int .i64 e0.born]⟩, h.upd r (.map (setEntry kv e0.val es.1 i) es.2)) = some (v, h') := g14
    cases g14'
    obtain ⟨r1, e1', r2, rfl, r3, r4, r5, r6, r7⟩ := q4
    have ekk : kv = e0.key := keyEq_true r7 hk0
    have r4' : e1'.key = e0.key := plain_eq r4 r5
    have hmod : es'.modify i (fun e => { e with key := kv }) = es'.modify i fun e => { e with key := kv, val := e1'.val } := by
      apply Array.ext_getElem?
      intro j
      rw [Array.getElem?_modify, Array.getElem?_modify]
      by_cases hij : i = j
      · subst hij; rw [r2]; rfl
      · rw [if_neg hij, if_neg hij]
    obtain ⟨k1, k2⟩ := map_upd (c1 := es.2) (es1' := es'.modify i fun e => { e with key := kv, val := e1'.val }) hm hb hL (by rw [Array.toList_modify]; exact MR.set hkv hpl r6 i q2)
    refine ⟨.tuple ⟨[e1'.val, .int .i64 e0.born]⟩, _, ρ, .inl ?_, .tuple (.cons r6 (.cons (.int _ _) .nil)), k1, k2 _ _, Nat.le_refl _⟩
    have hst := stays (P := P) (w := w) (k' := kv) r2 (r4'.trans ekk.symm) hk0 rfl
    rw [r2] at hst
    simp only [Option.map_some, Option.getD_some] at hst
    simp only [execOp, em, ek, Instr.mapEntry, Sem.run_bind, run_underlying hd, Result.andThen_ok, run_getMap q1, run_checkKey hk, q3, r2, Option.map_some, Option.getD_some, hst, hmod, run_setMap _ q1, Sem.run_pure, goInt, r3]

theorem findBorn_cons (n : Int) (e : MapEntry) (es : List MapEntry) (i : Nat) : findBorn n (e :: es) i = bif intEq (.ofNat e.born) n then some (i, e) else findBorn n es (i + 1) := rfl
theorem findBorn_some {n : Int} : ∀ {es es' : List MapEntry} {i j : Nat} {e : MapEntry}, MR ρ es es' → findBorn n es i = some (j, e) →
    i ≤ j ∧ es[j - i]? = some e ∧ (∃ e', es'[j - i]? = some e' ∧ VR ρ e.key e'.key ∧ plain e.key = true) ∧ es'.findIdx? (fun e => (e.born : Int) == n) = some (j - i)
  | _, _, _, _, _, .nil, h => by cases h
  | _, _, i, j, e, .cons (k := k1) (k' := k1') (v := v1) (v' := v1') (n := b) hk hp hv ht, h => by
    rw [findBorn_cons, intEq_eq] at h
    by_cases hb : ((Int.ofNat b) == n) = true
    · have h' : (bif ((Int.ofNat b) == n) then some (i, (⟨k1, v1, b⟩ : MapEntry)) else findBorn n _ (i + 1)) = some (j, e) := h
      rw [hb] at h'
      cases h'
      have hb' : ((b : Int) == n) = true := hb
      refine ⟨Nat.le_refl _, by simp, ⟨⟨k1', v1', b⟩, by simp, hk, hp⟩, ?_⟩
      simp [List.findIdx?_cons, hb']
    · have hbf : ((Int.ofNat b) == n) = false := by simpa using hb
      have h' : (bif ((Int.ofNat b) == n) then some (i, (⟨k1, v1, b⟩ : MapEntry)) else findBorn n _ (i + 1)) = some (j, e) := h
      rw [hbf] at h'
      obtain ⟨h1, h2, ⟨e', h3, h4⟩, h5⟩ := findBorn_some ht h'
      have hb' : ((b : Int) == n) = false := hbf
      have ej : j - i = (j - (i + 1)) + 1 := by omega
      refine ⟨by omega, by rw [ej]; simpa using h2, ⟨e', by rw [ej]; simpa using h3, h4⟩, ?_⟩
      simp [List.findIdx?_cons, hb', h5, ej]

theorem eff_entryStore {dst ty pos after guard} {s : TypeId} {m k x : Operand} (hm : HR ρ h.objs.get w)
    (h1 : ∀ v, opd t m = some v → VR ρ v (a.eval m)) (h2 : ∀ v, opd t k = some v → VR ρ v (a.eval k)) (h3 : ∀ v, opd t x = some v → VR ρ v (a.eval x))
    (he : oEntryStore m k x t h = some (v, h')) : EffOk P ρ a ⟨dst, .entryStore s m k x, ty, pos, after, guard⟩ w v h h' := by
  obtain ⟨mv, g1, g2⟩ := ob_some.1 he
  obtain ⟨r, g3, g4⟩ := ob_some.1 g2
  obtain ⟨kv, g5, g6⟩ := ob_some.1 g4
  obtain ⟨sn, g5', g6'⟩ := ob_some.1 g6
  obtain ⟨xv, g7, g8⟩ := ob_some.1 g6'
  obtain ⟨es, g9, g10⟩ := ob_some.1 g8
  obtain ⟨ie, g11, g12⟩ := ob_some.1 g10
  cases g12
  rw [asMap_some] at g3; subst g3
  rw [asInt_some] at g5'; subst g5'
  obtain ⟨i, e⟩ := ie
  obtain ⟨L, hL, em⟩ := map_inv (h1 _ g1)
  have ek := (h2 _ g5).int_inv
  have hxv := h3 _ g7
  have hb := getMap_some g9
  obtain ⟨es', q1, q2⟩ := hm.map hb hL
  obtain ⟨_, r1, ⟨e', r2, r3, r4⟩, r5⟩ := findBorn_some q2 g11
  simp only [Nat.sub_zero] at r1 r2 r5
  have r3' : e'.key = e.key := plain_eq r3 r4
  have r2' : es'[i]? = some e' := by simpa using r2
  have hmod : es'.modify i (fun e => { e with val := a.eval x }) = es'.modify i fun q => { q with key := e.key, val := a.eval x } := by
    apply Array.ext_getElem?
    intro j
    rw [Array.getElem?_modify, Array.getElem?_modify]
    by_cases hij : i = j
    · subst hij; rw [r2', ← r3']; rfl
    · rw [if_neg hij, if_neg hij]
  obtain ⟨k1, k2⟩ := map_upd (c1 := es.2) (es1' := es'.modify i fun q => { q with key := e.key, val := a.eval x }) hm hb hL (by rw [Array.toList_modify]; exact MR.set (plain_refl r4 ρ) r4 hxv i q2)
  refine ⟨undef, _, ρ, .inr ⟨?_, rfl⟩, VR.undef ρ, k1, k2 _ _, Nat.le_refl _⟩
  have hfi : es'.findIdx? (fun e => (e.born : Int) == sn.2) = some i := by obtain ⟨l⟩ := es'; rw [List.findIdx?_toArray]; exact r5
  simp only [execOp, em, ek, Instr.entryStore, Go.asInt, Go.asIntOf, Sem.run_bind, Result.andThen_ok, run_getMap q1, Sem.run_pure, hfi, hmod, run_setMap _ q1]

theorem eff_delete {dst ty pos after guard} {s kt e : TypeId} {m k : Operand} {ats : Array TypeId} (hm : HR ρ h.objs.get w) (hats : ats[0]? = some s) (hd : P.underlying s = some (.map kt e)) (hk : 1 ≤ keyOk P kt)
    (h1 : ∀ v, opd t m = some v → VR ρ v (a.eval m)) (h2 : ∀ v, opd t k = some v → VR ρ v (a.eval k))
    (he : oDelete (keyOk P kt) m k t h = some (v, h')) : EffOk P ρ a ⟨dst, .call ⟨.builtin .delete, #[m, k], ats⟩, ty, pos, after, guard⟩ w v h h' := by
  obtain ⟨mv, g1, g2⟩ := ob_some.1 he
  obtain ⟨r, g3, g4⟩ := ob_some.1 g2
  obtain ⟨kv, g5, g6⟩ := ob_some.1 g4
  obtain ⟨es, g9, g10⟩ := ob_some.1 g6
  obtain ⟨g11, g12⟩ := og_some.1 g10
  obtain ⟨f, g13, g14⟩ := ob_some.1 g12
  have g11 := Nat.eq_of_beq_eq_true g11
  rw [asMap_some] at g3; subst g3
  obtain ⟨L, hL, em⟩ := map_inv (h1 _ g1)
  have hpl := keyKind_plain hk g11
  have ek : a.eval k = kv := plain_eq (h2 _ g5) hpl
  have hb := getMap_some g9
  obtain ⟨es', q1, q2⟩ := hm.map hb hL
  obtain ⟨f', q3, q4⟩ := run_findKey hk g11 q2 g13
  cases f with
  | none =>
    have g14' : some (undefV, h) = some (v, h') := g14
    cases g14'
    simp only at q4; subst q4
    refine ⟨.tuple #[], _, ρ, .inl ?_, VR.undef ρ, hm, Fr.refl .., Nat.le_refl _⟩
    have hput : World.put w L.blk (.map es' es.2) = w := put_self q1
    simp only [execOp, resolve, invoke, builtin, Builtin.delete_, hats, em, ek, Sem.run_bind, run_underlying hd, Result.andThen_ok, run_getMap q1, run_checkKey hk, q3, run_setMap _ q1, hput, Sem.run_pure, List.map_toArray, List.map_cons, List.map_nil, List.getElem?_toArray, List.getElem?_cons_zero, List.getElem?_cons_succ]
  | some ie =>
    obtain ⟨i, e0⟩ := ie
    have g14' : some (undefV, h.upd r (.map (dropEntry es.1 i) es.2)) = some (v, h') := g14
    cases g14'
    obtain ⟨r1, e1', r2, rfl, _⟩ := q4
    obtain ⟨k1, k2⟩ := map_upd (c1 := es.2) (es1' := es'.eraseIdxIfInBounds i) hm hb hL (by rw [Array.toList_eraseIdxIfInBounds]; exact q2.drop i)
    refine ⟨.tuple #[], _, ρ, .inl ?_, VR.undef ρ, k1, k2 _ _, Nat.le_refl _⟩
    simp only [execOp, resolve, invoke, builtin, Builtin.delete_, hats, em, ek, Sem.run_bind, run_underlying hd, Result.andThen_ok, run_getMap q1, run_checkKey hk, q3, run_setMap _ q1, Sem.run_pure, List.map_toArray, List.map_cons, List.map_nil, List.getElem?_toArray, List.getElem?_cons_zero, List.getElem?_cons_succ]
end
end Go.Ev
