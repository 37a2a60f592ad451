/- Operations that make blocks, and that write. -/
import Derived.Test.YtifddfbiehmmoaaGreatDoorEvRead
namespace Go.Ev
open Go
set_option linter.unusedSimpArgs false

/-! ### Rows of cells. -/
def setRow (C : Array Value) (k : Nat) : List Value → Array Value
  | [] => C
  | v :: vs => setRow (C.setIfInBounds k v) (k + 1) vs
@[simp] theorem size_setRow : ∀ (vs : List Value) (C : Array Value) (k : Nat), (setRow C k vs).size = C.size
  | [], _, _ => rfl
  | v :: vs, C, k => by rw [setRow, size_setRow vs]; simp
theorem getElem?_setRow : ∀ (vs : List Value) (C : Array Value) (k m : Nat), (setRow C k vs)[m]? = if k ≤ m ∧ m < k + vs.length then (if m < C.size then vs[m - k]? else none) else C[m]?
  | [], C, k, m => by rw [if_neg (by simp only [List.length_nil]; omega)]; rfl
  | v :: vs, C, k, m => by
    rw [setRow, getElem?_setRow vs]
    simp only [Array.size_setIfInBounds, List.length_cons]
    by_cases h1 : k + 1 ≤ m ∧ m < k + 1 + vs.length
    · have h2 : k ≤ m ∧ m < k + (vs.length + 1) := by omega
      have h3 : m - k = (m - (k + 1)) + 1 := by omega
      rw [if_pos h1, if_pos h2, h3]; simp
    · rw [if_neg h1]
      by_cases h2 : k = m
      · subst h2
        have : k ≤ k ∧ k < k + (vs.length + 1) := by omega
        rw [if_pos this]
        simp [Array.getElem?_setIfInBounds]
      · have h3 : ¬ (k ≤ m ∧ m < k + (vs.length + 1)) := by omega
        rw [if_neg h3, Array.getElem?_setIfInBounds_ne h2]

def World.put (w : World) (b : Nat) (o : Obj) : World := { w with heap := w.heap.setIfInBounds b o }
theorem put_put (w : World) (b : Nat) (o o' : Obj) : World.put (World.put w b o) b o' = World.put w b o' := by simp [World.put, Array.setIfInBounds_setIfInBounds]
theorem put_get {w : World} {b : Nat} {o : Obj} (o' : Obj) (h : w.heap[b]? = some o) : (World.put w b o').heap[b]? = some o' := by
  have := (Array.getElem?_eq_some_iff.1 h).1
  simp [World.put, this]
theorem put_self {w : World} {b : Nat} {o : Obj} (h : w.heap[b]? = some o) : World.put w b o = w := by
  obtain ⟨hlt, he⟩ := Array.getElem?_eq_some_iff.1 h
  have : w.heap.setIfInBounds b o = w.heap := by
    apply Array.ext_getElem?
    intro i
    by_cases e : b = i
    · subst e; simp [hlt, he]
    · simp [Array.getElem?_setIfInBounds_ne e]
  simp [World.put, this]
theorem setCell_put {w : World} {b k : Nat} {C : Array Value} {e : TypeId} {fz : Nat × Nat} (v : Value) (h : w.heap[b]? = some (.cells C e fz)) :
    w.setCell ⟨b, k, none⟩ v = World.put w b (.cells (C.setIfInBounds k v) e fz) := by
  have key : (w.setCell ⟨b, k, none⟩ v).heap = (World.put w b (.cells (C.setIfInBounds k v) e fz)).heap := by
    apply Array.ext_getElem?
    intro i
    show (w.heap.modify b _)[i]? = (w.heap.setIfInBounds b _)[i]?
    rw [Array.getElem?_modify]
    by_cases hi : b = i
    · subst hi
      obtain ⟨hlt, he⟩ := Array.getElem?_eq_some_iff.1 h
      simp [hlt, he]
    · simp [hi, Array.getElem?_setIfInBounds_ne hi]
  have : ∀ W W' : World, W.heap = W'.heap → W.tape = W'.tape → W.drawn = W'.drawn → W.os = W'.os → W.output = W'.output → W = W' := by
    intro W W' h1 h2 h3 h4 h5; cases W; cases W'; simp_all
  exact this _ _ key rfl rfl rfl rfl

section
variable {P : Program} {ρ : Ren} {t : TM} {a : Act} {h h' : Heap} {v : Value} {w : World}

theorem run_storeCells (P : Program) (b o : Nat) (e : TypeId) (fz : Nat × Nat) : ∀ (vs : List Value) (i : Nat) (C : Array Value) (w : World), w.heap[b]? = some (.cells C e fz) → o + i + vs.length ≤ C.size →
    (∀ off, off < C.size → frozenAt fz off = false) → (∀ v ∈ vs, v.oneCell' = true) → (storeCells ⟨b, o, none⟩ vs i).run P w = .ok () (World.put w b (.cells (setRow C (o + i) vs) e fz))
  | [], i, C, w, hb, _, _, _ => by simp only [storeCells, setRow, put_self hb]; rfl
  | v :: vs, i, C, w, hb, hl, hf, h1 => by
    simp only [List.length_cons] at hl
    have hk : o + i < C.size := by omega
    have hc : w.cell? ⟨b, o + i, none⟩ = some C[o + i] := by simp [World.cell?, hb, hk]
    have hfr : w.frozen? ⟨b, o + i, none⟩ = false := by have := hf (o + i) hk; simpa [World.frozen?, hb, frozenAt] using this
    simp only [storeCells, Sem.run_bind, addr_add]
    rw [run_store P w _ v .plain (h1 v (by simp)), hc]
    simp only [hfr, Bool.false_eq_true, if_false, Result.andThen_ok]
    rw [setCell_put v hb, run_storeCells P b o e fz vs (i + 1) _ _ (put_get _ hb) (by simp; omega) (by simpa using hf) (fun u hu => h1 u (by simp [hu])), put_put]
    rfl

theorem writeFrom_cons (c : T Value) (i : Nat) (v : Value) (vs : List Value) : writeFrom c i (v :: vs) = ob (c.get i) fun _ => og (one v) (writeFrom (c.set i v) (i + 1) vs) := rfl
theorem writeFrom_some : ∀ {vs : List Value} {c c' : T Value} {i : Nat}, writeFrom c i vs = some c' →
    (∀ j, j < vs.length → ∃ v, c.get (i + j) = some v) ∧ allOne vs = true ∧ ∀ k, c'.get k = if i ≤ k ∧ k < i + vs.length then vs[k - i]? else c.get k
  | [], c, c', i, h => by
    cases h
    refine ⟨fun j hj => by simp at hj, rfl, fun k => ?_⟩
    rw [if_neg (by simp only [List.length_nil]; omega)]
  | v :: vs, c, c', i, h => by
    rw [writeFrom_cons] at h
    obtain ⟨u, h1, h2⟩ := ob_some.1 h
    obtain ⟨h3, h4⟩ := og_some.1 h2
    obtain ⟨h5, h6, h7⟩ := writeFrom_some h4
    refine ⟨fun j hj => ?_, ?_, fun k => ?_⟩
    · cases j with
      | zero => exact ⟨u, h1⟩
      | succ j =>
        obtain ⟨v', h8⟩ := h5 j (by simpa using hj)
        rw [T.get_set, if_neg (by omega)] at h8
        exact ⟨v', by rw [show i + (j + 1) = i + 1 + j by omega]; exact h8⟩
    · show oi (one v) (allOne vs) false = true; rw [h3, h6]; rfl
    · rw [h7 k, T.get_set]
      simp only [List.length_cons]
      by_cases c1 : i + 1 ≤ k ∧ k < i + 1 + vs.length
      · have c2 : i ≤ k ∧ k < i + (vs.length + 1) := by omega
        rw [if_pos c1, if_pos c2, show k - i = (k - (i + 1)) + 1 by omega]; simp
      · rw [if_neg c1]
        by_cases c2 : i = k
        · subst c2
          rw [if_pos rfl, if_pos (by omega)]; simp
        · rw [if_neg c2, if_neg (by omega)]

theorem write_some {b o : Nat} {vs : List Value} (hw : h.write b o vs = some h') : ∃ c e z cl c', h.objs.get b = some (.cells c e z cl) ∧ writeFrom c o vs = some c' ∧ h' = h.upd b (.cells c' e z cl) := by
  obtain ⟨ob, h1, h2⟩ := ob_some.1 hw
  cases ob with
  | cells c e z cl =>
    obtain ⟨c', h3, h4⟩ := ob_some.1 (show ob (writeFrom c o vs) (fun c' => some (h.upd b (.cells c' e z cl))) = some h' from h2)
    cases h4
    exact ⟨c, e, z, cl, c', h1, h3, rfl⟩
  | map => cases h2
  | text => cases h2
  | loop => cases h2
theorem upd_get (h : Heap) (b : Nat) (o : AObj) : (h.upd b o).objs.get = fun x => if b = x then some o else h.objs.get x := by funext x; exact T.get_set _ _ _ _
theorem new_get (h : Heap) (o : AObj) : (h.new o).objs.get = fun x => if h.next = x then some o else h.objs.get x := by funext x; exact T.get_set _ _ _ _

/-- What is written to an abstract block is written to the block. -/
theorem write_sound {b o : Nat} {vs vs' : List Value} {L : Loc} (hm : HR ρ h.objs.get w) (hw : h.write b o vs = some h') (hL : ρ b = some L) (hv : VRL ρ vs vs') :
    ∃ w', (storeCells ⟨L.blk, L.base + o, none⟩ vs').run P w = .ok () w' ∧ HR ρ h'.objs.get w' ∧ h'.next = h.next ∧ ∀ lo hi, Fr ρ h.objs.get w ρ h'.objs.get w' lo hi := by
  obtain ⟨c, e, z, cl, c', h1, h2, rfl⟩ := write_some hw
  obtain ⟨L', r, g1, g2, C, e', fz, rfl, g3, g4, g5, g6⟩ := hm.obj b _ h1
  rw [hL] at g1; cases g1
  obtain ⟨k1, k2, k3⟩ := writeFrom_some h2
  have hlen := hv.length
  have hsz : ∀ j, j < vs.length → L.base + o + j < C.size := fun j hj => by
    obtain ⟨u, hu⟩ := k1 j hj
    obtain ⟨u', hu', _⟩ := g3 _ _ hu
    have := (Array.getElem?_eq_some_iff.1 hu').1
    omega
  cases hvs : vs with
  | nil =>
    subst hvs
    cases hv
    have hc' : c' = c := by cases h2; rfl
    subst hc'
    refine ⟨w, by simp [storeCells], ?_, rfl, fun lo hi => ?_⟩
    · rw [upd_get]
      have : (fun x => if b = x then some (AObj.cells c' e z cl) else h.objs.get x) = h.objs.get := by
        funext x; by_cases hx : b = x
        · subst hx; simp [h1]
        · simp [hx]
      rw [this]; exact hm
    · rw [upd_get]
      have : (fun x => if b = x then some (AObj.cells c' e z cl) else h.objs.get x) = h.objs.get := by
        funext x; by_cases hx : b = x
        · subst hx; simp [h1]
        · simp [hx]
      rw [this]; exact Fr.refl ..
  | cons v0 vs0 =>
    have hfit : L.base + o + 0 + vs'.length ≤ C.size := by
      have := hsz (vs.length - 1) (by rw [hvs]; simp)
      have : 0 < vs.length := by rw [hvs]; simp
      omega
    have hrun := run_storeCells P L.blk (L.base + o) e' fz vs' 0 C w g2 hfit g6 (hv.allOne k2)
    rw [Nat.add_zero] at hrun
    refine ⟨_, hrun, ?_, rfl, fun lo hi => ?_⟩
    · rw [upd_get]
      refine hm.upd ⟨_, h1⟩ hL ⟨_, e', fz, rfl, fun i u hu => ?_, by simpa using g4, g5, by simpa using g6⟩
      rw [k3 i] at hu
      rw [getElem?_setRow]
      by_cases c1 : o ≤ i ∧ i < o + vs.length
      · rw [if_pos c1] at hu
        obtain ⟨u', q1, q2⟩ := hv.get _ _ hu
        have := hsz (i - o) (by omega)
        rw [if_pos (by omega), if_pos (by omega), show L.base + i - (L.base + o) = i - o by omega]
        exact ⟨u', q1, q2⟩
      · rw [if_neg c1] at hu
        rw [if_neg (by omega)]
        exact g3 i u hu
    · rw [upd_get]
      exact Fr.upd _ h1 hL lo hi

/-! ### New blocks. -/
theorem fillFrom_get : ∀ (vs : List Value) (c : T Value) (i k : Nat), (fillFrom c i vs).get k = if i ≤ k ∧ k < i + vs.length then vs[k - i]? else c.get k
  | [], c, i, k => by rw [if_neg (by simp only [List.length_nil]; omega)]; rfl
  | v :: vs, c, i, k => by
    show (fillFrom (c.set i v) (i + 1) vs).get k = _
    rw [fillFrom_get vs, T.get_set]
    simp only [List.length_cons]
    by_cases c1 : i + 1 ≤ k ∧ k < i + 1 + vs.length
    · rw [if_pos c1, if_pos (by omega), show k - i = (k - (i + 1)) + 1 by omega]; simp
    · rw [if_neg c1]
      by_cases c2 : i = k
      · subst c2; rw [if_pos rfl, if_pos (by omega)]; simp
      · rw [if_neg c2, if_neg (by omega)]
theorem fill_get (vs : List Value) (k : Nat) : (fillFrom .nil 0 vs).get k = vs[k]? := by
  rw [fillFrom_get]
  by_cases c : k < vs.length
  · simp [c]
  · simp [c]
theorem alloc_get (h : Heap) (vs : List Value) (e z : Nat) (cl : Bool) : (h.alloc vs e z cl).objs.get = fun x => if h.next = x then some (.cells (fillFrom .nil 0 vs) e z cl) else h.objs.get x := new_get _ _

/-- The row of a new block. -/
theorem OR.row {cells cells' rest : List Value} {e e' z : Nat} {cl : Bool} {L : Loc} (hv : VRL ρ cells cells') (hb : L.base = 0) (hz : z ≠ 0 → L.esz = z ∧ L.cells = cells'.length + rest.length) :
    OR ρ (.cells (fillFrom .nil 0 cells) e z cl) L (.cells ⟨cells' ++ rest⟩ e' (0, 0)) := by
  refine ⟨_, e', (0, 0), rfl, fun i v hi => ?_, fun hne => ?_, fun _ => rfl, fun off _ => by simp [frozenAt]⟩
  · rw [fill_get] at hi
    obtain ⟨v', h1, h2⟩ := hv.get i v hi
    refine ⟨v', ?_, h2⟩
    rw [hb, Nat.zero_add]
    have : i < cells'.length := (List.getElem?_eq_some_iff.1 h1).1
    simp [List.getElem?_append_left this, h1]
  · obtain ⟨h1, h2⟩ := hz hne
    exact ⟨h1, by simp [hb, h2]⟩

/-- A pointer, or a slice of so many, to a block's head. -/
def aMk (sl : Option Nat) (b : Nat) : Value := match sl with | none => .pointer (some ⟨b, 0, none⟩) | some n => .slice (some ⟨b, 0, none⟩) n (3 * n + 1)
def rMk (sl : Option Nat) (b : Nat) : Value := match sl with | none => .pointer (some ⟨b, 0, none⟩) | some n => .slice (some ⟨b, 0, none⟩) n n
theorem mk_VR {sl : Option Nat} {b : Nat} {L : Loc} (hL : ρ b = some L) (hb : L.base = 0) : VR ρ (aMk sl b) (rMk sl L.blk) := by
  cases sl with
  | none => have := VR.ptr (ρ := ρ) (o := 0) hL; rw [hb] at this; exact this
  | some n =>
    have := VR.slice (ρ := ρ) (o := 0) (n := n) (cc := 3 * n + 1) (c := n) hL (by omega) (by omega) (by omega) (by omega)
    rw [hb] at this; exact this

/-- An operation that makes a block that stands alone: the same in every world, but for the block's number. -/
def New0 (P : Program) (ρ : Ren) (a : Act) (o : Oper) (h : Heap) (v : Value) (h' : Heap) : Prop :=
  ∃ sl cells cells' e e', v = aMk sl h.next ∧ h' = h.alloc cells e 0 true ∧ VRL ρ cells cells' ∧
    ∀ w, (execOp a.eval o).run P w = .ok (.value (rMk sl w.heap.size)) { w with heap := w.heap.push (.cells ⟨cells'⟩ e' (0, 0)) }

theorem new_alloc {dst ty pos after guard} {e : TypeId} {z : List Value} (hz : zerosT P e = some z) (he : oAlloc e z t h = some (v, h')) : New0 P ρ a ⟨dst, .alloc e, ty, pos, after, guard⟩ h v h' := by
  obtain ⟨h1, h2⟩ := og_some.1 he
  obtain ⟨h3, h4⟩ := og_some.1 h2
  cases h4
  obtain ⟨u, hu, hc⟩ := zerosT_spec hz
  exact ⟨none, z, z, e, e, rfl, rfl, plains_refl h3 ρ, fun w => by simp [execOp, Instr.alloc, run_zeroT hu, newVar, newRow, hc, rMk]⟩
theorem new_box {dst ty pos after guard} {e : TypeId} {x : Operand} (hT : ∀ v, opd t x = some v → VR ρ v (a.eval x)) (he : oBox e x t h = some (v, h')) : New0 P ρ a ⟨dst, .box e x, ty, pos, after, guard⟩ h v h' := by
  obtain ⟨u, h1, h2⟩ := ob_some.1 he
  obtain ⟨h3, h4⟩ := og_some.1 h2
  cases h4
  exact ⟨none, cellsL u, (a.eval x).cells.toList, e, e, rfl, rfl, (hT _ h1).cells, fun w => by simp [execOp, Instr.box, newVar, newRow, rMk]⟩
theorem range_zero (z : List Value) : ∀ n, ((Array.range (n * z.length)).map ((⟨z⟩ : Array Value)[· % (⟨z⟩ : Array Value).size]!)) = ⟨repeatL z n⟩ := by
  intro n
  apply Array.ext'
  rw [repeatL_eq]
  simp only [Array.toList_map, Array.toList_range, List.size_toArray]
  induction n with
  | zero => simp
  | succ n ih =>
    rw [Nat.succ_mul, List.range_add, List.map_append, ih, List.replicate_succ', List.flatten_append]
    congr 1
    simp only [List.flatten_cons, List.flatten_nil, List.append_nil, List.map_map]
    apply List.ext_getElem?
    intro i
    by_cases hi : i < z.length
    · simp [hi, Nat.mod_eq_of_lt hi]
    · simp [hi]
theorem new_buildSlice {dst ty pos after guard} {s e : TypeId} {len n : Nat} {z : List Value} {ps : Array (Nat × Operand)} (hs : P.underlying s = some (.slice e)) (hn : sizeT P e = some n) (hz : zerosT P e = some z) (hn1 : 1 ≤ n) (hzn : z.length = n) (hmax : len * n ≤ 16777216)
    (hT : ∀ p ∈ ps.toList, ∀ v, opd t p.2 = some v → VR ρ v (a.eval p.2)) (he : oBuildSlice e len z (partsEach n ps.toList) t h = some (v, h')) : New0 P ρ a ⟨dst, .buildSlice s len ps, ty, pos, after, guard⟩ h v h' := by
  obtain ⟨h1, h2⟩ := og_some.1 he
  obtain ⟨cs, h3, h4⟩ := ob_some.1 h2
  obtain ⟨h5, h6⟩ := og_some.1 h4
  cases h6
  obtain ⟨u, hu, hc⟩ := zerosT_spec hz
  have hpl : ∀ (l : List (Nat × Operand)), Places (fun i => some (i * n, n)) l (partsEach n l) := by
    intro l
    induction l with
    | nil => trivial
    | cons p l ih => obtain ⟨i, x⟩ := p; exact ⟨rfl, rfl, ih⟩
  obtain ⟨r', g1, g2⟩ := fills_sound (a := a) _ ps.toList _ (repeatL z len) (repeatL z len) cs (plains_repeatL h1 ρ len) hT (hpl _) h3
  refine ⟨some len, cs, r', e, e, ?_, rfl, g1, fun w => ?_⟩
  · simp [aMk, Nat.mul_comm]
  · have hlim : ¬ len * n > 2 ^ 24 := by omega
    have hrange : ((Array.range (len * n)).map ((⟨z⟩ : Array Value)[· % (⟨z⟩ : Array Value).size]!)) = ⟨repeatL z len⟩ := by rw [← hzn]; exact range_zero z len
    have hmap : (ps.map fun (p : Nat × Operand) => (p.1, a.eval p.2)).toList = ps.toList.map fun p => (p.1, a.eval p.2) := by simp
    by_cases c : len * n = 0
    · have hlen : len = 0 := by rcases Nat.mul_eq_zero.1 c with h | h <;> omega
      subst hlen
      have hrep : repeatL z 0 = [] := rfl
      rw [hrep] at g2
      have hempty : ((Array.range (0 * n)).map fun x => (#[] : Array Value)[x % (#[] : Array Value).size]!) = ⟨[]⟩ := by simp
      simp only [execOp, Instr.buildSlice, Sem.run_bind, run_underlying hs, Result.andThen_ok, run_sizeT hn, if_neg hlim, if_pos c, Sem.run_pure, hempty, hmap, g2]
      simp [newRow, rMk]
    · simp only [execOp, Instr.buildSlice, Sem.run_bind, run_underlying hs, Result.andThen_ok, run_sizeT hn, if_neg hlim, if_neg c, Sem.run_pure, run_zeroT hu, hc, hrange, hmap, g2]
      simp [newRow, rMk]
end
end Go.Ev
