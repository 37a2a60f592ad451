/- Operations with effects: what makes room. -/
import Derived.Test.YtifddfbiehmmoaaGreatDoorEvMap
import Derived.Laws.BitsLemmas
import Derived.Laws.AppendOwn
namespace Go.Ev
open Go
set_option linter.unusedSimpArgs false

/-- An effect, where the numbers of its new blocks are free. -/
def EffAt (P : Program) (ρ : Ren) (a : Act) (o : Oper) (w : World) (v : Value) (h h' : Heap) : Prop :=
  (∀ b, h.next ≤ b → b < h'.next → ρ b = none) → EffOk P ρ a o w v h h'

section
variable {P : Program} {ρ : Ren} {t : TM} {a : Act} {h h' : Heap} {v : Value} {w : World}

theorem new_next (h : Heap) (o : AObj) : (h.new o).next = h.next + 1 := rfl
theorem alloc_next (h : Heap) (vs : List Value) (e z : Nat) (cl : Bool) : (h.alloc vs e z cl).next = h.next + 1 := rfl

theorem eff_new {o : Oper} {ao : AObj} {r : Obj} {L : Loc} {n : Nat} {v v' : Value} (hm : HR ρ h.objs.get w) (hL : L.blk = w.heap.size) (hor : OR (ρ.add h.next L) ao L r)
    (hrun : (execOp a.eval o).run P w = .ok (.value v') { w with heap := w.heap.push r, drawn := n }) (hv : VR (ρ.add h.next L) v v') : EffAt P ρ a o w v h (h.new ao) := by
  intro hf
  have hnone := hf h.next (Nat.le_refl _) (Nat.lt_succ_self _)
  refine ⟨v', _, ρ.add h.next L, .inl hrun, hv, ?_, ?_, Nat.le_succ _⟩
  · rw [new_get]; exact (HR.new hm hnone hL hor).drew n
  · rw [new_get]
    have := Fr.add (m := h.objs.get) (o' := ao) (w := w) r hnone hL
    exact { this with }

theorem eff_makeMap {dst ty pos after guard} {s : TypeId} (hm : HR ρ h.objs.get w) (he : oMakeMap t h = some (v, h')) : EffAt P ρ a ⟨dst, .makeMap s none, ty, pos, after, guard⟩ w v h h' := by
  cases he
  refine eff_new (L := ⟨w.heap.size, 0, 0, 0⟩) (n := w.drawn) hm rfl ⟨#[], rfl, .nil⟩ (v' := .map (some w.heap.size)) ?_ ?_
  · simp [execOp, Instr.makeMap]
  · exact VR.map (ρ := ρ.add h.next ⟨w.heap.size, 0, 0, 0⟩) (r := h.next) (L := ⟨w.heap.size, 0, 0, 0⟩) (by simp [Ren.add])

theorem eff_rangeText {dst ty pos after guard} {s : TypeId} {x : Operand} (hm : HR ρ h.objs.get w) (hd : P.underlying s = some .string) (hx : ∀ v, opd t x = some v → VR ρ v (a.eval x))
    (he : oRangeText x t h = some (v, h')) : EffAt P ρ a ⟨dst, .range s x, ty, pos, after, guard⟩ w v h h' := by
  obtain ⟨u, h1, h2⟩ := ob_some.1 he
  obtain ⟨s', h3, h4⟩ := ob_some.1 h2
  cases h4
  rw [asText_some] at h3; subst h3
  have ex := (hx _ h1).string_inv
  refine eff_new (L := ⟨w.heap.size, 0, 0, 0⟩) (n := w.drawn) hm rfl ⟨rfl, rfl⟩ (v' := .pointer (some ⟨w.heap.size, 0, none⟩)) ?_ ?_
  · simp [execOp, Instr.range, ex, run_underlying hd]
  · exact VR.ptr (ρ := ρ.add h.next ⟨w.heap.size, 0, 0, 0⟩) (b := h.next) (o := 0) (L := ⟨w.heap.size, 0, 0, 0⟩) (by simp [Ren.add])

theorem eff_nextText {dst ty pos after guard} {x : Operand} (hm : HR ρ h.objs.get w) (hx : ∀ v, opd t x = some v → VR ρ v (a.eval x))
    (he : oNextText x t h = some (v, h')) : EffOk P ρ a ⟨dst, .next x true, ty, pos, after, guard⟩ w v h h' := by
  obtain ⟨u, h1, h2⟩ := ob_some.1 he
  obtain ⟨p, h3, h4⟩ := ob_some.1 h2
  obtain ⟨h5, h6⟩ := og_some.1 h4
  obtain ⟨o, h7, h8⟩ := ob_some.1 h6
  rw [asPtr_some] at h3; subst h3
  obtain ⟨b, off⟩ := p
  have h5 : off = 0 := Nat.eq_of_beq_eq_true h5
  subst h5
  obtain ⟨L, hL, ex⟩ := (hx _ h1).ptr_inv
  cases o with
  | cells => cases h8
  | map => cases h8
  | loop => cases h8
  | text s pos' =>
    obtain ⟨L', r, g1, g2, g3, g4⟩ := hm.obj _ _ h7
    rw [show ρ b = some L from hL] at g1; cases g1
    subst g3
    rw [g4] at ex
    have h8' : oi (Nat.ble (pos' + 1) s.data.toList.length)
      (some (.tuple ⟨[.bool true, .int .i64 pos', .int .i32 (Utf8.decode s pos').1]⟩, h.upd b (.text s (pos' + (Utf8.decode s pos').2))))
      (some (Value.tuple ⟨[.bool false]⟩, h)) = some (v, h') := h8
    have hsz : s.data.toList.length = s.size := rfl
    rw [oi_eq, hsz] at h8'
    by_cases c : pos' < s.size
    · rw [if_pos (Nat.ble_eq_true_of_le c)] at h8'
      cases h8'
      refine ⟨_, World.put w L.blk (.stringIter s (pos' + (Utf8.decode s pos').2)), ρ, .inl ?_, .tuple (.cons (.bool _) (.cons (.int _ _) (.cons (.int _ _) .nil))), ?_, ?_, Nat.le_refl _⟩
      · have hset : ∀ o, (setObj L.blk o).run P w = .ok () (World.put w L.blk o) := fun o => by simp [setObj, Sem.run, g2, World.put]
        have hget : (getObj L.blk).run P w = .ok (.stringIter s pos') w := by simp [getObj, Sem.run, g2]
        simp [execOp, Instr.next, ex, hget, c, hset, goInt]
      · rw [upd_get]; exact hm.upd ⟨_, h7⟩ hL ⟨rfl, g4⟩
      · rw [upd_get]; exact Fr.upd _ h7 hL _ _
    · rw [if_neg (fun hh => c (Nat.le_of_ble_eq_true hh))] at h8'
      cases h8'
      refine ⟨_, w, ρ, .inl ?_, .tuple (.cons (.bool _) .nil), hm, Fr.refl .., Nat.le_refl _⟩
      have hget : (getObj L.blk).run P w = .ok (.stringIter s pos') w := by simp [getObj, Sem.run, g2]
      simp [execOp, Instr.next, ex, hget, c]


theorem eff_makeSlice {dst ty pos after guard} {s e size bytes : Nat} {z : List Value} {l c : Operand} (hm : HR ρ h.objs.get w) (hd : P.underlying s = some (.slice e)) (hn : sizeT P e = some size) (hb : bytesT P e = some bytes) (hz : zerosT P e = some z) (hzn : z.length = size)
    (h1 : ∀ v, opd t l = some v → VR ρ v (a.eval l)) (h2 : ∀ v, opd t c = some v → VR ρ v (a.eval c)) (he : oMakeSlice e bytes z l c t h = some (v, h')) :
    EffAt P ρ a ⟨dst, .makeSlice s l c, ty, pos, after, guard⟩ w v h h' := by
  obtain ⟨_, he⟩ := og_some.1 he
  obtain ⟨hp, he⟩ := og_some.1 he
  obtain ⟨lv, g1, he⟩ := ob_some.1 he
  obtain ⟨cv, g2, he⟩ := ob_some.1 he
  obtain ⟨n, g3, he⟩ := ob_some.1 he
  obtain ⟨m, g4, he⟩ := ob_some.1 he
  obtain ⟨g5, he⟩ := og_some.1 he
  obtain ⟨g6, he⟩ := og_some.1 he
  cases he
  have g5 := Nat.le_of_ble_eq_true g5
  have g6 := Nat.le_of_ble_eq_true g6
  obtain ⟨k, rfl⟩ := idx_some.1 g3
  obtain ⟨k', rfl⟩ := idx_some.1 g4
  have el := (h1 _ g1).int_inv
  have ec := (h2 _ g2).int_inv
  obtain ⟨u, hu, hc⟩ := zerosT_spec hz
  obtain ⟨i, hi, hib⟩ := bytesT_spec hb
  have hm40 : m * bytes ≤ 1099511627776 := Nat.le_trans (Nat.mul_le_mul_left m (Nat.le_succ bytes)) g6
  have hm0 : m ≤ 1099511627776 := Nat.le_trans (Nat.le_mul_of_pos_right m (Nat.succ_pos bytes)) g6
  have wl : IntKind.i64.wrap (n : Int) = n := by rw [IntKind.wrap_i64]; omega
  have wc : IntKind.i64.wrap (m : Int) = m := by rw [IntKind.wrap_i64]; omega
  have hL : ∃ L : Loc, L = ⟨w.heap.size, 0, 0, 0⟩ := ⟨_, rfl⟩
  obtain ⟨L, eL⟩ := hL
  have hfr := eff_new (P := P) (a := a) (o := ⟨dst, .makeSlice s l c, ty, pos, after, guard⟩) (h := h) (ao := .cells (fillFrom .nil 0 (repeatL z m)) e 0 true) (r := .cells ⟨repeatL z m ++ []⟩ e (0, 0)) (L := L) (n := w.drawn) (v := .slice (some ⟨h.next, 0, none⟩) n (3 * m + 1)) (v' := .slice (some ⟨w.heap.size, 0, none⟩) n m) hm (by rw [eL])
    (OR.row (plains_repeatL hp _ m) (by rw [eL]) (fun hh => absurd rfl hh)) ?_ ?_
  · exact hfr
  · have t1 : ¬ ((m : Int) < 0) := by omega
    have t2 : ¬ (281474976710656 < (i.bytes : Int) * m) := by
      rw [hib, Int.mul_comm]
      omega
    have t3 : ¬ ((n : Int) < 0) := by omega
    have t4 : ¬ ((m : Int) < n) := by omega
    have hsz := run_sizeT hn
    by_cases c0 : m * size = 0
    · have hmz : repeatL z m = [] := List.length_eq_zero_iff.1 (by rw [length_repeatL, hzn]; exact c0)
      simp [execOp, el, ec, Instr.makeSlice, run_underlying hd, Go.asInt, Go.asIntOf, typeInfo, hi, wl, wc, t1, t2, t3, t4, hsz, c0, hmz, newRow]
      have hz0 : Array.map (fun _ => (default : Value)) (Array.range 0) = ⟨[]⟩ := by apply Array.ext'; simp
      rw [hz0]
    · have hmap := range_zero z m
      rw [hzn] at hmap
      simp only [List.size_toArray, List.getElem!_toArray, List.getElem!_eq_getElem?_getD] at hmap
      simp [execOp, el, ec, Instr.makeSlice, run_underlying hd, Go.asInt, Go.asIntOf, typeInfo, hi, wl, wc, t1, t2, t3, t4, hsz, c0, run_zeroT hu, hc, newRow, hmap]
  · have := VR.slice (ρ := ρ.add h.next L) (b := h.next) (o := 0) (n := n) (cc := 3 * m + 1) (c := m) (L := L) (by simp [Ren.add]) (by omega) (by omega) (by omega) (by omega)
    rw [eL] at this; simpa [eL] using this

/-! ### A text's bytes. -/
theorem bytes_list (s : ByteArray) : (s.data.map fun b => Value.int .u8 (b.toNat : Int)).toList = bytesVals s.data.toList := by rw [bytesVals_eq]; simp
theorem plains_bytesVals (l : List UInt8) : plains (bytesVals l) = true := by rw [bytesVals_eq]; exact plains_bytes l

theorem eff_bytesOf {dst ty pos after guard} {s d e : TypeId} {x : Operand} (hm : HR ρ h.objs.get w) (hs : P.underlying s = some .string) (hd : P.underlying d = some (.slice e)) (he8 : P.underlying e = some (.int .u8))
    (hx : ∀ v, opd t x = some v → VR ρ v (a.eval x)) (he : oBytesOf e x t h = some (v, h')) : EffAt P ρ a ⟨dst, .convert s d x, ty, pos, after, guard⟩ w v h h' := by
  obtain ⟨u, h1, h2⟩ := ob_some.1 he
  obtain ⟨s', h3, h4⟩ := ob_some.1 h2
  rw [asText_some] at h3; subst h3
  have hlen : lenL (bytesVals s'.data.toList) = s'.size := by rw [lenL_eq, bytesVals_eq]; simp
  rw [hlen] at h4
  cases h4
  have ex := (hx _ h1).string_inv
  obtain ⟨cap, ecap⟩ : ∃ cap, cap = grownCap w s'.size 0 e := ⟨_, rfl⟩
  have hge : s'.size ≤ cap := by rw [ecap]; exact grownCap_ge _ _ _ _
  obtain ⟨L, eL⟩ : ∃ L : Loc, L = ⟨w.heap.size, 0, 1, cap⟩ := ⟨_, rfl⟩
  have hv := plains_refl (plains_bytesVals s'.data.toList) (ρ.add h.next L)
  have hlen' : (bytesVals s'.data.toList).length = s'.size := by rw [← lenL_eq]; exact hlen
  refine eff_new (P := P) (a := a) (h := h) (ao := .cells (fillFrom .nil 0 (bytesVals s'.data.toList)) e 1 false) (r := .cells ⟨bytesVals s'.data.toList ++ List.replicate (cap - s'.size) (.int .u8 0)⟩ e (cap, cap + 1)) (L := L) (n := w.drawn + 1)
    (v' := .slice (some ⟨w.heap.size, 0, none⟩) s'.size cap) hm (by rw [eL]) ⟨_, e, _, rfl, fun i v hi => ?_, fun _ => ?_, ⟨fun hh => Bool.noConfusion hh, fun off hoff => ?_⟩⟩ ?_ ?_
  · rw [fill_get] at hi
    obtain ⟨v', g1, g2⟩ := hv.get i v hi
    have : i < (bytesVals s'.data.toList).length := (List.getElem?_eq_some_iff.1 g1).1
    exact ⟨v', by simp [eL, List.getElem?_append_left this, g1], g2⟩
  · rw [eL]; simp [hlen']; omega
  · have : off < cap := by simp [hlen'] at hoff; omega
    simp [frozenAt]; omega
  · have hq : (Question.appendCap s'.size 0 e).forced = false := rfl
    have hcut : (Question.appendCap s'.size 0 e).cut (w.tape w.drawn (.appendCap s'.size 0 e)) = cap := ecap.symm
    have harr : (Array.map (fun b : UInt8 => Value.int IntKind.u8 (b.toNat : Int)) s'.data ++ Array.replicate (cap - s'.size) (Value.int IntKind.u8 0)) = ⟨bytesVals s'.data.toList ++ List.replicate (cap - s'.size) (.int .u8 0)⟩ := by
      apply Array.ext'; simp [bytesVals_eq]
    have hsz : s'.size + (cap - s'.size) = cap := by omega
    simp only [execOp, ex, convert, Sem.run_bind, run_underlying hs, run_underlying hd, run_underlying he8, Result.andThen_ok, Conv.stringToBytes, run_choose, hq, Bool.false_eq_true, if_false, hcut, newRow, run_newObj, Sem.run_pure, markStringish, harr, run_shape, run_freeze]
    simp [World.shape?, World.freeze, hsz, hlen']
    apply Array.ext_getElem?
    intro i
    rw [Array.getElem?_modify, Array.getElem?_push, Array.getElem?_push]
    by_cases c : w.heap.size = i
    · subst c; simp
    · rw [if_neg c, if_neg (fun hh => c hh.symm), if_neg (fun hh => c hh.symm)]
  · have := VR.slice (ρ := ρ.add h.next L) (b := h.next) (o := 0) (n := s'.size) (cc := 3 * s'.size) (c := cap) (L := L) (by simp [Ren.add]) (by omega) (by omega) (by omega) (by rw [eL]; simp)
    rw [eL] at this
    simpa [eL, madeSlice] using this

/-! ### append. -/
theorem need_fits {need bytes : Nat} (h : need * (bytes + 1) ≤ 1099511627776) : need ≤ 1099511627776 ∧ need * bytes ≤ 1099511627776 :=
  ⟨Nat.le_trans (Nat.le_mul_of_pos_right need (Nat.succ_pos bytes)) h, Nat.le_trans (Nat.mul_le_mul_left need (Nat.le_succ bytes)) h⟩

def storeBase (base : Option Addr) (k : Nat) (l : List Value) : Sem Unit := match base with | some b => storeCells (b.add k) l | none => pure ()

/-- What append does, where what is put behind is read already. -/
theorem run_appendWith {ats : Array TypeId} {ty st xt e size bytes : Nat} {z : Value} {y : Value} {sLen sCap n : Nat} {base : Option Addr} {new' old' : List Value} (zeros : Bool)
    (hst : ats[0]? = some st) (hxt : ats[1]? = some xt) (hd : P.underlying st = some (.slice e)) (hn : sizeT P e = some size) (hb : bytesT P e = some bytes) (hz : zeroT P e = some z)
    (hfit : (sLen + n) * (bytes + 1) ≤ 1099511627776)
    (hk : if zeros then (∃ k j, P.underlying xt = some (.int k) ∧ y = .int j (n : Int)) ∧ (Builtin.zeroCells z.cells n).toList = new' ∧ z.cells.size = size
      else (P.underlying xt = some .string ∨ ∃ d, P.underlying xt = some (.slice d)) ∧ (Builtin.lenOf y).run P w = .ok n w ∧ ∀ m, (Builtin.firstCells size n y).run P { w with drawn := m } = .ok ⟨new'⟩ { w with drawn := m })
    (hold : sCap < sLen + n → ∀ m, (Builtin.firstCells size sLen (.slice base sLen sCap)).run P { w with drawn := m } = .ok ⟨old'⟩ { w with drawn := m }) :
    (Builtin.append_ ats ty #[.slice base sLen sCap, y]).run P w =
      if sLen + n ≤ sCap then ((storeBase base (sLen * size) new').run P w).andThen fun _ w' => .ok (.slice base (sLen + n) sCap) w'
      else .ok (.slice (some ⟨w.heap.size, 0, none⟩) (sLen + n) (grownCap w (sLen + n) sCap e))
        { w with drawn := w.drawn + 1, heap := w.heap.push (.cells ⟨old' ++ new' ++ (Builtin.zeroCells z.cells (grownCap w (sLen + n) sCap e - (sLen + n))).toList⟩ e (0, 0)) } := by
  obtain ⟨i, hi, hib⟩ := bytesT_spec hb
  obtain ⟨i2, hi2, hsz⟩ := sizeT_spec hn
  rw [hi] at hi2; cases hi2
  have hsize := run_sizeT hn
  have hzero := run_zeroT hz
  obtain ⟨f1, f2⟩ := need_fits hfit
  have hq : (Question.appendCap (sLen + n) sCap e).forced = false := rfl
  have hw : { w with drawn := w.drawn } = w := rfl
  have hnx : sCap < sLen + n → ¬ (281474976710656 < Builtin.nextslicecap (sLen + n) sCap * i.bytes) := fun hc => by
    have := growslice_fits (bytes := i.bytes) hc (by rw [hib]; omega)
    omega
  have t4 : ¬ (9223372036854775807 < (sLen : Int) + (n : Int)) := by omega
  have h0' : sCap < sLen + n → (Builtin.firstCells size sLen (.slice base sLen sCap)).run P w.drew = .ok ⟨old'⟩ w.drew := fun hc => hold hc (w.drawn + 1)
  have hal : ∀ o, w.drew.alloc o = { w with drawn := w.drawn + 1, heap := w.heap.push o } := fun o => rfl
  have hsd : w.drew.heap.size = w.heap.size := rfl
  cases zeros with
  | true =>
    obtain ⟨⟨k, j, hux, rfl⟩, hnew, hzs⟩ : (∃ k j, P.underlying xt = some (.int k) ∧ y = .int j (n : Int)) ∧ (Builtin.zeroCells z.cells n).toList = new' ∧ z.cells.size = size := by simpa using hk
    have wn : IntKind.i64.wrap (n : Int) = n := by rw [IntKind.wrap_i64]; omega
    have f3 : n * bytes ≤ 1099511627776 := Nat.le_trans (Nat.mul_le_mul_right bytes (Nat.le_add_left n sLen)) f2
    have t2 : ¬ (281474976710656 < (n : Int) * i.bytes) := by rw [hib]; omega
    have t3 : ¬ ((n : Int) < 0) := by omega
    have hz0 : n * size = 0 → new' = [] := fun hh => by
      rw [← hnew]; simp only [Builtin.zeroCells, hzs, hh]; simp
    by_cases c : sLen + n ≤ sCap
    · rw [if_pos c]
      by_cases c0 : n * size = 0
      · rw [hz0 c0]
        cases base <;> simp [storeBase, Builtin.append_, hst, hxt, run_underlying hd, run_underlying hux, hsize, Go.asInt, Go.asIntOf, wn, t2, t3, typeInfo, hi, c, c0]
      · cases base <;> simp [storeBase, Builtin.append_, hst, hxt, run_underlying hd, run_underlying hux, hsize, Go.asInt, Go.asIntOf, wn, t2, t3, typeInfo, hi, c, c0, hzero, hnew]
    · rw [if_neg c]
      have hnx' := hnx (by omega)
      have h0 := h0' (by omega)
      by_cases c0 : n * size = 0
      · rw [hz0 c0]
        simp only [Builtin.append_, hst, hxt, run_underlying hd, run_underlying hux, hsize, Go.asInt, Go.asIntOf, wn, typeInfo, hi, List.getElem?_toArray, List.getElem?_cons_zero, List.getElem?_cons_succ]
        simp [run_underlying hd, run_underlying hux, hsize, wn, t2, t3, t4, typeInfo, hi, c, c0, hnx', hq, h0, hzero, newRow, grownCap, hal, hsd]
        refine congrArg (fun c => w.heap.push (Obj.cells c e (0, 0))) ?_; apply Array.ext'; simp
      · subst hnew
        simp only [Builtin.append_, hst, hxt, run_underlying hd, run_underlying hux, hsize, Go.asInt, Go.asIntOf, wn, typeInfo, hi, List.getElem?_toArray, List.getElem?_cons_zero, List.getElem?_cons_succ]
        simp [run_underlying hd, run_underlying hux, hsize, wn, t2, t3, t4, typeInfo, hi, c, c0, hnx', hq, h0, hzero, newRow, grownCap, hal, hsd]
        refine congrArg (fun c => w.heap.push (Obj.cells c e (0, 0))) ?_; apply Array.ext'; simp
  | false =>
    obtain ⟨hux, hlen, hfirst⟩ : (P.underlying xt = some .string ∨ ∃ d, P.underlying xt = some (.slice d)) ∧ (Builtin.lenOf y).run P w = .ok n w ∧ ∀ m, (Builtin.firstCells size n y).run P { w with drawn := m } = .ok ⟨new'⟩ { w with drawn := m } := by simpa using hk
    have h1 : (Builtin.firstCells size n y).run P w.drew = .ok ⟨new'⟩ w.drew := hfirst (w.drawn + 1)
    have h2 : (Builtin.firstCells size n y).run P w = .ok ⟨new'⟩ w := hfirst w.drawn
    by_cases c : sLen + n ≤ sCap
    · rw [if_pos c]
      rcases hux with hux | ⟨d, hux⟩
      · cases base <;> simp [storeBase, Builtin.append_, hst, hxt, run_underlying hd, run_underlying hux, hsize, hlen, c, h2]
      · cases base <;> simp [storeBase, Builtin.append_, hst, hxt, run_underlying hd, run_underlying hux, hsize, hlen, c, h2]
    · rw [if_neg c]
      have hnx' := hnx (by omega)
      have h0 := h0' (by omega)
      rcases hux with hux | ⟨d, hux⟩
      · simp [Builtin.append_, hst, hxt, run_underlying hd, run_underlying hux, hsize, hlen, c, h1, h0, t4, hnx', hq, hzero, newRow, grownCap, typeInfo, hi, hal, hsd]
        refine congrArg (fun c => w.heap.push (Obj.cells c e (0, 0))) ?_; apply Array.ext'; simp
      · simp [Builtin.append_, hst, hxt, run_underlying hd, run_underlying hux, hsize, hlen, c, h1, h0, t4, hnx', hq, hzero, newRow, grownCap, typeInfo, hi, hal, hsd]
        refine congrArg (fun c => w.heap.push (Obj.cells c e (0, 0))) ?_; apply Array.ext'; simp

/-- A block that may grow. -/
theorem kill_get (h : Heap) (b : Nat) : (h.kill b).objs.get = fun x => if b = x then none else h.objs.get x := by funext x; exact T.get_put _ _ _ _

theorem allOne_right : ∀ {l m : List Value}, allOne (l ++ m) = true → allOne m = true
  | [], _, h => h
  | v :: l, m, h => by
    have h' : oi (one v) (allOne (l ++ m)) false = true := h
    cases hv : one v with
    | false => rw [hv] at h'; cases h'
    | true => rw [hv] at h'; exact allOne_right h'

theorem zeroCells_length (z : Array Value) (n : Nat) : (Builtin.zeroCells z n).toList.length = n * z.size := by simp [Builtin.zeroCells]

theorem Fr.sub {m m' : Objs} (hs : ∀ b o, m' b = some o → m b = some o) (lo hi : Nat) : Fr ρ m w ρ m' w lo hi :=
  ⟨ρ.le_refl, fun _ _ h => .inl h, Nat.le_refl _, fun _ _ _ => rfl, fun b o L h h' => .inl ⟨b, o, L, hs b o h, h', rfl⟩, rfl, rfl, rfl⟩

/-- A new row behind append. -/
theorem grow_fresh {o : Oper} {e size need n : Nat} {h0 : Heap} {cells cells' rest : List Value} {cap : Nat} {cl : Bool} (hm : HR ρ h.objs.get w) (h0n : h0.next = h.next) (h0s : ∀ b o, h0.objs.get b = some o → h.objs.get b = some o)
    (hc : VRL ρ cells cells') (hlen : cells.length = need * size) (hrest : need * size + rest.length = cap * size) (hcap : need ≤ cap)
    (hrun : (execOp a.eval o).run P w = .ok (.value (.slice (some ⟨w.heap.size, 0, none⟩) need cap)) { w with drawn := n, heap := w.heap.push (.cells ⟨cells' ++ rest⟩ e (0, 0)) }) :
    EffAt P ρ a o w (madeSlice h need) h (h0.alloc cells e size cl) := by
  intro hf
  have hnx : (h0.alloc cells e size cl).next = h.next + 1 := by rw [alloc_next, h0n]
  have hnone := hf h.next (Nat.le_refl _) (by rw [hnx]; exact Nat.lt_succ_self _)
  obtain ⟨L, eL⟩ : ∃ L : Loc, L = ⟨w.heap.size, 0, size, cap * size⟩ := ⟨_, rfl⟩
  have hLb : L.blk = w.heap.size := by rw [eL]
  have hle := Ren.le_add hnone L
  have hor : OR (ρ.add h.next L) (.cells (fillFrom .nil 0 cells) e size cl) L (.cells ⟨cells' ++ rest⟩ e (0, 0)) :=
    OR.row (hc.mono hle) (by rw [eL]) (fun _ => by rw [eL]; exact ⟨rfl, by rw [← hc.length, hlen]; exact hrest.symm⟩)
  refine ⟨_, _, ρ.add h.next L, .inl hrun, ?_, ?_, ?_, by rw [hnx]; exact Nat.le_succ _⟩
  · have := VR.slice (ρ := ρ.add h.next L) (b := h.next) (o := 0) (n := need) (cc := 3 * need) (c := cap) (L := L) (by simp [Ren.add]) (by omega) (by omega) (by omega) (by rw [eL]; simp)
    rw [eL] at this ⊢; simpa [madeSlice] using this
  · rw [alloc_get, h0n]
    exact (HR.new (hm.sub h0s) hnone hLb hor).drew n
  · rw [alloc_get, h0n, hnx]
    have f1 : Fr ρ h.objs.get w ρ h0.objs.get w h.next h.next := Fr.sub h0s _ _
    have f2 := Fr.add (m := h0.objs.get) (o' := .cells (fillFrom .nil 0 cells) e size cl) (w := w) (.cells ⟨cells' ++ rest⟩ e (0, 0)) hnone hLb
    have f3 := Fr.trans (Nat.le_refl _) (Nat.le_succ _) f1 f2
    exact { f3 with }

/-- Behind append, in the row that is there. -/
theorem grow_there {o : Oper} {e size need m off b c : Nat} {new' : List Value} {old new : List Value} {cc0 : T Value} {e0 z : Nat} {cl : Bool} {L : Loc} (hm : HR ρ h.objs.get w) (hb : h.objs.get b = some (.cells cc0 e0 z cl)) (hL : ρ b = some L)
    (hold : h.read b off (m * size) = some old) (hnew : VRL ρ new new') (hlen : (old ++ new).length = need * size) (hz : z = size) (hcap : need ≤ c) (h4 : off + c * L.esz = L.cells) (ho : allOne (old ++ new) = true)
    (hrun : ∀ w', (storeCells ((⟨L.blk, L.base + off, none⟩ : Addr).add (m * size)) new').run P w = .ok () w' → (execOp a.eval o).run P w = .ok (.value (.slice (some ⟨L.blk, L.base + off, none⟩) need c)) w') :
    EffAt P ρ a o w (madeSlice h need) h ((h.kill b).alloc (old ++ new) e size cl) := by
  intro hf
  obtain ⟨cc1, e1, z1, cl1, q1, q2⟩ := read_some hold
  rw [hb] at q1; cases q1
  obtain ⟨L1, r, g1, g2, C, e', fz, rfl, g3, g4, g5, g6⟩ := hm.obj b _ hb
  rw [hL] at g1; cases g1
  obtain ⟨k1, k2⟩ := readFrom_some q2
  have hlo := hnew.length
  have hnone := hf h.next (Nat.le_refl _) (Nat.lt_succ_self _)
  obtain ⟨L', eL'⟩ : ∃ L' : Loc, L' = ⟨L.blk, L.base + off, L.esz, L.cells - off⟩ := ⟨_, rfl⟩
  have hle := Ren.le_add hnone L'
  rw [List.length_append, k1] at hlen
  have hst : (storeCells ((⟨L.blk, L.base + off, none⟩ : Addr).add (m * size)) new').run P w = .ok () (World.put w L.blk (.cells (setRow C (L.base + off + m * size) new') e' fz)) := by
    rw [addr_add]
    cases new' with
    | nil => simp only [storeCells, setRow, put_self g2]; rfl
    | cons v0 vs0 =>
      have hs0 : size ≠ 0 := fun hh => by
        rw [hh] at hlen
        simp only [hlo, List.length_cons, Nat.mul_zero] at hlen
        omega
      obtain ⟨i1, i2⟩ := g4 (by rw [hz]; exact hs0)
      have hfit : L.base + off + m * size + 0 + (v0 :: vs0).length ≤ C.size := by
        rw [← i2, ← h4, i1, hz, ← hlo]
        have : need * size ≤ c * size := Nat.mul_le_mul_right _ hcap
        omega
      have hone : ∀ v ∈ (v0 :: vs0), v.oneCell' = true := hnew.allOne (allOne_right ho)
      have := run_storeCells P L.blk (L.base + off + m * size) e' fz (v0 :: vs0) 0 C w g2 hfit g6 hone
      rw [Nat.add_zero] at this
      exact this
  refine ⟨_, _, ρ.add h.next L', .inl (hrun _ hst), ?_, ?_, ?_, Nat.le_succ _⟩
  · have := VR.slice (ρ := ρ.add h.next L') (b := h.next) (o := 0) (n := need) (cc := 3 * need) (c := c) (L := L') (by simp [Ren.add]) (by omega) (by omega) (by omega) (by rw [eL']; simp; omega)
    rw [eL'] at this ⊢; simpa [madeSlice] using this
  · rw [alloc_get, kill_get]
    have hblt : L.blk < w.heap.size := (Array.getElem?_eq_some_iff.1 g2).1
    refine ⟨fun x ox hx => ?_, fun x y p q M N hx hy hM hN exy => ?_⟩
    · by_cases hxn : h.next = x
      · subst hxn
        simp [Heap.kill] at hx; subst hx
        refine ⟨L', .cells (setRow C (L.base + off + m * size) new') e' fz, by simp [Ren.add], by rw [eL']; exact put_get _ g2, _, e', fz, rfl, fun i v hi => ?_, fun hne => ?_, g5, by simpa using g6⟩
        · rw [fill_get] at hi
          rw [getElem?_setRow, show L'.base = L.base + off by rw [eL']]
          by_cases c1 : i < m * size
          · rw [List.getElem?_append_left (by rw [k1]; exact c1)] at hi
            obtain ⟨v', r1, r2⟩ := g3 _ _ (k2 _ _ hi)
            rw [if_neg (by omega)]
            refine ⟨v', ?_, r2.mono hle⟩
            rw [← r1]; congr 1; omega
          · rw [List.getElem?_append_right (by rw [k1]; omega), k1] at hi
            obtain ⟨v', r1, r2⟩ := hnew.get _ _ hi
            have hlt : i - m * size < new'.length := (List.getElem?_eq_some_iff.1 r1).1
            have hs0 : size ≠ 0 := fun hh => by
              rw [hh] at hlen; simp only [Nat.mul_zero] at hlen; omega
            obtain ⟨i1, i2⟩ := g4 (by rw [hz]; exact hs0)
            have : need * size ≤ c * size := Nat.mul_le_mul_right _ hcap
            rw [i1, hz] at h4
            rw [if_pos (by omega), if_pos (by omega)]
            refine ⟨v', ?_, r2.mono hle⟩
            rw [← r1]; congr 1; omega
        · obtain ⟨i1, i2⟩ := g4 (by rw [hz]; exact hne)
          rw [eL']
          refine ⟨by rw [i1, hz], ?_⟩
          simp only [size_setRow]
          omega
      · simp only [if_neg (show ¬ (h.kill b).next = x from hxn)] at hx
        by_cases hxb : b = x
        · simp [hxb] at hx
        · rw [if_neg hxb] at hx
          obtain ⟨M, r, j1, j2, j3⟩ := hm.obj x ox hx
          have hne : L.blk ≠ M.blk := fun ee => hxb (hm.inj b x _ ox L M hb hx hL j1 ee)
          exact ⟨M, r, hle _ _ j1, by simp [World.put, Array.getElem?_setIfInBounds_ne hne, j2], j3.mono hle⟩
    · have key : ∀ x p M, (if (h.kill b).next = x then some (AObj.cells (fillFrom .nil 0 (old ++ new)) e size cl) else if b = x then none else h.objs.get x) = some p → (ρ.add h.next L') x = some M →
          (x = h.next ∧ M.blk = L.blk) ∨ (x ≠ h.next ∧ x ≠ b ∧ h.objs.get x = some p ∧ ρ x = some M) := fun x p M hx hM => by
        by_cases hxn : h.next = x
        · subst hxn
          simp [Ren.add] at hM
          exact .inl ⟨rfl, by rw [← hM, eL']⟩
        · rw [if_neg (show ¬ (h.kill b).next = x from hxn)] at hx
          by_cases hxb : b = x
          · simp [hxb] at hx
          · rw [if_neg hxb] at hx
            exact .inr ⟨fun e => hxn e.symm, fun e => hxb e.symm, hx, by simpa [Ren.add, hxn] using hM⟩
      rcases key x p M hx hM with ⟨u1, u2⟩ | ⟨u1, u2, u3, u4⟩ <;> rcases key y q N hy hN with ⟨v1, v2⟩ | ⟨v1, v2, v3, v4⟩
      · rw [u1, v1]
      · exact absurd (hm.inj b y _ q L N hb v3 hL v4 (by rw [← u2]; exact exy)).symm v2
      · exact absurd (hm.inj b x _ p L M hb u3 hL u4 (by rw [← v2]; exact exy.symm)).symm u2
      · exact hm.inj x y p q M N u3 v3 u4 v4 exy
  · rw [alloc_get, kill_get]
    refine ⟨hle, fun x M hx => ?_, by simp [World.put], fun r hr hj => ?_, fun x p M hx hM => ?_, rfl, rfl, rfl⟩
    · by_cases hxn : h.next = x
      · exact .inr ⟨Nat.le_of_eq hxn, by rw [alloc_next]; show x < h.next + 1; omega⟩
      · exact .inl (by simpa [Ren.add, hxn] using hx)
    · have hne : L.blk ≠ r := hj b _ L hb hL
      simp [World.put, Array.getElem?_setIfInBounds_ne hne]
    · by_cases hxn : h.next = x
      · subst hxn
        simp [Ren.add] at hM
        exact .inl ⟨b, _, L, hb, hL, by rw [← hM, eL']⟩
      · rw [if_neg (show ¬ (h.kill b).next = x from hxn)] at hx
        replace hx : (if b = x then none else h.objs.get x) = some p := hx
        by_cases hxb : b = x
        · simp [hxb] at hx
        · rw [if_neg hxb] at hx
          exact .inl ⟨x, p, M, hx, by simpa [Ren.add, hxn] using hM, rfl⟩

theorem kill_sub (h : Heap) (b : Nat) : ∀ x o, (h.kill b).objs.get x = some o → h.objs.get x = some o := fun x o hx => by
  rw [kill_get] at hx
  replace hx : (if b = x then none else h.objs.get x) = some o := hx
  by_cases c : b = x
  · simp [c] at hx
  · rwa [if_neg c] at hx

/-- append, where what is put behind is read. -/
theorem eff_appendV {dst ty pos after guard} {ats : Array TypeId} {s x : Operand} {st xt e size bytes n : Nat} {zl : List Value} {sv : Value} {new new' : List Value} (zeros : Bool) (hm : HR ρ h.objs.get w)
    (hst : ats[0]? = some st) (hxt : ats[1]? = some xt) (hd : P.underlying st = some (.slice e)) (hn : sizeT P e = some size) (hb : bytesT P e = some bytes) (hz : zerosT P e = some zl) (hzl : zl.length = size)
    (hs : VR ρ sv (a.eval s)) (hnew : VRL ρ new new') (hlen : new.length = n * size)
    (hk : if zeros then (∃ k j, P.underlying xt = some (.int k) ∧ a.eval x = .int j (n : Int)) ∧ new' = repeatL zl n
      else (P.underlying xt = some .string ∨ ∃ d, P.underlying xt = some (.slice d)) ∧ (Builtin.lenOf (a.eval x)).run P w = .ok n w ∧ ∀ m, (Builtin.firstCells size n (a.eval x)).run P { w with drawn := m } = .ok ⟨new'⟩ { w with drawn := m })
    (he : appendV h e size bytes sv n new = some (v, h')) : EffAt P ρ a ⟨dst, .call ⟨.builtin .append, #[s, x], ats⟩, ty, pos, after, guard⟩ w v h h' := by
  obtain ⟨q, h1, he⟩ := ob_some.1 he
  obtain ⟨h2, he⟩ := og_some.1 he
  rw [asSlice_some] at h1; subst h1
  obtain ⟨A, m, cc⟩ := q
  replace hs : VR ρ (.slice A m cc) (a.eval s) := hs
  have h2 : (m + n) * (bytes + 1) ≤ 1099511627776 := Nat.le_of_ble_eq_true h2
  replace he : oi (Nat.ble (m + n) (cc / 3)) (inPlace h size n m cc (m + n) (.slice A m cc) A new)
      (ob (readSlice h size m (.slice A m cc)) fun old => growFrom h e size (m + n) cc A (appL old new)) = some (v, h') := he
  obtain ⟨zu, hzu, hzc⟩ := zerosT_spec hz
  have hzz : (Builtin.zeroCells zu.cells n).toList = repeatL zl n := by
    have := congrArg Array.toList (range_zero zl n)
    rw [hzc]; simpa [Builtin.zeroCells] using this
  have hk' : if zeros then (∃ k j, P.underlying xt = some (.int k) ∧ a.eval x = .int j (n : Int)) ∧ (Builtin.zeroCells zu.cells n).toList = new' ∧ zu.cells.size = size
      else (P.underlying xt = some .string ∨ ∃ d, P.underlying xt = some (.slice d)) ∧ (Builtin.lenOf (a.eval x)).run P w = .ok n w ∧ ∀ m, (Builtin.firstCells size n (a.eval x)).run P { w with drawn := m } = .ok ⟨new'⟩ { w with drawn := m } := by
    cases zeros with
    | true => exact ⟨hk.1, by rw [hzz, hk.2], by rw [hzc]; simpa using hzl⟩
    | false => exact hk
  have hexec : ∀ base sLen sCap, a.eval s = .slice base sLen sCap → ∀ r w', (Builtin.append_ ats ty #[.slice base sLen sCap, a.eval x]).run P w = .ok r w' →
      (execOp a.eval ⟨dst, .call ⟨.builtin .append, #[s, x], ats⟩, ty, pos, after, guard⟩).run P w = .ok (.value r) w' := fun base sLen sCap es r w' hr => by
    simp only [execOp, resolve, invoke, builtin, Sem.run_bind, Sem.run_pure, Result.andThen_ok, List.map_toArray, List.map_cons, List.map_nil, es, hr]
  have hwith : ∀ base sCap old', (sCap < m + n → ∀ k, (Builtin.firstCells size m (.slice base m sCap)).run P { w with drawn := k } = .ok ⟨old'⟩ { w with drawn := k }) →
      (Builtin.append_ ats ty #[.slice base m sCap, a.eval x]).run P w = if m + n ≤ sCap then ((storeBase base (m * size) new').run P w).andThen fun _ w' => .ok (.slice base (m + n) sCap) w'
      else .ok (.slice (some ⟨w.heap.size, 0, none⟩) (m + n) (grownCap w (m + n) sCap e))
        { w with drawn := w.drawn + 1, heap := w.heap.push (.cells ⟨old' ++ new' ++ (Builtin.zeroCells zu.cells (grownCap w (m + n) sCap e - (m + n))).toList⟩ e (0, 0)) } := fun base sCap old' ho =>
    run_appendWith (P := P) (w := w) (ty := ty) (base := base) (sLen := m) (sCap := sCap) (old' := old') zeros hst hxt hd hn hb hzu h2 hk' ho
  have hzcs : zu.cells.size = size := by rw [hzc]; simpa using hzl
  have hrest : ∀ cap, m + n ≤ cap → (m + n) * size + (Builtin.zeroCells zu.cells (cap - (m + n))).toList.length = cap * size := fun cap hc => by
    rw [zeroCells_length, hzcs, ← Nat.add_mul]; congr 1; omega
  rw [oi_eq] at he
  by_cases c : m + n ≤ cc / 3
  · rw [if_pos (Nat.ble_eq_true_of_le c)] at he
    -- it fits surely
    have place : ∀ base sCap, a.eval s = .slice base m sCap → m + n ≤ sCap → ∀ w', (storeBase base (m * size) new').run P w = .ok () w' → (execOp a.eval ⟨dst, .call ⟨.builtin .append, #[s, x], ats⟩, ty, pos, after, guard⟩).run P w = .ok (.value (.slice base (m + n) sCap)) w' := fun base sCap es hc w' hw' => by
      have hr := hwith base sCap [] (fun hh => absurd hh (by omega))
      rw [if_pos hc, hw'] at hr
      exact hexec _ _ _ es _ _ hr
    intro _
    replace he : oi (isNoneA A) (og (Nat.beq n 0) (some (Value.slice A m cc, h))) (ob (ptrAt A) fun p => ob (h.write p.1 (p.2 + m * size) new) fun h' => some (.slice A (m + n) cc, h')) = some (v, h') := he
    cases A with
    | none =>
      obtain ⟨h6, he⟩ := og_some.1 (show og (Nat.beq n 0) (some (Value.slice none m cc, h)) = some (v, h') from he)
      obtain rfl : n = 0 := Nat.eq_of_beq_eq_true h6
      cases he
      have es : a.eval s = .slice none 0 0 ∧ m = 0 ∧ cc = 0 := by generalize a.eval s = y at hs; cases hs; exact ⟨rfl, rfl, rfl⟩
      obtain ⟨es, rfl, rfl⟩ := es
      exact ⟨_, w, ρ, .inl (place none 0 es (Nat.le_refl _) w rfl), .snil, hm, Fr.refl .., Nat.le_refl _⟩
    | some A =>
      obtain ⟨p, h6, he⟩ := ob_some.1 (show (ob (ptrAt (some A)) fun p => ob (h.write p.1 (p.2 + m * size) new) fun h' => some (Value.slice (some A) (m + n) cc, h')) = some (v, h') from he)
      rw [ptrAt_some] at h6; cases h6
      obtain ⟨b, off⟩ := p
      obtain ⟨k, h7, he⟩ := ob_some.1 he
      cases he
      cases hes : a.eval s with
      | slice base m' cap =>
        rw [hes] at hs
        cases hs with
        | slice hL g1 g2 g3 g4 =>
          obtain ⟨w', q1, q2, q3, q4⟩ := write_sound (P := P) hm h7 hL hnew
          rw [← Nat.add_assoc] at q1
          refine ⟨_, w', ρ, .inl (place _ _ hes (by omega) w' ?_), .slice hL c g2 g3 g4, q2, q4 _ _, by rw [q3]; exact Nat.le_refl _⟩
          simp only [storeBase, addr_add]; exact q1
        | slice0 g1 =>
          have hn0 : n = 0 := by omega
          subst hn0
          have : new = [] := List.length_eq_zero_iff.1 (by rw [hlen, Nat.zero_mul])
          subst this
          cases hnew
          obtain ⟨c0, e', z, cl, c', q1, q2, rfl⟩ := write_some h7
          cases q2
          have hsame : (h.upd b (.cells c0 e' z cl)).objs.get = h.objs.get := by
            rw [upd_get]; funext x; by_cases hxx : b = x
            · subst hxx; simp [q1]
            · simp [hxx]
          refine ⟨_, w, ρ, .inl (place _ _ hes (Nat.le_refl _) w ?_), .slice0 g1, by rw [hsame]; exact hm, by rw [hsame]; exact Fr.refl .., Nat.le_refl _⟩
          simp [storeBase, storeCells]
      | _ => rw [hes] at hs; cases hs
  · rw [if_neg (fun hh => c (Nat.le_of_ble_eq_true hh))] at he
    obtain ⟨old, h3, he⟩ := ob_some.1 he
    rw [appL_eq] at he
    obtain ⟨h4, he⟩ := og_some.1 he
    obtain ⟨h5, he⟩ := og_some.1 he
    rw [lenL_eq] at h4
    have h4 : (old ++ new).length = (m + n) * size := Nat.eq_of_beq_eq_true h4
    -- a new row
    have fresh : ∀ base sCap, a.eval s = .slice base m sCap → sCap < m + n → ∀ (h0 : Heap) (cl : Bool), h0.next = h.next → (∀ b o, h0.objs.get b = some o → h.objs.get b = some o) →
        EffAt P ρ a ⟨dst, .call ⟨.builtin .append, #[s, x], ats⟩, ty, pos, after, guard⟩ w (madeSlice h (m + n)) h (h0.alloc (old ++ new) e size cl) := fun base sCap es hc h0 cl hn0 hs0 => by
      rw [es] at hs
      obtain ⟨old', k1, k2, k3⟩ := run_firstAt (P := P) (w := w) hm hs (fun q hq => by cases hq; exact Nat.le_refl _) h3
      have hr := hwith base sCap old' (fun _ => k2)
      rw [if_neg (by omega)] at hr
      exact grow_fresh (cap := grownCap w (m + n) sCap e) (rest := (Builtin.zeroCells zu.cells (grownCap w (m + n) sCap e - (m + n))).toList) hm hn0 hs0 (k1.append hnew) h4 (hrest _ (grownCap_ge _ _ _ _)) (grownCap_ge _ _ _ _) (hexec _ _ _ es _ _ hr)
    replace he : oi (isNoneA A) (some (madeSlice h (m + n), h.alloc (old ++ new) e size true))
      (ob (ptrAt A) fun p => oi (Nat.beq (cc % 3) 1) (some (madeSlice h (m + n), h.alloc (old ++ new) e size true)) (og (Nat.beq (cc % 3) 0) (growKill h e size (m + n) p.1 (old ++ new)))) = some (v, h') := he
    cases A with
    | none =>
      cases he
      have es : a.eval s = .slice none 0 0 ∧ m = 0 := by generalize a.eval s = y at hs; cases hs; exact ⟨rfl, rfl⟩
      obtain ⟨es, rfl⟩ := es
      exact fresh none 0 es (by omega) h true rfl (fun _ _ hh => hh)
    | some A =>
      obtain ⟨p, h6, he0⟩ := ob_some.1 (show (ob (ptrAt (some A)) fun p => oi (Nat.beq (cc % 3) 1) (some (madeSlice h (m + n), h.alloc (old ++ new) e size true)) (og (Nat.beq (cc % 3) 0) (growKill h e size (m + n) p.1 (old ++ new)))) = some (v, h') from he)
      rw [ptrAt_some] at h6; cases h6
      obtain ⟨b, off⟩ := p
      have es : (∃ L cap, ρ b = some L ∧ a.eval s = .slice (some ⟨L.blk, L.base + off, none⟩) m cap ∧ cc / 3 ≤ cap ∧ (cc % 3 = 1 → cap = cc / 3) ∧ (cc % 3 = 0 → off + cap * L.esz = L.cells)) ∨ (m = 0 ∧ ∃ b' o', a.eval s = .slice (some ⟨b', o', none⟩) 0 0) := by
        generalize a.eval s = y at hs
        cases hs with
        | slice hL g1 g2 g3 g4 => exact .inl ⟨_, _, hL, rfl, g2, g3, g4⟩
        | slice0 => exact .inr ⟨rfl, _, _, rfl⟩
      replace he : oi (Nat.beq (cc % 3) 1) (some (madeSlice h (m + n), h.alloc (old ++ new) e size true)) (og (Nat.beq (cc % 3) 0) (growKill h e size (m + n) b (old ++ new))) = some (v, h') := he0
      rw [oi_eq] at he
      by_cases c1 : cc % 3 = 1
      · rw [if_pos (by rw [c1]; rfl)] at he
        cases he
        rcases es with ⟨L, cap, _, es, _, g3, _⟩ | ⟨rfl, b', o', es⟩
        · exact fresh _ _ es (by have := g3 c1; omega) h true rfl (fun _ _ hh => hh)
        · exact fresh _ _ es (by omega) h true rfl (fun _ _ hh => hh)
      · rw [if_neg (fun hh => c1 (Nat.eq_of_beq_eq_true hh))] at he
        obtain ⟨c2, he⟩ := og_some.1 he
        have c2 : cc % 3 = 0 := Nat.eq_of_beq_eq_true c2
        obtain ⟨ob0, h7, he⟩ := ob_some.1 he
        cases ob0 with
        | map => cases he
        | text => cases he
        | loop => cases he
        | cells cc0 e0 z cl =>
          obtain ⟨h8, he⟩ := og_some.1 (show og (Nat.beq z size) (og (Nat.beq e e0) (some (madeSlice h (m + n), (h.kill b).alloc (old ++ new) e size cl))) = some (v, h') from he)
          obtain ⟨_, he⟩ := og_some.1 he
          have h8 : z = size := Nat.eq_of_beq_eq_true h8
          cases he
          rcases es with ⟨L, cap, hL, es, g2, _, g4⟩ | ⟨rfl, b', o', es⟩
          · by_cases c3 : m + n ≤ cap
            · refine grow_there (need := m + n) (m := m) (off := off) (c := cap) hm h7 hL ?_ hnew h4 h8 c3 (g4 c2) h5 (fun w' hw' => ?_)
              · obtain ⟨p', j1, j2⟩ := ob_some.1 (show ob (ptrAt (some ⟨b, off, none⟩)) (fun p => h.read p.1 p.2 (m * size)) = some old from h3)
                rw [ptrAt_some] at j1; cases j1
                exact j2
              · have hr := hwith (some ⟨L.blk, L.base + off, none⟩) cap [] (fun hh => absurd hh (by omega))
                rw [if_pos c3] at hr
                have : (storeBase (some ⟨L.blk, L.base + off, none⟩) (m * size) new').run P w = .ok () w' := hw'
                rw [this] at hr
                exact hexec _ _ _ es _ _ hr
            · exact fresh _ _ es (by omega) (h.kill b) cl rfl (kill_sub h b)
          · exact fresh _ _ es (by omega) (h.kill b) cl rfl (kill_sub h b)

theorem eff_append {dst ty pos after guard} {ats : Array TypeId} {s x : Operand} {st xt e size bytes : Nat} {zl : List Value} (hm : HR ρ h.objs.get w)
    (hst : ats[0]? = some st) (hxt : ats[1]? = some xt) (hd : P.underlying st = some (.slice e)) (hn : sizeT P e = some size) (hb : bytesT P e = some bytes) (hz : zerosT P e = some zl) (hzl : zl.length = size)
    (hux : P.underlying xt = some .string ∨ ∃ d, P.underlying xt = some (.slice d)) (h1 : ∀ v, opd t s = some v → VR ρ v (a.eval s)) (h2 : ∀ v, opd t x = some v → VR ρ v (a.eval x))
    (he : oAppend e size bytes s x t h = some (v, h')) : EffAt P ρ a ⟨dst, .call ⟨.builtin .append, #[s, x], ats⟩, ty, pos, after, guard⟩ w v h h' := by
  obtain ⟨sv, g1, he⟩ := ob_some.1 he
  obtain ⟨xv, g2, he⟩ := ob_some.1 he
  obtain ⟨n, g3, he⟩ := ob_some.1 he
  obtain ⟨new, g4, he⟩ := ob_some.1 he
  have hv := h2 _ g2
  obtain ⟨new', k1, k2, k3⟩ := run_firstAt (P := P) (w := w) hm hv (fun q hq => by rw [g3] at hq; cases hq; exact Nat.le_refl _) g4
  exact eff_appendV false hm hst hxt hd hn hb hz hzl (h1 _ g1) k1 k3 ⟨hux, hv.lenV g3, k2⟩ he

theorem eff_appendZeros {dst ty pos after guard} {ats : Array TypeId} {s x : Operand} {st xt e size bytes : Nat} {zl : List Value} {k : IntKind} (hm : HR ρ h.objs.get w)
    (hst : ats[0]? = some st) (hxt : ats[1]? = some xt) (hd : P.underlying st = some (.slice e)) (hn : sizeT P e = some size) (hb : bytesT P e = some bytes) (hz : zerosT P e = some zl) (hzl : zl.length = size)
    (hux : P.underlying xt = some (.int k)) (h1 : ∀ v, opd t s = some v → VR ρ v (a.eval s)) (h2 : ∀ v, opd t x = some v → VR ρ v (a.eval x))
    (he : oAppendZeros e size bytes zl s x t h = some (v, h')) : EffAt P ρ a ⟨dst, .call ⟨.builtin .append, #[s, x], ats⟩, ty, pos, after, guard⟩ w v h h' := by
  obtain ⟨hp, he⟩ := og_some.1 he
  obtain ⟨sv, g1, he⟩ := ob_some.1 he
  obtain ⟨xv, g2, he⟩ := ob_some.1 he
  obtain ⟨n, g3, he⟩ := ob_some.1 he
  obtain ⟨_, he⟩ := og_some.1 he
  obtain ⟨_, he2⟩ := og_some.1 he
  obtain ⟨j, rfl⟩ := idx_some.1 g3
  exact eff_appendV true hm hst hxt hd hn hb hz hzl (h1 _ g1) (plains_repeatL hp ρ n) (by rw [length_repeatL, hzl]) ⟨⟨k, j, hux, (h2 _ g2).int_inv⟩, rfl⟩ he2
end
end Go.Ev
