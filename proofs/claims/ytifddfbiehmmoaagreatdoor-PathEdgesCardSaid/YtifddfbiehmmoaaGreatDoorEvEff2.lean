/- Operations with effects. -/
import Derived.Test.YtifddfbiehmmoaaGreatDoorEvEff
namespace Go.Ev
open Go
set_option linter.unusedSimpArgs false

def EffOk (P : Program) (ρ : Ren) (a : Act) (o : Oper) (w : World) (v : Value) (h h' : Heap) : Prop :=
  ∃ v' w' ρ', ((execOp a.eval o).run P w = .ok (.value v') w' ∨ ((execOp a.eval o).run P w = .ok .skip w' ∧ v' = undef)) ∧ VR ρ' v v' ∧ HR ρ' h'.objs.get w' ∧
    Fr ρ h.objs.get w ρ' h'.objs.get w' h.next h'.next ∧ h.next ≤ h'.next

section
variable {P : Program} {ρ : Ren} {t : TM} {a : Act} {h h' : Heap} {v : Value} {w : World}

theorem eff_store {dst ty pos after guard} {s : TypeId} {n : Nat} {x y : Operand} (hm : HR ρ h.objs.get w) (hn : sizeT P s = some n) (hx : ∀ v, opd t x = some v → VR ρ v (a.eval x)) (hy : ∀ v, opd t y = some v → VR ρ v (a.eval y))
    (he : oStore n x y t h = some (v, h')) : EffOk P ρ a ⟨dst, .store s x y, ty, pos, after, guard⟩ w v h h' := by
  obtain ⟨u, h1, h2⟩ := ob_some.1 he
  obtain ⟨p, h3, h4⟩ := ob_some.1 h2
  obtain ⟨u2, h5, h6⟩ := ob_some.1 h4
  obtain ⟨h7, h8⟩ := og_some.1 h6
  obtain ⟨k, h9, h10⟩ := ob_some.1 h8
  cases h10
  rw [asPtr_some] at h3; subst h3
  rw [lenL_eq] at h7
  have h7 := Nat.eq_of_beq_eq_true h7
  obtain ⟨L, hL, ex⟩ := (hx _ h1).ptr_inv
  have hc := (hy _ h5).cells
  obtain ⟨w', g1, g2, g3, g4⟩ := write_sound (P := P) hm h9 hL hc
  refine ⟨undef, w', ρ, .inr ⟨?_, rfl⟩, VR.undef ρ, g2, g4 _ _, by rw [g3]; exact Nat.le_refl _⟩
  have hsz : ¬ (a.eval y).cells.size ≠ n := by rw [← Array.length_toList, ← hc.length, h7]; simp
  simp only [execOp, Instr.storeAt, Instr.sureAddr, ex, Sem.run_bind, Sem.run_pure, Result.andThen_ok, storeVar, run_sizeT hn, if_neg hsz, g1]

theorem plains_bytes : ∀ l : List UInt8, plains (l.map fun b => Value.int .u8 (b.toNat : Int)) = true
  | [] => rfl
  | _ :: l => plains_bytes l
theorem allOne_bytes : ∀ l : List UInt8, allOne (l.map fun b => Value.int .u8 (b.toNat : Int)) = true
  | [] => rfl
  | _ :: l => allOne_bytes l
theorem run_firstAt {n : Nat} {x y : Value} {size : Nat} {vs : List Value} (hm : HR ρ h.objs.get w) (hv : VR ρ x y) (hle : ∀ m, lenV x = some m → n ≤ m) (hr : readSlice h size n x = some vs) :
    ∃ vs', VRL ρ vs vs' ∧ (∀ q, (Builtin.firstCells size n y).run P { w with drawn := q } = .ok ⟨vs'⟩ { w with drawn := q }) ∧ vs.length = n * size := by
  cases x with
  | slice A m c =>
    have hr' : readBase h (n * size) A = some vs := hr
    cases A with
    | none =>
      have hr2 : og (Nat.beq (n * size) 0) (some []) = some vs := hr'
      obtain ⟨g1, g2⟩ := og_some.1 hr2
      cases g2
      have e : y = .slice none 0 0 := by cases hv; rfl
      subst e
      exact ⟨[], .nil, fun q => by simp [Builtin.firstCells], by simpa using (Nat.eq_of_beq_eq_true g1).symm⟩
    | some A =>
      obtain ⟨p, g1, g2⟩ := ob_some.1 (show ob (ptrAt (some A)) (fun p => h.read p.1 p.2 (n * size)) = some vs from hr')
      rw [ptrAt_some] at g1; cases g1
      obtain ⟨cc, e, z, cl, g3, g4⟩ := read_some g2
      have hl := (readFrom_some g4).1
      cases hv with
      | slice hL =>
        obtain ⟨vs', k1, k2, k3⟩ := hm.read g3 hL g4
        exact ⟨vs', k1, fun q => by simp [Builtin.firstCells, run_load_list (w := { w with drawn := q }) k2 k3], hl⟩
      | @slice0 _ b o _ hz =>
        have hn : n = 0 := by have := hle 0 rfl; omega
        subst hn
        rw [Nat.zero_mul] at g4 hl
        cases g4
        exact ⟨[], .nil, fun q => by simp [Builtin.firstCells, loadCells, loadCellsFrom], by simp⟩
  | string s =>
    have hr2 : og (Nat.beq size 1) (takeN n (bytesVals s.data.toList)) = some vs := hr
    obtain ⟨g1, g2⟩ := og_some.1 hr2
    obtain rfl := Nat.eq_of_beq_eq_true g1
    obtain ⟨g3, rfl⟩ := takeN_some g2
    rw [hv.string_inv, bytesVals_eq]
    rw [bytesVals_eq] at g3
    refine ⟨_, (plains_refl (plains_bytes _) ρ).take n, fun q => ?_, by rw [List.length_take]; omega⟩
    simp only [Builtin.firstCells, Sem.run_pure]
    congr 1
    apply Array.ext'
    simp [ByteArray.data_extract, List.extract_eq_take_drop, List.map_take]
  | _ => cases hr

theorem run_first {n : Nat} {x y : Value} {size : Nat} {vs : List Value} (hm : HR ρ h.objs.get w) (hv : VR ρ x y) (hle : ∀ m, lenV x = some m → n ≤ m) (hr : readSlice h size n x = some vs) :
    ∃ vs', VRL ρ vs vs' ∧ (Builtin.firstCells size n y).run P w = .ok ⟨vs'⟩ w ∧ vs.length = n * size :=
  let ⟨vs', h1, h2, h3⟩ := run_firstAt (P := P) hm hv hle hr
  ⟨vs', h1, h2 w.drawn, h3⟩

theorem VR.lenV {x y : Value} {n : Nat} (hv : VR ρ x y) (hn : Ev.lenV x = some n) : (Builtin.lenOf y).run P w = .ok n w := by
  cases x with
  | slice A m c => cases hn; obtain ⟨A', c', rfl⟩ := hv.slice_inv; rfl
  | string s => cases hn; rw [hv.string_inv]; simp [Builtin.lenOf, lenL_eq]
  | _ => cases hn

theorem lenV_slice {A : Option Addr} {n c : Nat} : lenV (.slice A n c) = some n := rfl

theorem eff_copy {dst ty pos after guard} {d s : Operand} {dt e size : Nat} {ats : Array TypeId} (hm : HR ρ h.objs.get w) (hats : ats[0]? = some dt) (hd : P.underlying dt = some (.slice e)) (hn : sizeT P e = some size)
    (hx : ∀ v, opd t d = some v → VR ρ v (a.eval d)) (hy : ∀ v, opd t s = some v → VR ρ v (a.eval s)) (he : oCopy size d s t h = some (v, h')) :
    EffOk P ρ a ⟨dst, .call ⟨.builtin .copy, #[d, s], ats⟩, ty, pos, after, guard⟩ w v h h' := by
  obtain ⟨dv, h1, h2⟩ := ob_some.1 he
  obtain ⟨sv, h3, h4⟩ := ob_some.1 h2
  have hv := hx _ h1
  have hs := hy _ h3
  unfold copyV at h4
  split at h4
  · rename_i base len c
    obtain ⟨m, h5, h6⟩ := ob_some.1 h4
    obtain ⟨vs, h7, h8⟩ := ob_some.1 h6
    have hmin : oi (Nat.ble m len) m len = Nat.min m len := by
      rw [oi_eq]
      by_cases hc : m ≤ len
      · rw [if_pos (Nat.ble_eq_true_of_le hc)]; exact (Nat.min_eq_left hc).symm
      · have : ¬ Nat.ble m len = true := fun hh => hc (Nat.le_of_ble_eq_true hh)
        rw [if_neg this]; exact (Nat.min_eq_right (by omega)).symm
    rw [hmin] at h7 h8
    obtain ⟨vs', g1, g2, g3⟩ := run_first (P := P) (w := w) hm hs (fun k hk => by rw [h5] at hk; cases hk; exact Nat.min_le_left _ _) h7
    have start : ∀ (A : Option Addr) (cap : Nat), a.eval d = .slice A len cap → (execOp a.eval ⟨dst, .call ⟨.builtin .copy, #[d, s], ats⟩, ty, pos, after, guard⟩).run P w =
        ((match A with | some b => storeCells b vs' | none => pure () : Sem Unit).run P w).andThen fun _ w' => .ok (.value (.int .i64 (Nat.min m len : Nat))) w' := by
      intro A cap ea
      have hlen := hs.lenV (P := P) (w := w) h5
      cases A with
      | none => simp [execOp, resolve, invoke, builtin, Builtin.copy_, hats, ea, run_underlying hd, hlen, run_sizeT hn, g2, goInt]
      | some b0 =>
        simp [execOp, resolve, invoke, builtin, Builtin.copy_, hats, ea, run_underlying hd, hlen, run_sizeT hn, g2, goInt]
        cases (storeCells b0 vs').run P w <;> rfl
    cases base with
    | none =>
      obtain ⟨k1, k2⟩ := og_some.1 (show og (Nat.beq (Nat.min m len * size) 0) (some (Value.int .i64 (.ofNat (Nat.min m len)), h)) = some (v, h') from h8)
      cases k2
      have ea : a.eval d = .slice none 0 0 ∧ len = 0 := by
        generalize a.eval d = y at hv
        cases hv; exact ⟨rfl, rfl⟩
      obtain ⟨ea, rfl⟩ := ea
      refine ⟨_, w, ρ, .inl ?_, .int _ _, hm, Fr.refl .., Nat.le_refl _⟩
      rw [start none 0 ea]; rfl
    | some A =>
      obtain ⟨b, o, sp⟩ := A
      cases sp with
      | some _ => cases h8
      | none =>
        obtain ⟨k, k1, k2⟩ := ob_some.1 (show (ob (h.write b o vs) fun h' => some (Value.int .i64 (.ofNat (Nat.min m len)), h')) = some (v, h') from h8)
        cases k2
        have ea : (∃ L cap, ρ b = some L ∧ a.eval d = .slice (some ⟨L.blk, L.base + o, none⟩) len cap) ∨ (len = 0 ∧ ∃ b' o', a.eval d = .slice (some ⟨b', o', none⟩) 0 0) := by
          generalize a.eval d = y at hv
          cases hv with
          | slice hL => exact .inl ⟨_, _, hL, rfl⟩
          | slice0 => exact .inr ⟨rfl, _, _, rfl⟩
        rcases ea with ⟨L, cap, hL, ea⟩ | ⟨rfl, b', o', ea⟩
        · obtain ⟨w', q1, q2, q3, q4⟩ := write_sound (P := P) hm k1 hL g1
          refine ⟨_, w', ρ, .inl ?_, .int _ _, q2, q4 _ _, by rw [q3]; exact Nat.le_refl _⟩
          rw [start _ cap ea]
          simp only [q1, Result.andThen_ok]; rfl
        · have h0 : Nat.min m 0 = 0 := Nat.min_zero m
          rw [h0, Nat.zero_mul] at g3
          have : vs = [] := List.length_eq_zero_iff.1 g3
          subst this
          cases g1
          obtain ⟨cc, e', z, cl, c', q1, q2, rfl⟩ := write_some k1
          cases q2
          have hsame : (h.upd b (.cells cc e' z cl)).objs.get = h.objs.get := by
            rw [upd_get]; funext x; by_cases hxx : b = x
            · subst hxx; simp [q1]
            · simp [hxx]
          refine ⟨_, w, ρ, .inl ?_, .int _ _, by rw [hsame]; exact hm, by rw [hsame]; exact Fr.refl .., Nat.le_refl _⟩
          rw [start _ 0 ea]
          simp [storeCells]
  · cases h4

theorem eff_clear {dst ty pos after guard} {x : Operand} {s e : Nat} {z : List Value} {ats : Array TypeId} (hm : HR ρ h.objs.get w) (hats : ats[0]? = some s) (hd : P.underlying s = some (.slice e)) (hz : zerosT P e = some z)
    (hT : ∀ v, opd t x = some v → VR ρ v (a.eval x)) (he : oClear z x t h = some (v, h')) : EffOk P ρ a ⟨dst, .call ⟨.builtin .clear, #[x], ats⟩, ty, pos, after, guard⟩ w v h h' := by
  obtain ⟨hp, h1⟩ := og_some.1 he
  obtain ⟨u, h2, h3⟩ := ob_some.1 h1
  have hv := hT _ h2
  obtain ⟨zu, hzu, hzc⟩ := zerosT_spec hz
  unfold clearV at h3
  split at h3
  · rename_i n c
    cases h3
    have ea : a.eval x = .slice none 0 0 := by generalize a.eval x = y at hv; cases hv; rfl
    exact ⟨.tuple #[], w, ρ, .inl (by simp [execOp, resolve, invoke, builtin, Builtin.clear_, hats, ea, run_underlying hd]), VR.undef ρ, hm, Fr.refl .., Nat.le_refl _⟩
  · rename_i b o n c
    have ea : (∃ L cap, ρ b = some L ∧ a.eval x = .slice (some ⟨L.blk, L.base + o, none⟩) n cap) ∨ (n = 0 ∧ ∃ b' o', a.eval x = .slice (some ⟨b', o', none⟩) 0 0) := by
      generalize a.eval x = y at hv
      cases hv with
      | slice hL => exact .inl ⟨_, _, hL, rfl⟩
      | slice0 => exact .inr ⟨rfl, _, _, rfl⟩
    rw [oi_eq] at h3
    by_cases hn : n = 0
    · subst hn
      simp at h3
      obtain ⟨rfl, rfl⟩ := h3
      have ea' : ∃ A cap, a.eval x = .slice A 0 cap := by
        rcases ea with ⟨L, cap, _, ea⟩ | ⟨_, b', o', ea⟩ <;> exact ⟨_, _, ea⟩
      obtain ⟨A, cap, ea'⟩ := ea'
      refine ⟨.tuple #[], w, ρ, .inl ?_, VR.undef ρ, hm, Fr.refl .., Nat.le_refl _⟩
      cases A <;> simp [execOp, resolve, invoke, builtin, Builtin.clear_, hats, ea', run_underlying hd]
    · rw [if_neg (by rw [beq_eq]; simpa using hn)] at h3
      obtain ⟨k, k1, k2⟩ := ob_some.1 h3
      cases k2
      rcases ea with ⟨L, cap, hL, ea⟩ | ⟨rfl, _⟩
      · obtain ⟨w', q1, q2, q3, q4⟩ := write_sound (P := P) hm k1 hL (plains_repeatL hp ρ n)
        refine ⟨.tuple #[], w', ρ, .inl ?_, VR.undef ρ, q2, q4 _ _, by rw [q3]; exact Nat.le_refl _⟩
        have hzz : (Builtin.zeroCells ⟨z⟩ n).toList = repeatL z n := by
          have := congrArg Array.toList (range_zero z n)
          simpa [Builtin.zeroCells] using this
        obtain ⟨m, rfl⟩ : ∃ m, n = m + 1 := ⟨n - 1, by omega⟩
        simp only [execOp, resolve, invoke, builtin, Builtin.clear_, hats, ea, Sem.run_bind, run_underlying hd, Result.andThen_ok, run_zeroT hzu, hzc, Sem.run_pure, List.map_toArray, List.map_cons, List.map_nil, List.getElem?_toArray, List.getElem?_cons_zero]
        rw [hzz, q1]; rfl
      · exact absurd rfl hn
  · cases h3
end
end Go.Ev
