/- A text of this seat: the evaluator at work. -/
import Derived.Test.YtifddfbiehmmoaaGreatDoorEvHook
import Derived.Test.YtifddfbiehmmoaaGreatDoorProg
open Go Go.Ev Go.Proofs
namespace Go.Proofs.YtifddfbiehmmoaaGreatDoor.Seat
theorem mix : Tryz.prog.follows .mixedOrders = true := by kernel_rfl
theorem bits : HookOk Tryz.prog 39 f64bits := f64bits_ok (fn := Tryz.f39) Tryz.func39 (by kernel_rfl) rfl (by kernel_rfl) (by kernel_rfl)
theorem from_ : HookOk Tryz.prog 40 f64from := f64from_ok (fn := Tryz.f40) Tryz.func40 (by kernel_rfl) rfl (by kernel_rfl) (by kernel_rfl)
noncomputable def F0 : Fns := ⟨fnOf Tryz.prog, pickHook [(39, f64bits), (40, f64from)]⟩
theorem F0ok : FnsOk Tryz.prog F0 := fns_ok (by
  intro p hp
  rcases List.mem_cons.1 hp with rfl | hp
  · exact bits
  · rcases List.mem_cons.1 hp with rfl | hp
    · exact from_
    · cases hp)
end Go.Proofs.YtifddfbiehmmoaaGreatDoor.Seat
