/- The code of the table is checked. -/
import Derived.Test.YtijiggolphppbaaGreatDoorKAt
import Derived.KernelRfl
namespace Go.Proofs.YtijiggolphppbaaGreatDoor.Ev
set_option maxRecDepth 1000000
theorem tyT_eq : tyT = buildT tyL := by kernel_rfl
theorem fnT_eq : fnT = buildT (fnL.map fun x => (x.1, ofF x.2)) := by kernel_rfl
theorem low_ty : lowB tyL = true := by kernel_rfl
theorem low_fn : lowB (fnL.map fun x => (x.1, ofF x.2)) = true := by kernel_rfl
end Go.Proofs.YtijiggolphppbaaGreatDoor.Ev
