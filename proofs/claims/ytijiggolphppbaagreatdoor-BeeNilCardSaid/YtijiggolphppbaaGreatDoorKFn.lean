/- The functions of the table are checked. -/
import Derived.Test.YtijiggolphppbaaGreatDoorKAt
import Derived.KernelRfl
namespace Go.Proofs.YtijiggolphppbaaGreatDoor.Ev
set_option maxRecDepth 1000000
theorem fns_all : fnsB g (fnL.map (·.2)) = true := by kernel_rfl
end Go.Proofs.YtijiggolphppbaaGreatDoor.Ev
