/- The types of the table are the program's. -/
import Derived.Test.YtijiggolphppbaaGreatDoorKAt
import Derived.KernelRfl
namespace Go.Proofs.YtijiggolphppbaaGreatDoor.Ev
set_option maxRecDepth 1000000
theorem tys_all : tysB Go.Proofs.Tryz.prog tyL = true := by kernel_rfl
end Go.Proofs.YtijiggolphppbaaGreatDoor.Ev
