/- A piece of a run by the evaluator. -/
import Derived.Test.YtijiggolphppbaaGreatDoorKSt
import Derived.KernelRfl
namespace Go.Proofs.YtijiggolphppbaaGreatDoor.Ev
set_option maxRecDepth 1000000
theorem run3 : runB g 1000000 m3.f m3.args m3.σ m3.v m3.σ2 = true := by kernel_rfl
end Go.Proofs.YtijiggolphppbaaGreatDoor.Ev
