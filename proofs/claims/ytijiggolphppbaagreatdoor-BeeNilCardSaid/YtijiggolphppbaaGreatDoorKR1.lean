/- A piece of a run by the evaluator. -/
import Derived.Test.YtijiggolphppbaaGreatDoorKSt
import Derived.KernelRfl
namespace Go.Proofs.YtijiggolphppbaaGreatDoor.Ev
set_option maxRecDepth 1000000
theorem run1 : runB (withMemos g [m3]) 1000000 m1.f m1.args m1.σ m1.v m1.σ2 = true := by kernel_rfl
end Go.Proofs.YtijiggolphppbaaGreatDoor.Ev
