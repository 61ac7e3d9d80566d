/- A piece of a run by the evaluator. -/
import Derived.Test.YtijiggolphppbaaGreatDoorKSt
import Derived.KernelRfl
namespace Go.Proofs.YtijiggolphppbaaGreatDoor.Ev
set_option maxRecDepth 1000000
theorem run5 : runB (withMemos g [m3]) 1000000 m5.f m5.args m5.σ m5.v m5.σ2 = true := by kernel_rfl
end Go.Proofs.YtijiggolphppbaaGreatDoor.Ev
