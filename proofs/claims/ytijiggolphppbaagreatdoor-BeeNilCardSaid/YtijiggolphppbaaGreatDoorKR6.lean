/- A piece of a run by the evaluator. -/
import Derived.Test.YtijiggolphppbaaGreatDoorKSt
import Derived.KernelRfl
namespace Go.Proofs.YtijiggolphppbaaGreatDoor.Ev
set_option maxRecDepth 1000000
theorem run6 : runB (withMemos g [m3]) 1000000 m6.f m6.args m6.σ m6.v m6.σ2 = true := by kernel_rfl
end Go.Proofs.YtijiggolphppbaaGreatDoor.Ev
