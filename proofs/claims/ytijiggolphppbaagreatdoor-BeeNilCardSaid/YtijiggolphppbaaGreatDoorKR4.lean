/- A piece of a run by the evaluator. -/
import Derived.Test.YtijiggolphppbaaGreatDoorKSt
import Derived.KernelRfl
namespace Go.Proofs.YtijiggolphppbaaGreatDoor.Ev
set_option maxRecDepth 1000000
theorem run4 : runB (withMemos g [m3]) 1000000 m4.f m4.args m4.σ m4.v m4.σ2 = true := by kernel_rfl
end Go.Proofs.YtijiggolphppbaaGreatDoor.Ev
