/- A piece of a run by the evaluator. -/
import Derived.Test.YtijiggolphppbaaGreatDoorKN
namespace Go.Proofs.YtijiggolphppbaaGreatDoor.Ev
set_option maxRecDepth 1000000
theorem rest11 : restB 1 1 = true := by kernel_rfl
theorem rest12 : restB 1 2 = true := by kernel_rfl
theorem rest22 : restB 2 2 = true := by kernel_rfl
theorem rest13 : restB 1 3 = true := by kernel_rfl
theorem rest23 : restB 2 3 = true := by kernel_rfl
theorem rest33 : restB 3 3 = true := by kernel_rfl
theorem rest14 : restB 1 4 = true := by kernel_rfl
end Go.Proofs.YtijiggolphppbaaGreatDoor.Ev
