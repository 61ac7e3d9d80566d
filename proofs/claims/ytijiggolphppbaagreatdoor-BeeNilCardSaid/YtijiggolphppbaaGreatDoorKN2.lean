/- A piece of a run by the evaluator. -/
import Derived.Test.YtijiggolphppbaaGreatDoorKN
namespace Go.Proofs.YtijiggolphppbaaGreatDoor.Ev
set_option maxRecDepth 1000000
theorem rest55 : restB 5 5 = true := by kernel_rfl
theorem rest16 : restB 1 6 = true := by kernel_rfl
theorem rest26 : restB 2 6 = true := by kernel_rfl
theorem rest36 : restB 3 6 = true := by kernel_rfl
theorem rest46 : restB 4 6 = true := by kernel_rfl
theorem rest56 : restB 5 6 = true := by kernel_rfl
theorem rest66 : restB 6 6 = true := by kernel_rfl
end Go.Proofs.YtijiggolphppbaaGreatDoor.Ev
