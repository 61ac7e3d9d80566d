/- A piece of a run by the evaluator. -/
import Derived.Test.YtijiggolphppbaaGreatDoorKN
namespace Go.Proofs.YtijiggolphppbaaGreatDoor.Ev
set_option maxRecDepth 1000000
theorem rest24 : restB 2 4 = true := by kernel_rfl
theorem rest34 : restB 3 4 = true := by kernel_rfl
theorem rest44 : restB 4 4 = true := by kernel_rfl
theorem rest15 : restB 1 5 = true := by kernel_rfl
theorem rest25 : restB 2 5 = true := by kernel_rfl
theorem rest35 : restB 3 5 = true := by kernel_rfl
theorem rest45 : restB 4 5 = true := by kernel_rfl
end Go.Proofs.YtijiggolphppbaaGreatDoor.Ev
