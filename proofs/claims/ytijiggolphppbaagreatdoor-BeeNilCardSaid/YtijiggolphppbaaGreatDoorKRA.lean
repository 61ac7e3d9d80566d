/- A piece of a run by the evaluator. -/
import Derived.Test.YtijiggolphppbaaGreatDoorKSt
import Derived.KernelRfl
namespace Go.Proofs.YtijiggolphppbaaGreatDoor.Ev
set_option maxRecDepth 1000000
theorem runA : (match call (withMemos (withMemos g [m3]) [m0, m1, m2, m4, m5, m6]) 1000000 4 [] ⟨.leaf, 7⟩ with | some (.bool true, _) => true | _ => false) = true := by kernel_rfl
end Go.Proofs.YtijiggolphppbaaGreatDoor.Ev
