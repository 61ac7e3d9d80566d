/- BeeNil: what follows great, at numbers that can be. -/
import Derived.Test.YtijiggolphppbaaGreatDoorKAt
import Derived.Test.YtijiggolphppbaaGreatDoorEe
import Derived.KernelRfl
namespace Go.Proofs.YtijiggolphppbaaGreatDoor.Ev
open Go.Proofs
def sndC : Code → Code
  | .seq _ b => b
  | c => c
noncomputable def restC : Code := sndC (sndC (sndC (match Tryz.f3.body with | some c => c | none => .skip)))
def restL (me nodes : Int) : List AV := [.agg [.x 0, .x 1, .x 2], .int .i64 me, .int .i64 nodes, .ptr (some (7, 0)), un, un, .bool false, un, un, un, un, un, un, un, un, un, .bool true, .bool false, .agg [.x 0, .x 1, .x 2], .bool false]
def restS : St := ⟨T.set FU .leaf 7 (some (.cells 3 (cellsT FU 0 [.x 0, .x 1, .x 2] .leaf) 28)), 8⟩
noncomputable def restB (me nodes : Int) : Bool := match restR g 100000 restC Tryz.f3.results.toList (restL me nodes) restS with
  | some (.bool true, _) => true
  | _ => false
set_option maxRecDepth 1000000
theorem rest_code : codeOk g Tryz.f3.ntmps restC = true := by kernel_rfl
end Go.Proofs.YtijiggolphppbaaGreatDoor.Ev
