/- apiaryref02.consts and Of walked. -/
import Derived.Test.YtegappcdmaodjaaDoorSfC
import Derived.StillTailTactics
namespace Go.Proofs.YtegappcdmaodjaaDoor
open Go.RowKit

section
variable {P : Program} {w : World} {ops : Array Oper} {rest : List Oper} {o : Oper} {a : Act} {Q : Exit → Act → World → Prop}
theorem wpList_build1 (hg : o.guard = none) (t : TypeId) (xs : Array (Nat × Operand)) (hop : o.op = Op.build t xs) (z : Value) (hr : (Instr.build t (xs.map fun p => (p.1, a.eval p.2))).run P w = .ok z w)
    (h : wpList P ops Q rest (a.put o.dst z) w) : wpList P ops Q (o :: rest) a w := by
  refine wpList_plain hg fun K' hK' => ?_
  unfold Oper.wp
  have hr' : Sem.run P (Instr.build t (xs.map fun (i, x) => (i, a.eval x))) w = .ok z w := hr
  simp only [execOp, hop, Sem.run_bind, hr', Result.andThen, Sem.run_pure, Oper.upon]
  exact hK' _ _ h
end

set_option maxRecDepth 100000 in
set_option maxHeartbeats 2000000 in
theorem consts_any (w : World) : Calls Tryd.prog 48 #[] w (Rets (.agg (rowF 64 kf)) (Chg (fun _ => False) w)) := by
  go_enter Tryd.func48, Tryd.ntmps48
  go_wp2_with (first | (refine wpList_alloc0 rfl 83 rfl zc83 (alloc83 _) ?_; intro w4 ha4 hs4 hc4) | (refine wpList_build1 rfl 83 _ rfl (.agg (rowF 64 kf)) (by kernel_rfl) ?_) | (refine wpList_store0 rfl 83 _ _ rfl w.heap.size zc83 (rowF 64 kf) rfl rfl ha4 (by rw [rowF_size]; exact size83) rfl (rowF_one _ _) ?_; intro w5 ha5 hs5 hc5))
  refine bodyPost_ret (v := .agg (rowF 64 kf)) ?_ rfl ⟨rfl, ?_⟩
  · refine results_row Tryd.results48 _ _ w.heap.size rfl _ (run_loadVar_row _ w.heap.size 83 83 _ (0, 0) (.array 64 72) ha5 Tryd.underlying83 rfl (by rw [rowF_size]; kernel_rfl))
  · exact hc4.trans hc5 (fun i hi h => by omega)
end Go.Proofs.YtegappcdmaodjaaDoor
