/- A variable of an array type: made, and set to its zero, without its cells written out. -/
import Derived.Test.YtijiggolphppbaaGreatDoorBase
namespace Go.Proofs.YtijiggolphppbaaGreatDoor
open Go.RowKit
section
variable {P : Program} {w : World} {ops : Array Oper} {rest : List Oper} {o : Oper} {a : Act} {Q : Exit → Act → World → Prop}
theorem wpList_build0 (hg : o.guard = none) (t : TypeId) (hop : o.op = Op.build t #[]) (z : Value) (hr : (Instr.build t #[]).run P w = .ok z w)
    (h : wpList P ops Q rest (a.put o.dst z) w) : wpList P ops Q (o :: rest) a w := by
  refine wpList_plain hg fun K' hK' => ?_
  unfold Oper.wp
  simp only [execOp, hop, Sem.run_bind, List.map_toArray, List.map_nil, hr, Result.andThen, Sem.run_pure, Oper.upon]
  exact hK' _ _ h
theorem wpList_alloc0 (hg : o.guard = none) (t : TypeId) (hop : o.op = Op.alloc t) (zc : Array Value) (hr : (Instr.alloc t true (.tuple #[])).run P w = .ok (.pointer (some ⟨w.heap.size, 0, none⟩)) (w.alloc (.cells zc t)))
    (h : ∀ w', w'.heap[w.heap.size]? = some (.cells zc t (0, 0)) → w'.heap.size = w.heap.size + 1 → Chg (fun _ => False) w w' → wpList P ops Q rest (a.put o.dst (.pointer (some ⟨w.heap.size, 0, none⟩))) w') : wpList P ops Q (o :: rest) a w := by
  refine wpList_plain hg fun K' hK' => ?_
  unfold Oper.wp
  simp only [execOp, hop, Sem.run_bind, hr, Result.andThen, Sem.run_pure, Oper.upon]
  exact hK' _ _ (h _ (heap_alloc_new w _) (by simp) ((Chg.refl _ w).alloc _))
theorem wpList_store0 (hg : o.guard = none) (t : TypeId) (x y : Operand) (hop : o.op = Op.store t x y) (b : Nat) (c zc : Array Value) (hx : a.eval x = .pointer (some ⟨b, 0, none⟩)) (hy : a.eval y = .agg zc)
    (hb : w.heap[b]? = some (.cells c t (0, 0))) (hs : ∀ w, (sizeOf t).run P w = .ok zc.size w) (hc : zc.size = c.size) (h1 : zc.toList.all Value.oneCell' = true)
    (h : ∀ w', w'.heap[b]? = some (.cells zc t (0, 0)) → w'.heap.size = w.heap.size → Chg (fun k => k = b) w w' → wpList P ops Q rest (a.put o.dst undef) w') : wpList P ops Q (o :: rest) a w := by
  refine wpList_plain hg fun K' hK' => ?_
  have hst := run_storeCells_at P b 0 t zc.toList 0 c w hb (by simp [hc]) (fun v hv => List.all_eq_true.1 h1 v hv)
  have e : (c.toList.take (0 + 0) ++ zc.toList ++ c.toList.drop (0 + 0 + zc.toList.length)).toArray = zc := by
    have hd : List.drop c.size c.toList = [] := by rw [List.drop_eq_nil_iff]; simp
    simp [hc, hd]
  rw [e] at hst
  have hrun : (Instr.storeAt t (.pointer (some ⟨b, 0, none⟩)) (.agg zc)).run P w = .ok () (w.setRow b zc) := by
    simp [Instr.storeAt, Instr.sureAddr, storeVar, hs, Value.cells, hst]
  unfold Oper.wp
  simp only [execOp, hop, Sem.run_bind, hx, hy, hrun, Result.andThen, Sem.run_pure, Oper.upon]
  exact hK' _ _ (h _ (setRow_heap w b c zc t _ hb) (by simp [World.setRow]) ((Chg.refl (fun k => k = b) w).setRow (fun _ => rfl) _))
end
end Go.Proofs.YtijiggolphppbaaGreatDoor
