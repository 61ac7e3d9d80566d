/- A row of bytes that may bear a conversion's mark; one byte appended. -/
import Derived.Test.YtijiggolphppbaaGreatDoorStE
import Derived.Lib.FrozenHead2
namespace Go.Proofs.YtijiggolphppbaaGreatDoor
open Go.RowKit

def bv8 (b : UInt8) : Value := .int .u8 (b.toNat : Nat)
/-- The slice v of n bytes is a row of the call's own; nothing within it is frozen. -/
def RowM (w : World) (v : Value) (l : List UInt8) : Prop :=
  ∃ g cap cur fz, v = .slice (some ⟨g, 0, none⟩) l.length cap ∧ w.heap[g]? = some (.cells cur 5 fz) ∧ (fz = (0, 0) ∨ cur.size ≤ fz.1) ∧ l.length ≤ cap ∧ cap ≤ maxLen ∧ cur.size = cap ∧ cur.toList.take l.length = l.map bv8
theorem RowM.len {w0 : World} {v : Value} {l : List UInt8} (h : RowM w0 v l) (w : World) (ty : TypeId) : (Builtin.len_ #[130] ty #[v]).run Tryz.prog w = .ok (.int .i64 l.length) w := by
  obtain ⟨g, cap, cur, fz, rfl, _⟩ := h
  simp [Builtin.len_, run_underlying Tryz.underlying130]; rfl
theorem RowM.chg {F : Nat → Prop} {w w' : World} {v : Value} {l : List UInt8} (h : RowM w v l) (hc : Chg F w w') (hF : ∀ k, v.ownBlock = some k → ¬ F k) : RowM w' v l := by
  obtain ⟨g, cap, cur, fz, rfl, hg, r⟩ := h
  exact ⟨g, cap, cur, fz, rfl, hc.obj hg (hF g rfl), r⟩
theorem RowM.lt {w : World} {v : Value} {l : List UInt8} (h : RowM w v l) : ∀ k, v.ownBlock = some k → k < w.heap.size := by
  obtain ⟨g, cap, cur, fz, rfl, hg, r⟩ := h
  intro k hk
  simp [Value.ownBlock] at hk
  subst hk
  exact heap_lt hg
theorem infoU8 : ∃ i, Tryz.prog.info? 5 = some i ∧ i.zero = some (.int .u8 0) ∧ i.size = 1 ∧ i.bytes = 1 := by
  obtain ⟨i, hi, h0, h3, h2⟩ := info_parts (P := Tryz.prog) (e := 5) (z := .int .u8 0) (size := 1) (bytes := 1) (by kernel_rfl)
  exact ⟨i, hi, h0, h3, h2⟩

theorem conv_row (w : World) (s : ByteArray) (hs : s.size ≤ maxLen) : ∃ v w1, (convert 9 130 (.string s)).run Tryz.prog w = .ok v w1 ∧ RowM w1 v s.data.toList ∧ Chg (fun _ => False) w w1 ∧ w1.heap.size = w.heap.size + 1 ∧ v.ownBlock = some w.heap.size := by
  have hge := grownCap_ge w s.size 0 5
  have hcs : (Lib.bytesCells w 5 s).size = grownCap w s.size 0 5 := by
    unfold Lib.bytesCells
    have : s.data.size = s.size := rfl
    simp only [Array.size_append, Array.size_map, Array.size_replicate]
    omega
  have hl : s.data.toList.length = s.size := by simp
  refine ⟨_, _, Lib.run_convert_string_bytes w _ _ 5 s Tryz.underlying9 Tryz.underlying130 Tryz.underlying5, ?_, ⟨rfl, rfl, rfl, by rw [Lib.bytesWorld_size]; omega, fun k hk _ => Lib.bytesWorld_at_old w _ s k hk⟩, Lib.bytesWorld_size w _ s, rfl⟩
  refine ⟨w.heap.size, _, _, _, by rw [hl], Lib.bytesWorld_at_new w _ s, .inr (Nat.le_refl _), by rw [hl]; exact hge, grownCap_le_maxLen w s.size 0 _ hs, hcs, ?_⟩
  unfold Lib.bytesCells
  rw [Array.toList_append, List.take_left' (by simp)]
  rw [Array.toList_map]
  rfl

theorem run_append1 (w : World) (ty : TypeId) (v : Value) (l : List UInt8) (h : RowM w v l) (ad : Addr) (c : Nat) (x : UInt8) (hx : w.cell? ad = some (bv8 x)) (hb : l.length + 1 ≤ 140737488355328) :
    ∃ v' w', (Builtin.append_ #[130, 130] ty #[v, .slice (some ad) 1 c]).run Tryz.prog w = .ok v' w' ∧ RowM w' v' (l ++ [x]) ∧ Chg (fun k => v.ownBlock = some k) w w' ∧ (∀ k, v'.ownBlock = some k → v.ownBlock = some k ∨ w.heap.size ≤ k) := by
  obtain ⟨i, hi, hz, hsize, hbytes⟩ := infoU8
  obtain ⟨g, cap, cur, fz, rfl, hg, hfz, hnc, hcm, hcs, htake⟩ := h
  have hnews : ∀ j u, [bv8 x][j]? = some u → w.cell? (ad.add j) = some u := by
    intro j u hj
    match j, hj with
    | 0, hj => simp at hj; subst hj; rw [Addr.add_zero']; exact hx
    | j + 1, hj => simp at hj
  by_cases hroom : l.length + 1 ≤ cap
  · have hf := run_firstCells_some (P := Tryz.prog) w i.size 1 ad 1 c [bv8 x] (by simp [hsize]) hnews
    rw [hsize] at hf
    have hcell : w.cell? ⟨g, l.length, none⟩ = some cur[l.length] := by rw [cell_of hg]; exact Array.getElem?_eq_getElem (by omega)
    have hfro : w.frozen? ⟨g, l.length, none⟩ = false := by
      simp only [World.frozen?, hg]
      rcases hfz with rfl | hfz
      · simp
      · simp; omega
    have hst : (storeCells ⟨g, l.length, none⟩ [bv8 x] 0).run Tryz.prog w = .ok () (w.setCell ⟨g, l.length, none⟩ (bv8 x)) := by
      have := run_storeCells_cells (P := Tryz.prog) g l.length [bv8 x] 0 w (fun j hj => by
        obtain rfl : j = 0 := by simpa using hj
        show (w.cell? ⟨g, l.length, none⟩).isSome = true
        rw [hcell]; rfl) (fun j hj => by
        obtain rfl : j = 0 := by simpa using hj
        exact hfro) (by simp [bv8, Value.oneCell'])
      simpa [World.setCells] using this
    refine ⟨.slice (some ⟨g, 0, none⟩) (l.length + 1) cap, w.setCell ⟨g, l.length, none⟩ (bv8 x), ?_, ?_, ?_, ?_⟩
    · simp [Builtin.append_, run_underlying Tryz.underlying130, sizeOf, typeInfo, hi, Builtin.lenOf, hroom, hf, Addr.add_lit, hsize, hst]
    · refine ⟨g, cap, cur.setIfInBounds l.length (bv8 x), fz, by simp, heap_set_same hg _ _, by simpa using hfz, by simpa using hroom, hcm, by simpa using hcs, ?_⟩
      rw [List.length_append, List.length_singleton, Array.toList_setIfInBounds, List.take_set, List.map_append, ← htake]
      apply List.ext_getElem?
      intro j
      rw [List.getElem?_set]
      by_cases e : l.length = j
      · subst e
        have : (List.take l.length cur.toList).length = l.length := by simp; omega
        rw [if_pos rfl, if_pos (by simp; omega), List.getElem?_append_right (by omega), this]
        simp
      · rw [if_neg e]
        by_cases e2 : j < l.length
        · rw [List.getElem?_append_left (by simp; omega), List.getElem?_take, List.getElem?_take, if_pos (by omega), if_pos e2]
        · rw [List.getElem?_take, if_neg (by omega), List.getElem?_append_right (by simp; omega)]
          rw [List.getElem?_eq_none (by simp; omega)]
    · exact (Chg.refl (fun k => (Value.slice (some ⟨g, 0, none⟩) l.length cap).ownBlock = some k) w).setCell (p := ⟨g, l.length, none⟩) (fun _ => rfl) _
    · intro k hk; exact .inl hk
  · have holds : ∀ j u, (l.map bv8)[j]? = some u → w.cell? ((⟨g, 0, none⟩ : Addr).add j) = some u := by
      intro j u hj
      have hadd : (⟨g, 0, none⟩ : Addr).add j = ⟨g, j, none⟩ := by unfold Addr.add; split <;> simp_all
      rw [hadd, cell_of hg]
      rw [← htake, List.getElem?_take] at hj
      split at hj
      · simpa using hj
      · cases hj
    have hr := run_append_grow (P := Tryz.prog) w 130 ty 5 i (.int .u8 0) Tryz.underlying130 hi hz ⟨g, 0, none⟩ l.length cap (l.map bv8) (by simp [hsize]) holds ad 1 c [bv8 x] (by simp [hsize]) hnews (by omega) (by omega) (growslice_fits (by omega) (by rw [hbytes]; omega))
    have hge := grownCap_ge w (l.length + 1) cap 5
    have hcm2 : grownCap w (l.length + 1) cap 5 ≤ maxLen := grownCap_le_maxLen w (l.length + 1) cap _ (by unfold maxLen; omega)
    refine ⟨_, _, hr, ⟨w.heap.size, grownCap w (l.length + 1) cap 5, _, (0, 0), by simp, heap_alloc_new w.drew _, .inl rfl, by simpa using hge, hcm2, ?_, ?_⟩, ⟨rfl, rfl, rfl, by simp, fun k hk _ => heap_alloc_old w.drew _ hk⟩, ?_⟩
    · simp only [Array.size_append, List.size_toArray, size_zeroCells, List.length_map, List.length_singleton]
      simp [Value.cells]
      omega
    · simp only [Array.toList_append, List.append_assoc]
      rw [← List.append_assoc, List.map_append, List.length_append, List.length_singleton]
      exact List.take_left' (by simp)
    · intro k hk; simp [Value.ownBlock] at hk; exact .inr (by omega)
section
variable {w : World} {ops : Array Oper} {rest : List Oper} {o : Oper} {a : Act} {Q : Exit → Act → World → Prop}
/-- 'append(s, x)' at such a row, the byte just laid by this very statement. -/
theorem wpList_append1 (hgd : o.guard = none) (s x : Operand) (ho : o.op = .call { callee := .builtin .append, args := #[s, x], argTypes := #[130, 130] })
    {v : Value} {l : List UInt8} (h : RowM w v l) (hs : a.eval s = v) (b : UInt8) (arr : Array Value) (ha : arr = #[bv8 b]) (n c : Nat) (hn : n = 1) (hx : a.eval x = .slice (some ⟨w.heap.size, 0, none⟩) n c) (hb : l.length + 1 ≤ 140737488355328)
    (k : ∀ v' w', RowM w' v' (l ++ [b]) → Chg (fun k => v.ownBlock = some k) w w' → (∀ k, v'.ownBlock = some k → v.ownBlock = some k ∨ w.heap.size ≤ k) → wpList Tryz.prog ops Q rest (a.put o.dst v') w') :
    wpList Tryz.prog ops Q (o :: rest) a (w.alloc (.cells arr 5)) := by
  subst ha hn
  refine wpList_plain hgd fun K hK => ?_
  have h' : RowM (w.alloc (.cells #[bv8 b] 5)) v l := h.chg ((Chg.refl (fun _ => False) w).alloc _) (fun _ _ h => h)
  obtain ⟨v', w', hr, h1, h2, h3⟩ := run_append1 (w.alloc (.cells #[bv8 b] 5)) o.type v l h' ⟨w.heap.size, 0, none⟩ c b ((cell_of (heap_alloc_new w _) 0).trans rfl) hb
  unfold Oper.wp execOp
  simp only [ho, resolve, invoke, builtin, Sem.run_bind, Sem.run_pure, Result.andThen_ok, List.map_toArray, List.map_cons, List.map_nil, hs, hx, hr]
  refine hK _ _ (k v' w' h1 (((Chg.refl _ w).alloc _).trans h2 (fun _ _ h => h)) (fun k hk => (h3 k hk).imp id (fun h => by simp at h; omega)))
end
end Go.Proofs.YtijiggolphppbaaGreatDoor
