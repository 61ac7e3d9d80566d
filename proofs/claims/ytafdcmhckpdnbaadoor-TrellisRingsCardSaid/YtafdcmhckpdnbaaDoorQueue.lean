/- A slice of the call's own that is shortened from the front and appended to: elements of one cell. -/
import Derived.Test.YtafdcmhckpdnbaaDoorBase
namespace Go.Proofs.YtafdcmhckpdnbaaDoor
open Go.RowKit

/-- v is a slice of the values xs; they lie in a block that may be written. -/
def QRow (w : World) (e : TypeId) (v : Value) (xs : List Value) : Prop :=
  (v = .slice none 0 0 ∧ xs = []) ∨ ∃ g o cap cur, v = .slice (some ⟨g, o, none⟩) xs.length cap ∧ w.heap[g]? = some (.cells cur e (0, 0)) ∧ xs.length ≤ cap ∧ cap ≤ maxLen ∧ o + cap ≤ cur.size ∧ (cur.toList.drop o).take xs.length = xs
section
variable {P : Program} {w w' : World} {e : TypeId} {v : Value} {xs : List Value}
theorem QRow.of_owns {n : Nat} (h : w.ownsRow 0 e 1 v n xs) : QRow w e v xs := by
  obtain ⟨hl, h⟩ := h
  rcases h with ⟨rfl, rfl⟩ | ⟨g, cap, cur, rfl, _, hg, hnc, hcm, hcs, ht⟩
  · exact .inl ⟨rfl, List.length_eq_zero_iff.1 (by simpa using hl)⟩
  · have hl : xs.length = n := by simpa using hl
    subst hl
    exact .inr ⟨g, 0, cap, cur, rfl, hg, hnc, hcm, by rw [hcs]; omega, by simpa using ht⟩
theorem QRow.chg {F : Nat → Prop} (h : QRow w e v xs) (hc : Chg F w w') (hn : ∀ k, v.ownBlock = some k → ¬ F k) : QRow w' e v xs := by
  rcases h with h | ⟨g, o, cap, cur, rfl, hg, r⟩
  · exact .inl h
  · exact .inr ⟨g, o, cap, cur, rfl, hc.obj hg (hn g rfl), r⟩
theorem QRow.lt (h : QRow w e v xs) : ∀ k, v.ownBlock = some k → k < w.heap.size := by
  rcases h with ⟨rfl, _⟩ | ⟨g, o, cap, cur, rfl, hg, _⟩
  · intro k hk; cases hk
  · intro k hk
    simp [Value.ownBlock] at hk
    subst hk
    exact heap_lt hg
/-- One that is not empty: its first element, and what is left behind it. -/
theorem QRow.uncons {x : Value} {ys : List Value} (h : QRow w e v (x :: ys)) : ∃ g o cap, v = .slice (some ⟨g, o, none⟩) (ys.length + 1) cap ∧ ys.length + 1 ≤ cap ∧ cap ≤ maxLen ∧ w.cell? ⟨g, o, none⟩ = some x ∧ g < w.heap.size ∧
    QRow w e (.slice (some ⟨g, if cap = 1 then o else o + 1, none⟩) ys.length (cap - 1)) ys := by
  rcases h with ⟨_, h⟩ | ⟨g, o, cap, cur, hv, hg, hl, hm, hcs, ht⟩
  · cases h
  · simp only [List.length_cons] at hv hl ht
    have ho : o < cur.toList.length := by rw [Array.length_toList]; omega
    rw [List.drop_eq_getElem_cons ho, List.take_succ_cons, List.cons.injEq] at ht
    refine ⟨g, o, cap, hv, hl, hm, ?_, heap_lt hg, .inr ?_⟩
    · rw [cell_of hg o, ← ht.1]
      simp only [Array.getElem_toList]
      exact Array.getElem?_eq_getElem (by simpa using ho)
    · by_cases hc : cap = 1
      · have hy : ys = [] := List.length_eq_zero_iff.1 (by omega)
        subst hy hc
        exact ⟨g, o, 0, cur, rfl, hg, Nat.zero_le _, Nat.zero_le _, by omega, by simp⟩
      · refine ⟨g, o + 1, cap - 1, cur, by rw [if_neg hc], hg, by omega, by omega, by omega, ht.2⟩

theorem run_tail {t : TypeId} (ht : P.underlying t = some (.slice e)) (hs : ∀ w, (sizeOf e).run P w = .ok 1 w) (g o n cap : Nat) (hn : n + 1 ≤ cap) (hc : cap ≤ maxLen) (W : World) :
    (Instr.slice t (.slice (some ⟨g, o, none⟩) (n + 1) cap) (some (.int .i64 1)) none none).run P W = .ok (.slice (some ⟨g, if cap = 1 then o else o + 1, none⟩) n (cap - 1)) W := by
  unfold maxLen at hc
  have hb : (Instr.sliceBound (.int .i64 1) (n + 1) .sliceB).run P W = .ok 1 W := by
    have h1 : (1 : Int) ≤ ((n + 1 : Nat) : Int) := by omega
    simp [Instr.sliceBound, asIntOf, -Int.natCast_add, h1]
  by_cases h : cap = 1
  · subst h
    have : n = 0 := by omega
    subst this
    simp [Instr.slice, run_underlying ht, Instr.sliceBounds, hs, hb]
  · have hadd : (⟨g, o, none⟩ : Addr).add 1 = ⟨g, o + 1, none⟩ := by unfold Addr.add; simp
    simp [Instr.slice, run_underlying ht, Instr.sliceBounds, hs, hb, h, hadd]
theorem run_append_at (t ty : TypeId) (i : TypeInfo) (ht : P.underlying t = some (.slice e)) (hi : P.info? e = some i) (h1s : i.size = 1)
    (g o n cap : Nat) (cur : Array Value) (hg : w.heap[g]? = some (.cells cur e (0, 0)))
    (a : Addr) (m c : Nat) (news : List Value) (hl : news.length = m) (hnews : ∀ j u, news[j]? = some u → w.cell? (a.add j) = some u) (h1 : ∀ u ∈ news, u.oneCell' = true)
    (hroom : n + m ≤ cap) (hfit : o + n + news.length ≤ cur.size) :
    (Builtin.append_ #[t, t] ty #[.slice (some ⟨g, o, none⟩) n cap, .slice (some a) m c]).run P w =
      .ok (.slice (some ⟨g, o, none⟩) (n + m) cap) (w.setRow g (cur.toList.take (o + n) ++ news ++ cur.toList.drop (o + n + news.length)).toArray) := by
  have hf := run_firstCells_some (P := P) w i.size m a m c news (by rw [hl, h1s]; omega) hnews
  have hst := run_storeCells_at P g (o + n) e news 0 cur w hg (by simpa using hfit) h1
  simp only [Nat.add_zero] at hst
  rw [h1s] at hf
  have hadd : (⟨g, o, none⟩ : Addr).add n = ⟨g, o + n, none⟩ := by unfold Addr.add; split <;> simp_all
  simp [Builtin.append_, run_underlying ht, sizeOf, typeInfo, hi, Builtin.lenOf, hroom, h1s, hf, hadd, hst]

theorem QRow.append {t : TypeId} {bytes : Nat} (T : ElT P t e 1 bytes) (h : QRow w e v xs) (ty : TypeId)
    (a : Addr) (m c : Nat) (news : List Value) (hl : news.length = m) (hnews : ∀ j u, news[j]? = some u → w.cell? (a.add j) = some u) (h1 : ∀ u ∈ news, u.oneCell' = true)
    (h63 : xs.length + m ≤ maxLen) (hbytes : (xs.length + m) * bytes ≤ 140737488355328) :
    ∃ v' w', (Builtin.append_ #[t, t] ty #[v, .slice (some a) m c]).run P w = .ok v' w' ∧ QRow w' e v' (xs ++ news) ∧ Chg (fun k => v.ownBlock = some k) w w' ∧ (∀ k, v'.ownBlock = some k → v.ownBlock = some k ∨ w.heap.size ≤ k) := by
  obtain ⟨i, z, hi, hz, h2, h3, h4, _⟩ := T.info
  have T2 := T.ht
  rcases h with ⟨rfl, rfl⟩ | ⟨g, o, cap, cur, rfl, hg, hlc, hm, hcs, ht⟩
  · obtain ⟨v', w', hr, r1, r2, r3, r4⟩ := run_append_chg (P := P) w t ty e i z 1 bytes T2 hi hz h2 h3 h4 T.pos (.slice none 0 0) 0 [] (World.ownsRow_nil _ _ _ _) a m c news (by rw [hl]; omega) hnews h1 (by simpa using h63) (by simpa using hbytes)
    exact ⟨v', w', hr, QRow.of_owns r1, r2, r3⟩
  · by_cases hroom : xs.length + m ≤ cap
    · refine ⟨_, _, run_append_at t ty i T2 hi h2 g o xs.length cap cur hg a m c news hl hnews h1 hroom (by rw [hl]; omega), .inr ⟨g, o, cap, _, by rw [List.length_append, hl], setRow_heap w g cur _ e _ hg, by rw [List.length_append, hl]; exact hroom, hm, ?_, ?_⟩, ?_, fun k hk => .inl hk⟩
      · have hcl : cur.toList.length = cur.size := Array.length_toList
        simp only [List.size_toArray, List.length_append, List.length_take, List.length_drop]
        omega
      · have hcl : cur.toList.length = cur.size := Array.length_toList
        rw [List.append_assoc, List.take_add, List.append_assoc]
        have hA : (cur.toList.take o).length = o := by simp; omega
        rw [List.drop_append_of_le_length (by omega), List.drop_of_length_le (by omega), List.nil_append, ht, ← List.append_assoc]
        exact List.take_left
      · exact (Chg.refl (fun k => (Value.slice (some ⟨g, o, none⟩) xs.length cap).ownBlock = some k) w).setRow (g := g) (fun _ => rfl) _
    · obtain ⟨hlo, hh⟩ : xs.length = xs.length * i.size ∧ ∀ j u, xs[j]? = some u → w.cell? ((⟨g, o, none⟩ : Addr).add j) = some u := by
        refine ⟨by rw [h2]; omega, fun j u hj => ?_⟩
        have hadd : (⟨g, o, none⟩ : Addr).add j = ⟨g, o + j, none⟩ := by unfold Addr.add; split <;> simp_all
        rw [hadd, cell_of hg, ← Array.getElem?_toList]
        have hj2 := hj
        rw [← ht, List.getElem?_take] at hj2
        split at hj2
        · rw [List.getElem?_drop] at hj2; exact hj2
        · cases hj2
      have hgr := run_append_grow (P := P) w t ty e i z T2 hi hz ⟨g, o, none⟩ xs.length cap xs hlo hh a m c news (by rw [h2, hl]; omega) hnews (by omega) (by simp only [maxLen] at h63; omega) (growslice_fits (by omega) (by rw [h3]; exact hbytes))
      refine ⟨_, _, hgr, ?_, ((Chg.refl _ w).drew).alloc _, fun k hk => ?_⟩
      · refine .inr ⟨w.heap.size, 0, grownCap w (xs.length + m) cap e, _, by rw [List.length_append, hl], heap_alloc_new w.drew _, ?_, ?_, ?_, ?_⟩
        · rw [List.length_append, hl]; exact grownCap_ge _ _ _ _
        · exact grownCap_le_maxLen w _ _ e h63
        · have hge := grownCap_ge w (xs.length + m) cap e
          simp only [Array.size_append, List.size_toArray, size_zeroCells, h4, hl]
          omega
        · simp only [Array.toList_append, List.append_assoc, List.drop_zero]
          rw [← List.append_assoc]
          exact List.take_left
      · simp [Value.ownBlock] at hk
        exact .inr (by omega)
theorem QRow.append_none {t : TypeId} {bytes : Nat} (T : ElT P t e 1 bytes) (h : QRow w e v xs) (ty : TypeId) :
    (Builtin.append_ #[t, t] ty #[v, .slice none 0 0]).run P w = .ok v w := by
  obtain ⟨i, z, hi, hz, h2, h3, h4, _⟩ := T.info
  rcases h with ⟨rfl, rfl⟩ | ⟨g, o, cap, cur, rfl, hg, hlc, hm, hcs, ht⟩
  · simp [Builtin.append_, run_underlying T.ht, sizeOf, typeInfo, hi, Builtin.lenOf, Builtin.firstCells]
  · simp [Builtin.append_, run_underlying T.ht, sizeOf, typeInfo, hi, Builtin.lenOf, Builtin.firstCells, hlc, storeCells]
/-- A slice of strings laid behind it. -/
theorem QRow.append_strs {t : TypeId} {bytes : Nat} (T : ElT P t e 1 bytes) (h : QRow w e v xs) (ty : TypeId) {sv : Value} {ss : List ByteArray} (hs : StrsAt w sv ss)
    (h63 : xs.length + ss.length ≤ maxLen) (hbytes : (xs.length + ss.length) * bytes ≤ 140737488355328) :
    ∃ v' w', (Builtin.append_ #[t, t] ty #[v, sv]).run P w = .ok v' w' ∧ QRow w' e v' (xs ++ ss.map .string) ∧ Chg (fun k => v.ownBlock = some k) w w' ∧ (∀ k, v'.ownBlock = some k → v.ownBlock = some k ∨ w.heap.size ≤ k) := by
  rcases hs.1 with ⟨rfl, rfl⟩ | ⟨a, cap, rfl, hc⟩
  · exact ⟨v, w, h.append_none T ty, by simpa using h, Chg.refl _ _, fun k hk => .inl hk⟩
  · refine h.append T ty a ss.length cap (ss.map .string) (by simp) (fun j u hj => ?_) (fun u hu => ?_) h63 hbytes
    · rw [List.getElem?_map] at hj
      obtain ⟨y, hy, rfl⟩ := Option.map_eq_some_iff.1 hj
      obtain ⟨hlt, rfl⟩ := List.getElem?_eq_some_iff.1 hy
      exact hc j hlt
    · obtain ⟨y, _, rfl⟩ := List.mem_map.1 hu
      rfl
theorem wpList_append_q {ops : Array Oper} {rest : List Oper} {o : Oper} {a : Act} {Q : Exit → Act → World → Prop} (hgd : o.guard = none) (s x : Operand) (t : TypeId)
    (ho : o.op = .call { callee := .builtin .append, args := #[s, x], argTypes := #[t, t] }) {bytes : Nat} (T : ElT P t e 1 bytes)
    (hq : QRow w e v xs) (hs : a.eval s = v) {sv : Value} {ss : List ByteArray} (hx : a.eval x = sv) (hsrc : StrsAt w sv ss)
    (h63 : xs.length + ss.length ≤ maxLen) (hbytes : (xs.length + ss.length) * bytes ≤ 140737488355328)
    (h : ∀ v' w', QRow w' e v' (xs ++ ss.map .string) → Chg (fun k => v.ownBlock = some k) w w' → (∀ k, v'.ownBlock = some k → v.ownBlock = some k ∨ w.heap.size ≤ k) → wpList P ops Q rest (a.put o.dst v') w') :
    wpList P ops Q (o :: rest) a w :=
  wpList_plain hgd fun _ hK => by
    obtain ⟨v', w', hr, h2, h3, h4⟩ := hq.append_strs T o.type hsrc h63 hbytes
    unfold Oper.wp execOp
    simp only [ho, resolve, invoke, builtin, Sem.run_bind, Sem.run_pure, Result.andThen_ok, List.map_toArray, List.map_cons, List.map_nil, hs, hx, hr]
    exact hK _ _ (h v' w' h2 h3 h4)
end
end Go.Proofs.YtafdcmhckpdnbaaDoor
