/- Texts of the proof, one behind the other: A slice of the call's own that is shortened from the front and appended to: elements of one cell; Sets of names in maps; slices.Sorted(maps.Keys(m)) at such a set; what is sorted so; slices.Clone at names, (*web).needs walked; trellis.Needs, Dirty walked; trellis.Dirty walked; apiaryref07.IsName, apiaryref01.Same walked. -/
import Derived.Test.YthglfmacjoecgaaGreatDoorMg01
import Derived.Test.YthglfmacjoecgaaGreatDoorMg17
import Derived.Test.YthglfmacjoecgaaGreatDoorIter
import Derived.Lib.BufferMore
import Derived.Test.YthglfmacjoecgaaGreatDoorMg06
namespace Go.Proofs.YthglfmacjoecgaaGreatDoor
open Go.RowKit

/-- v is a slice of the values xs; they lie in a block that may be written. -/
def QRow (w : World) (e : TypeId) (v : Value) (xs : List Value) : Prop :=
  (v = .slice none 0 0 ∧ xs = []) ∨ ∃ g o cap cur, v = .slice (some ⟨g, o, none⟩) xs.length cap ∧ w.heap[g]? = some (.cells cur e (0, 0)) ∧ xs.length ≤ cap ∧ cap ≤ maxLen ∧ o + cap ≤ cur.size ∧ (cur.toList.drop o).take xs.length = xs
section
variable {P : Program} {w w' : World} {e : TypeId} {v : Value} {xs : List Value}
theorem QRow.of_owns {n : Nat} (h : w.ownsRow 0 e 1 v n xs) : QRow w e v xs := by
  obtain ⟨hl, h⟩ := h
  rcases h with ⟨rfl, rfl⟩ | ⟨g, cap, cur, rfl, _, hg, hnc, hcm, hcs, ht⟩
  · exact .inl ⟨rfl, List.length_eq_zero_iff.1 (by simpa using hl)⟩
  · have hl : xs.length = n := by simpa using hl
    subst hl
    exact .inr ⟨g, 0, cap, cur, rfl, hg, hnc, hcm, by rw [hcs]; omega, by simpa using ht⟩
theorem QRow.chg {F : Nat → Prop} (h : QRow w e v xs) (hc : Chg F w w') (hn : ∀ k, v.ownBlock = some k → ¬ F k) : QRow w' e v xs := by
  rcases h with h | ⟨g, o, cap, cur, rfl, hg, r⟩
  · exact .inl h
  · exact .inr ⟨g, o, cap, cur, rfl, hc.obj hg (hn g rfl), r⟩
theorem QRow.lt (h : QRow w e v xs) : ∀ k, v.ownBlock = some k → k < w.heap.size := by
  rcases h with ⟨rfl, _⟩ | ⟨g, o, cap, cur, rfl, hg, _⟩
  · intro k hk; cases hk
  · intro k hk
    simp [Value.ownBlock] at hk
    subst hk
    exact heap_lt hg
/-- One that is not empty: its first element, and what is left behind it. -/
theorem QRow.uncons {x : Value} {ys : List Value} (h : QRow w e v (x :: ys)) : ∃ g o cap, v = .slice (some ⟨g, o, none⟩) (ys.length + 1) cap ∧ ys.length + 1 ≤ cap ∧ cap ≤ maxLen ∧ w.cell? ⟨g, o, none⟩ = some x ∧ g < w.heap.size ∧
    QRow w e (.slice (some ⟨g, if cap = 1 then o else o + 1, none⟩) ys.length (cap - 1)) ys := by
  rcases h with ⟨_, h⟩ | ⟨g, o, cap, cur, hv, hg, hl, hm, hcs, ht⟩
  · cases h
  · simp only [List.length_cons] at hv hl ht
    have ho : o < cur.toList.length := by rw [Array.length_toList]; omega
    rw [List.drop_eq_getElem_cons ho, List.take_succ_cons, List.cons.injEq] at ht
    refine ⟨g, o, cap, hv, hl, hm, ?_, heap_lt hg, .inr ?_⟩
    · rw [cell_of hg o, ← ht.1]
      simp only [Array.getElem_toList]
      exact Array.getElem?_eq_getElem (by simpa using ho)
    · by_cases hc : cap = 1
      · have hy : ys = [] := List.length_eq_zero_iff.1 (by omega)
        subst hy hc
        exact ⟨g, o, 0, cur, rfl, hg, Nat.zero_le _, Nat.zero_le _, by omega, by simp⟩
      · refine ⟨g, o + 1, cap - 1, cur, by rw [if_neg hc], hg, by omega, by omega, by omega, ht.2⟩

theorem run_tail {t : TypeId} (ht : P.underlying t = some (.slice e)) (hs : ∀ w, (sizeOf e).run P w = .ok 1 w) (g o n cap : Nat) (hn : n + 1 ≤ cap) (hc : cap ≤ maxLen) (W : World) :
    (Instr.slice t (.slice (some ⟨g, o, none⟩) (n + 1) cap) (some (.int .i64 1)) none none).run P W = .ok (.slice (some ⟨g, if cap = 1 then o else o + 1, none⟩) n (cap - 1)) W := by
  unfold maxLen at hc
  have hb : (Instr.sliceBound (.int .i64 1) (n + 1) .sliceB).run P W = .ok 1 W := by
    have h1 : (1 : Int) ≤ ((n + 1 : Nat) : Int) := by omega
    simp [Instr.sliceBound, asIntOf, -Int.natCast_add, h1]
  by_cases h : cap = 1
  · subst h
    have : n = 0 := by omega
    subst this
    simp [Instr.slice, run_underlying ht, Instr.sliceBounds, hs, hb]
  · have hadd : (⟨g, o, none⟩ : Addr).add 1 = ⟨g, o + 1, none⟩ := by unfold Addr.add; simp
    simp [Instr.slice, run_underlying ht, Instr.sliceBounds, hs, hb, h, hadd]
theorem run_append_at (t ty : TypeId) (i : TypeInfo) (ht : P.underlying t = some (.slice e)) (hi : P.info? e = some i) (h1s : i.size = 1)
    (g o n cap : Nat) (cur : Array Value) (hg : w.heap[g]? = some (.cells cur e (0, 0)))
    (a : Addr) (m c : Nat) (news : List Value) (hl : news.length = m) (hnews : ∀ j u, news[j]? = some u → w.cell? (a.add j) = some u) (h1 : ∀ u ∈ news, u.oneCell' = true)
    (hroom : n + m ≤ cap) (hfit : o + n + news.length ≤ cur.size) :
    (Builtin.append_ #[t, t] ty #[.slice (some ⟨g, o, none⟩) n cap, .slice (some a) m c]).run P w =
      .ok (.slice (some ⟨g, o, none⟩) (n + m) cap) (w.setRow g (cur.toList.take (o + n) ++ news ++ cur.toList.drop (o + n + news.length)).toArray) := by
  have hf := run_firstCells_some (P := P) w i.size m a m c news (by rw [hl, h1s]; omega) hnews
  have hst := run_storeCells_at P g (o + n) e news 0 cur w hg (by simpa using hfit) h1
  simp only [Nat.add_zero] at hst
  rw [h1s] at hf
  have hadd : (⟨g, o, none⟩ : Addr).add n = ⟨g, o + n, none⟩ := by unfold Addr.add; split <;> simp_all
  simp [Builtin.append_, run_underlying ht, sizeOf, typeInfo, hi, Builtin.lenOf, hroom, h1s, hf, hadd, hst]

theorem QRow.append {t : TypeId} {bytes : Nat} (T : ElT P t e 1 bytes) (h : QRow w e v xs) (ty : TypeId)
    (a : Addr) (m c : Nat) (news : List Value) (hl : news.length = m) (hnews : ∀ j u, news[j]? = some u → w.cell? (a.add j) = some u) (h1 : ∀ u ∈ news, u.oneCell' = true)
    (h63 : xs.length + m ≤ maxLen) (hbytes : (xs.length + m) * bytes ≤ 140737488355328) :
    ∃ v' w', (Builtin.append_ #[t, t] ty #[v, .slice (some a) m c]).run P w = .ok v' w' ∧ QRow w' e v' (xs ++ news) ∧ Chg (fun k => v.ownBlock = some k) w w' ∧ (∀ k, v'.ownBlock = some k → v.ownBlock = some k ∨ w.heap.size ≤ k) := by
  obtain ⟨i, z, hi, hz, h2, h3, h4, _⟩ := T.info
  have T2 := T.ht
  rcases h with ⟨rfl, rfl⟩ | ⟨g, o, cap, cur, rfl, hg, hlc, hm, hcs, ht⟩
  · obtain ⟨v', w', hr, r1, r2, r3, r4⟩ := run_append_chg (P := P) w t ty e i z 1 bytes T2 hi hz h2 h3 h4 T.pos (.slice none 0 0) 0 [] (World.ownsRow_nil _ _ _ _) a m c news (by rw [hl]; omega) hnews h1 (by simpa using h63) (by simpa using hbytes)
    exact ⟨v', w', hr, QRow.of_owns r1, r2, r3⟩
  · by_cases hroom : xs.length + m ≤ cap
    · refine ⟨_, _, run_append_at t ty i T2 hi h2 g o xs.length cap cur hg a m c news hl hnews h1 hroom (by rw [hl]; omega), .inr ⟨g, o, cap, _, by rw [List.length_append, hl], setRow_heap w g cur _ e _ hg, by rw [List.length_append, hl]; exact hroom, hm, ?_, ?_⟩, ?_, fun k hk => .inl hk⟩
      · have hcl : cur.toList.length = cur.size := Array.length_toList
        simp only [List.size_toArray, List.length_append, List.length_take, List.length_drop]
        omega
      · have hcl : cur.toList.length = cur.size := Array.length_toList
        rw [List.append_assoc, List.take_add, List.append_assoc]
        have hA : (cur.toList.take o).length = o := by simp; omega
        rw [List.drop_append_of_le_length (by omega), List.drop_of_length_le (by omega), List.nil_append, ht, ← List.append_assoc]
        exact List.take_left
      · exact (Chg.refl (fun k => (Value.slice (some ⟨g, o, none⟩) xs.length cap).ownBlock = some k) w).setRow (g := g) (fun _ => rfl) _
    · obtain ⟨hlo, hh⟩ : xs.length = xs.length * i.size ∧ ∀ j u, xs[j]? = some u → w.cell? ((⟨g, o, none⟩ : Addr).add j) = some u := by
        refine ⟨by rw [h2]; omega, fun j u hj => ?_⟩
        have hadd : (⟨g, o, none⟩ : Addr).add j = ⟨g, o + j, none⟩ := by unfold Addr.add; split <;> simp_all
        rw [hadd, cell_of hg, ← Array.getElem?_toList]
        have hj2 := hj
        rw [← ht, List.getElem?_take] at hj2
        split at hj2
        · rw [List.getElem?_drop] at hj2; exact hj2
        · cases hj2
      have hgr := run_append_grow (P := P) w t ty e i z T2 hi hz ⟨g, o, none⟩ xs.length cap xs hlo hh a m c news (by rw [h2, hl]; omega) hnews (by omega) (by simp only [maxLen] at h63; omega) (growslice_fits (by omega) (by rw [h3]; exact hbytes))
      refine ⟨_, _, hgr, ?_, ((Chg.refl _ w).drew).alloc _, fun k hk => ?_⟩
      · refine .inr ⟨w.heap.size, 0, grownCap w (xs.length + m) cap e, _, by rw [List.length_append, hl], heap_alloc_new w.drew _, ?_, ?_, ?_, ?_⟩
        · rw [List.length_append, hl]; exact grownCap_ge _ _ _ _
        · exact grownCap_le_maxLen w _ _ e h63
        · have hge := grownCap_ge w (xs.length + m) cap e
          simp only [Array.size_append, List.size_toArray, size_zeroCells, h4, hl]
          omega
        · simp only [Array.toList_append, List.append_assoc, List.drop_zero]
          rw [← List.append_assoc]
          exact List.take_left
      · simp [Value.ownBlock] at hk
        exact .inr (by omega)
theorem QRow.append_none {t : TypeId} {bytes : Nat} (T : ElT P t e 1 bytes) (h : QRow w e v xs) (ty : TypeId) :
    (Builtin.append_ #[t, t] ty #[v, .slice none 0 0]).run P w = .ok v w := by
  obtain ⟨i, z, hi, hz, h2, h3, h4, _⟩ := T.info
  rcases h with ⟨rfl, rfl⟩ | ⟨g, o, cap, cur, rfl, hg, hlc, hm, hcs, ht⟩
  · simp [Builtin.append_, run_underlying T.ht, sizeOf, typeInfo, hi, Builtin.lenOf, Builtin.firstCells]
  · simp [Builtin.append_, run_underlying T.ht, sizeOf, typeInfo, hi, Builtin.lenOf, Builtin.firstCells, hlc, storeCells]
/-- A slice of strings laid behind it. -/
theorem QRow.append_strs {t : TypeId} {bytes : Nat} (T : ElT P t e 1 bytes) (h : QRow w e v xs) (ty : TypeId) {sv : Value} {ss : List ByteArray} (hs : StrsAt w sv ss)
    (h63 : xs.length + ss.length ≤ maxLen) (hbytes : (xs.length + ss.length) * bytes ≤ 140737488355328) :
    ∃ v' w', (Builtin.append_ #[t, t] ty #[v, sv]).run P w = .ok v' w' ∧ QRow w' e v' (xs ++ ss.map .string) ∧ Chg (fun k => v.ownBlock = some k) w w' ∧ (∀ k, v'.ownBlock = some k → v.ownBlock = some k ∨ w.heap.size ≤ k) := by
  rcases hs.1 with ⟨rfl, rfl⟩ | ⟨a, cap, rfl, hc⟩
  · exact ⟨v, w, h.append_none T ty, by simpa using h, Chg.refl _ _, fun k hk => .inl hk⟩
  · refine h.append T ty a ss.length cap (ss.map .string) (by simp) (fun j u hj => ?_) (fun u hu => ?_) h63 hbytes
    · rw [List.getElem?_map] at hj
      obtain ⟨y, hy, rfl⟩ := Option.map_eq_some_iff.1 hj
      obtain ⟨hlt, rfl⟩ := List.getElem?_eq_some_iff.1 hy
      exact hc j hlt
    · obtain ⟨y, _, rfl⟩ := List.mem_map.1 hu
      rfl
theorem wpList_append_q {ops : Array Oper} {rest : List Oper} {o : Oper} {a : Act} {Q : Exit → Act → World → Prop} (hgd : o.guard = none) (s x : Operand) (t : TypeId)
    (ho : o.op = .call { callee := .builtin .append, args := #[s, x], argTypes := #[t, t] }) {bytes : Nat} (T : ElT P t e 1 bytes)
    (hq : QRow w e v xs) (hs : a.eval s = v) {sv : Value} {ss : List ByteArray} (hx : a.eval x = sv) (hsrc : StrsAt w sv ss)
    (h63 : xs.length + ss.length ≤ maxLen) (hbytes : (xs.length + ss.length) * bytes ≤ 140737488355328)
    (h : ∀ v' w', QRow w' e v' (xs ++ ss.map .string) → Chg (fun k => v.ownBlock = some k) w w' → (∀ k, v'.ownBlock = some k → v.ownBlock = some k ∨ w.heap.size ≤ k) → wpList P ops Q rest (a.put o.dst v') w') :
    wpList P ops Q (o :: rest) a w :=
  wpList_plain hgd fun _ hK => by
    obtain ⟨v', w', hr, h2, h3, h4⟩ := hq.append_strs T o.type hsrc h63 hbytes
    unfold Oper.wp execOp
    simp only [ho, resolve, invoke, builtin, Sem.run_bind, Sem.run_pure, Result.andThen_ok, List.map_toArray, List.map_cons, List.map_nil, hs, hx, hr]
    exact hK _ _ (h v' w' h2 h3 h4)
end
end Go.Proofs.YthglfmacjoecgaaGreatDoor
namespace Go.Proofs.YthglfmacjoecgaaGreatDoor
open Go.RowKit Go.Maps Go.Sort Go.Shelf

def setL (K : List Nm) : List (Nm × Bool) := K.map fun s => (s, true)
theorem setL_val (s : Nm) : ∀ K : List Nm, (lval s (setL K)).getD false = K.contains s
  | [] => rfl
  | t :: K => by
    show (lval s ((t, true) :: setL K)).getD false = _
    rw [lval_cons]
    by_cases h : s = t
    · subst h; simp
    · rw [if_neg h, setL_val s K]
      simp [h]
/-- Block r is a map that holds the names K, each once. -/
def SetAt (w : World) (r : Nat) (K : List Nm) : Prop :=
  ∃ es clock, w.heap[r]? = some (.map es clock) ∧ es.toList.map (fun e => (e.key, e.val)) = (setL K).map (fun p => (nmV p.1, boolV p.2)) ∧ MapKept.Stamped es clock
section
variable {w w' : World} {r : Nat} {K : List Nm}
theorem SetAt.map (h : SetAt w r K) : MapL w r nmV boolV (setL K) := by obtain ⟨es, clock, h1, h2, _⟩ := h; exact ⟨es, clock, h1, h2⟩
theorem SetAt.lt (h : SetAt w r K) : r < w.heap.size := h.map.lt
theorem SetAt.chg {F : Nat → Prop} (h : SetAt w r K) (hc : Chg F w w') (hF : ¬ F r) : SetAt w' r K := by
  obtain ⟨es, clock, h1, h2⟩ := h
  exact ⟨es, clock, hc.obj h1 hF, h2⟩
theorem SetAt.fresh (w : World) : SetAt (w.alloc (.map #[] 0)) w.heap.size [] := ⟨#[], 0, heap_alloc_new w _, rfl, by simp [MapKept.Stamped]⟩
def mapLen (w : World) (r : Nat) : Nat := match w.heap[r]? with
  | some (.map es _) => es.size
  | _ => 0
theorem SetAt.len (h : SetAt w r K) : mapLen w r = K.length := by
  obtain ⟨es, clock, h1, h2, _⟩ := h
  unfold mapLen
  rw [h1]
  have := congrArg List.length h2
  simpa [setL] using this
theorem SetAt.put (h : SetAt w r K) {P : Program} {kt t e : TypeId} (KT : KeyT P kt nmV) (ht : P.underlying t = some (.map kt e)) {s : Nm} (hs : s ∉ K) :
    ∃ w', (Instr.mapUpdate t (.map (some r)) (nmV s) (boolV true)).run P w = .ok () w' ∧ SetAt w' r (K ++ [s]) ∧ Chg (fun i => i = r) w w' := by
  obtain ⟨es, clock, h1, h2, h3⟩ := h
  have hf := KT.find boolV es.toList (setL K) s w h2
  have hl : lfind s (setL K) 0 = none := by
    rw [lfind_none]
    intro p hp e
    unfold setL at hp
    obtain ⟨t, ht, rfl⟩ := List.mem_map.1 hp
    exact hs (e ▸ ht)
  rw [hl] at hf
  refine ⟨Go.ChangeMaps.setBlock w r (.map (es.push { key := nmV s, val := boolV true, born := clock }) (clock + 1)), ?_, ⟨es.push { key := nmV s, val := boolV true, born := clock }, clock + 1, ?_, ?_, ?_⟩, setBlock_chg _ _ _⟩
  · simp [Instr.mapUpdate, run_underlying ht, MapKept.run_getObj_map h1, KT.check, hf, MapKept.run_setObj_map _ h1, Go.ChangeMaps.setBlock]
  · simp only [Go.ChangeMaps.setBlock]; rw [Array.getElem?_setIfInBounds_self_of_lt (heap_lt h1)]
  · rw [show setL (K ++ [s]) = setL K ++ [(s, true)] by unfold setL; simp, List.map_append, ← h2]
    simp
  · refine MapKept.stamped_push h3 (fun x hx e => ?_)
    have hx2 : (x.key, x.val) ∈ es.toList.map (fun e => (e.key, e.val)) := List.mem_map.2 ⟨x, hx, rfl⟩
    rw [h2] at hx2
    obtain ⟨p, hp, e2⟩ := List.mem_map.1 hx2
    unfold setL at hp
    obtain ⟨t, ht, rfl⟩ := List.mem_map.1 hp
    simp only [Prod.mk.injEq] at e2
    rw [e] at e2
    have : bs t = bs s := by simpa using e2.1
    exact hs (bs_inj this ▸ ht)
theorem wpList_put_set {P : Program} {ops : Array Oper} {rest : List Oper} {o : Oper} {a : Act} {Q : Exit → Act → World → Prop} (hg : o.guard = none) (m x v : Operand) (t : TypeId) (hop : o.op = Op.mapUpdate t m x v) {kt e : TypeId} (KT : KeyT P kt nmV) (ht : P.underlying t = some (.map kt e))
    (hown : SetAt w r K) (hm : a.eval m = .map (some r)) (s : Nm) (hs : s ∉ K) (hx : a.eval x = nmV s) (hv : a.eval v = .bool true)
    (hK : ∀ w', SetAt w' r (K ++ [s]) → Chg (fun i => i = r) w w' → wpList P ops Q rest (a.put o.dst undef) w') : wpList P ops Q (o :: rest) a w := by
  refine wpList_plain hg fun K' hK' => ?_
  obtain ⟨w', hrun, r1, r2⟩ := hown.put KT ht hs
  have hrun2 : (Instr.mapUpdate t (.map (some r)) (.string (bs s)) (.bool true)).run P w = .ok () w' := hrun
  unfold Oper.wp
  simp [execOp, hop, hm, hx, hv, hrun2, Result.andThen]
  exact hK' _ _ (hK w' r1 r2)

theorem SetAt.owns (h : SetAt w r K) (hl : ∀ s ∈ K, s.length ≤ maxLen) (hn : K.length ≤ maxLen) :
    ∃ D : DataW Unit, w.ownsMap Tryz.prog 9 (plainElem Tryz.prog 4) r K.length D ∧ (strKeys D).Perm K ∧ Maps.size D = K.length := by
  obtain ⟨es, clock, h1, h2, h3⟩ := h
  have hlen : es.size = K.length := by have := congrArg List.length h2; simpa [setL] using this
  have hx : ∀ x ∈ es.toList, ∃ s ∈ K, x.key = nmV s ∧ x.val = .bool true := by
    intro x hx
    have hx2 : (x.key, x.val) ∈ es.toList.map (fun e => (e.key, e.val)) := List.mem_map.2 ⟨x, hx, rfl⟩
    rw [h2] at hx2
    obtain ⟨p, hp, e2⟩ := List.mem_map.1 hx2
    unfold setL at hp
    obtain ⟨t, ht, rfl⟩ := List.mem_map.1 hp
    simp only [Prod.mk.injEq] at e2
    exact ⟨t, ht, e2.1.symm, e2.2.symm⟩
  have hrd : ∀ x ∈ es.toList, ∃ s ∈ K, x.key = nmV s ∧ Go.WideElems.rd Tryz.prog 9 (plainElem (H := Unit) Tryz.prog 4) x = some (.string s, .lit (.bool true)) := by
    intro x hxm
    obtain ⟨s, hs, e1, e2⟩ := hx x hxm
    refine ⟨s, hs, e1, ?_⟩
    obtain ⟨key, val, born⟩ := x
    simp only at e1 e2
    subst e1 e2
    have hk : keyOf Tryz.prog 9 (nmV s) = some (.string (bs s).data.toList) := Go.WideMaps.keyOf_string_mk Tryz.underlying9 (by rw [bs_size]; exact hl s hs)
    rw [bs_data] at hk
    exact Go.WideElems.rd_mk hk (plainElem_bool Tryz.underlying4 true)
  refine ⟨_, ⟨es, clock, h1, ⟨by rw [hlen]; exact hn, h3, fun x hx => by obtain ⟨s, _, _, h⟩ := hrd x hx; exact ⟨_, h⟩⟩, by omega, rfl⟩, ?_, ?_⟩
  · have hp := Go.WideShapes.sorted_perm (es.toList.map (Go.WideElems.rg Tryz.prog 9 (plainElem (H := Unit) Tryz.prog 4)))
    have hp2 := hp.map (fun p : Lit × DataW Unit => strOf p.1)
    refine List.Perm.trans hp2 ?_
    rw [List.map_map]
    have e1 : es.toList.map ((fun p : Lit × DataW Unit => strOf p.1) ∘ Go.WideElems.rg Tryz.prog 9 (plainElem (H := Unit) Tryz.prog 4)) = es.toList.map ((fun q : Value × Value => match q.1 with | .string b => b.data.toList | _ => []) ∘ fun e => (e.key, e.val)) := by
      refine List.map_congr_left (fun x hx => ?_)
      obtain ⟨s, _, e1, e2⟩ := hrd x hx
      simp only [Function.comp, Go.WideElems.rg_of e2, e1, bs_data]
      rfl
    rw [e1, ← List.map_map, h2, List.map_map]
    unfold setL
    rw [List.map_map]
    have e3 : K.map (((fun q : Value × Value => match q.1 with | .string b => b.data.toList | _ => []) ∘ fun p : Nm × Bool => (nmV p.1, boolV p.2)) ∘ fun s => (s, true)) = K.map id := List.map_congr_left (fun s _ => by simp [bs_data])
    rw [e3, List.map_id]
  · show ((es.toList.map (Go.WideElems.rg Tryz.prog 9 (plainElem (H := Unit) Tryz.prog 4))).foldr DataW.insert []).length = _
    rw [length_sorted]
    simpa using hlen
theorem sort_rise {K l : List Nm} (hK : K.Nodup) (hl : Rise l) (hm : ∀ s, s ∈ K ↔ s ∈ l) : K.mergeSort (fun x y => decide (x ≤ y)) = l := by
  have tr : ∀ a b c : Nm, leB a b = true → leB b c = true → leB a c = true := fun a b c h1 h2 => by simp only [leB, decide_eq_true_eq] at *; exact List.le_trans h1 h2
  have tot : ∀ a b : Nm, (leB a b || leB b a) = true := fun a b => by simp only [leB, Bool.or_eq_true, decide_eq_true_eq]; exact List.le_total a b
  have hp := List.mergeSort_perm K leB
  have h1 := List.pairwise_mergeSort tr tot K
  have h2 : (K.mergeSort leB).Nodup := hp.nodup_iff.2 hK
  refine rise_ext ?_ hl (fun x => by rw [hp.mem_iff]; exact hm x)
  unfold Rise
  refine (h1.and h2).imp ?_
  rintro a b ⟨h3, h4⟩
  simp only [leB, decide_eq_true_eq] at h3
  exact nm_lt_of_le_ne h3 h4
end
theorem keys_any (mb : Option Nat) (W : World) : Calls Tryz.prog 87 #[.map mb] W fun e w' => e = .returned (.func (.func 119) #[] #[.pointer (some ⟨W.heap.size, 0, none⟩)]) ∧ w' = W.alloc (.cells #[.map mb] 139) :=
  callsIn_wide.1 (AnyZ.keys_in Tryz.keys87 Fence.wide 5 trivial rfl mb W)
theorem sorts_any (m : Nat) : AnyZ.SortsIn Tryz.prog Tryz.sorted86_ren Fence.wide m :=
  ⟨fun blk off cap ss W hH hblk hsz => callsIn_wide.2 (AnyM.slices_Sort_string Tryz.sort118 blk off cap ss W hH hblk hsz),
   fun p cap W => callsIn_wide.2 (AnyM.slices_Sort_string_none Tryz.sort118 p cap W)⟩
set_option maxHeartbeats 1000000 in
/-- slices.Sorted at what maps.Keys hands back for a set of names: the names, sorted. -/
theorem sorted_any (r : Nat) (K l : List Nm) (w : World) (h : SetAt w r K) (hlen : ∀ s ∈ K, s.length ≤ maxLen) (hn : K.length ≤ 1000000) (hK : K.Nodup) (hl : Rise l) (hm : ∀ s, s ∈ K ↔ s ∈ l) :
    Calls Tryz.prog 86 #[.func (.func 119) #[] #[.pointer (some ⟨w.heap.size, 0, none⟩)]] (w.alloc (.cells #[.map (some r)] 139)) fun e w' => ∃ v, e = .returned v ∧
      w'.ownsRow 0 9 1 v l.length (l.map nmV) ∧ Chg (fun _ => False) w w' := by
  obtain ⟨D0, hown, hD, hsz⟩ := h.owns hlen (by unfold maxLen; omega)
  have hbl := hown.lt
  have hseq : SeqGives Fence.wide 2 Tryz.prog 119 #[.pointer (some ⟨w.heap.size, 0, none⟩)] encStr (fun ss => ss.Perm (strKeys D0)) (Maps.size D0) (w.alloc (.cells #[.map (some r)] 139)) :=
    AnyZ.keys_gives (ρ := Tryz.keys87_ren) { Tryz.keys87 with } Fence.wide _ trivial rfl (by omega) w.heap.size r K.length D0 _ (by simp) (by simp) (by
      obtain ⟨es, clock, hb, Ft, hs, hD⟩ := hown
      exact ⟨es, clock, (Below.heap_alloc _ _ r hbl).trans hb, Ft, hs, hD⟩)
  have hs := AnyZ.sorted_in Tryz.sorted86 Fence.wide 5 trivial trivial trivial trivial rfl (by omega) (sorts_any _) (enters_of Tryz.func118 (by kernel_rfl) rfl) 119 #[.pointer (some ⟨w.heap.size, 0, none⟩)] trivial (enters_of Tryz.func119 (by kernel_rfl) rfl) _ _ (by rw [hsz]; unfold maxLen; omega) (by rw [hsz]; omega) _ hseq
  refine (callsIn_wide.1 hs).mono ?_
  rintro e w' ⟨v, ss, rfl, hS, hrow, _, hb⟩
  have hperm : ss.Perm K := hS.trans hD
  have hsort := sort_rise (hperm.nodup_iff.2 hK) hl (fun s => by rw [hperm.mem_iff]; exact hm s)
  have hll : ss.length = l.length := by rw [← hsort]; exact (List.mergeSort_perm ss _).length_eq.symm
  refine ⟨v, rfl, ?_, ?_⟩
  · rw [hsort, hll] at hrow
    exact ownsRow_base_a hrow (Nat.zero_le _)
  · exact (((Chg.refl (fun _ => False) w).alloc _)).trans (Chg.of_below hb) (fun i hi h => by simp at h; omega)
end Go.Proofs.YthglfmacjoecgaaGreatDoor
namespace Go.Proofs.YthglfmacjoecgaaGreatDoor
open Go.RowKit

set_option maxRecDepth 100000 in
theorem clone_any (v : Value) (ss : List Nm) (w : World) (hin : NamesAt w v ss) (hl : ss.length ≤ 1000000) :
    Calls Tryz.prog 77 #[v] w fun e w' => ∃ v', e = .returned v' ∧ QRow w' 9 v' (ss.map nmV) ∧ Chg (fun _ => False) w w' ∧ ∀ k, v'.ownBlock = some k → w.heap.size ≤ k := by
  have hs : StrsAt w v (ss.map bs) := hin
  have hm : (ss.map bs).map Value.string = ss.map nmV := by rw [List.map_map]; rfl
  rcases hs.1 with ⟨rfl, h0⟩ | ⟨a, cap, rfl, hc⟩
  · have hss : ss = [] := by simpa using h0
    subst hss
    have heq := fun W => Lib.run_eql_slice_nil_nil (P := Tryz.prog) W 0 0 Tryz.underlying22
    clear hs hin h0 hm
    go_enter Tryz.func77, Tryz.ntmps77
    go_wp2_with fail
    go_ret
    exact ⟨_, rfl, .inl ⟨rfl, rfl⟩, Chg.refl _ _, fun k h => by cases h⟩
  · have heq := fun W n => Lib.run_eql_slice_some_nil (P := Tryz.prog) W a n cap Tryz.underlying22
    have hq : QRow (w.alloc (.cells #[] 9)) 9 (.slice (some ⟨w.heap.size, 0, none⟩) 0 0) [] := .inr ⟨w.heap.size, 0, 0, #[], rfl, heap_alloc_new' w _, Nat.zero_le _, Nat.zero_le _, Nat.zero_le _, rfl⟩
    have hA : Chg (fun _ => False) w (w.alloc (.cells #[] 9)) := (Chg.refl _ w).alloc _
    have hs2 := hs.chg hA (fun _ _ h => h)
    have HS := hid hs2
    have HQ := hid hq
    have HM := hid hm
    have HL : Hid ((ss.map bs).length ≤ 1000000) := by show (ss.map bs).length ≤ 1000000; simpa using hl
    have HA := hid hA
    clear hin hs hs2 hq hm hc hA hl
    generalize ss.map bs = ssb at *
    go_enter Tryz.func77, Tryz.ntmps77
    go_wp2_with (at_builtin; refine wpList_append_q rfl _ _ 22 rfl elStr HQ.out rfl rfl HS.out (by have := HL.out; unfold maxLen; simp; omega) (by have := HL.out; simp; omega) ?_; intro v1 w1 hq1 hc1 hb1)
    go_ret
    refine ⟨v1, rfl, by rw [← HM.out]; simpa using hq1, HA.out.trans hc1 (fun i hi h => by simp [Value.ownBlock] at h; omega), fun k hk => ?_⟩
    rcases hb1 k hk with h | h
    · simp [Value.ownBlock] at h; omega
    · simp at h; omega

theorem QRow.lenOf {w : World} {e : TypeId} {v : Value} {xs : List Value} (h : QRow w e v xs) : Go.Proofs.YthglfmacjoecgaaGreatDoor.lenOf v = xs.length := by
  rcases h with ⟨rfl, rfl⟩ | ⟨g, o, cap, cur, rfl, _⟩ <;> rfl
/-- The state of the search: what has been taken up, what is still to be. -/
structure NSt (g : GrR) (i : Nat) (K todo : List Nm) : Prop where
  nd : K.Nodup
  a : ∀ s ∈ insAt g i, s ∈ K ∨ s ∈ todo
  b : ∀ t ∈ K, ∀ s ∈ actIns g t, s ∈ K ∨ s ∈ todo
  c : ∀ s, s ∈ K ∨ s ∈ todo → Needs g i s
theorem NSt.start (g : GrR) (i : Nat) : NSt g i [] (insAt g i) := ⟨List.nodup_nil, fun s h => .inr h, (fun t h => absurd h (by simp)), fun s h => by rcases h with h | h; exact absurd h (by simp); exact .base h⟩
theorem NSt.seen {g : GrR} {i : Nat} {K rest : List Nm} {s : Nm} (h : NSt g i K (s :: rest)) (hs : s ∈ K) : NSt g i K rest := by
  have key : ∀ u, u ∈ K ∨ u ∈ s :: rest → u ∈ K ∨ u ∈ rest := by
    intro u hu
    rcases hu with hu | hu
    · exact .inl hu
    · rcases List.mem_cons.1 hu with rfl | hu
      · exact .inl hs
      · exact .inr hu
  exact ⟨h.nd, fun u hu => key u (h.a u hu), fun t ht u hu => key u (h.b t ht u hu), fun u hu => h.c u (hu.imp id (List.mem_cons_of_mem _))⟩
theorem NSt.take {g : GrR} {i : Nat} {K rest : List Nm} {s : Nm} (h : NSt g i K (s :: rest)) (hs : s ∉ K) : NSt g i (K ++ [s]) (rest ++ actIns g s) := by
  have key : ∀ u, u ∈ K ∨ u ∈ s :: rest → u ∈ K ++ [s] ∨ u ∈ rest ++ actIns g s := by
    intro u hu
    rcases hu with hu | hu
    · exact .inl (List.mem_append_left _ hu)
    · rcases List.mem_cons.1 hu with rfl | hu
      · exact .inl (by simp)
      · exact .inr (List.mem_append_left _ hu)
  have hsn : Needs g i s := h.c s (.inr (by simp))
  refine ⟨?_, fun u hu => key u (h.a u hu), fun t ht u hu => ?_, fun u hu => ?_⟩
  · rw [List.nodup_append]
    exact ⟨h.nd, by simp, fun a ha b hb => by simp at hb; subst hb; intro e; exact hs (e ▸ ha)⟩
  · rcases List.mem_append.1 ht with ht | ht
    · exact key u (h.b t ht u hu)
    · simp at ht; subst ht
      exact .inr (List.mem_append_right _ hu)
  · rcases hu with hu | hu
    · rcases List.mem_append.1 hu with hu | hu
      · exact h.c u (.inl hu)
      · simp at hu; subst hu; exact hsn
    · rcases List.mem_append.1 hu with hu | hu
      · exact h.c u (.inr (List.mem_cons_of_mem _ hu))
      · exact .step hsn hu
theorem NSt.le {g : GrR} (hw : Wov g) {i : Nat} (hi : i < g.acts.length) {K todo : List Nm} (h : NSt g i K todo) : K.length ≤ 20 := by
  have h1 := sub_length K (namesL g) h.nd (fun s hs => (h.c s (.inl hs)).names hw hi)
  have h2 := hw.srcs8
  have h3 := hw.acts12
  unfold namesL at h1
  simp at h1
  omega
theorem NSt.done {g : GrR} {i : Nat} {K : List Nm} (h : NSt g i K []) (s : Nm) : s ∈ K ↔ Needs g i s :=
  needs_closed (fun s hs => (h.a s hs).resolve_right (by simp)) (fun t ht s hs => (h.b t ht s hs).resolve_right (by simp)) (fun s hs => h.c s (.inl hs)) s
theorem ins4_le {g : GrR} (hw : Wov g) (i : Nat) : (insAt g i).length ≤ 4 := by
  by_cases hi : i < g.acts.length
  · rw [insAt_lt g i hi]
    exact ((actOK_iff _).1 (((grOK_iff g).1 hw.ok).2.2.2 _ (List.getElem_mem hi))).2.2.1
  · rw [insAt_ge g i hi]; simp
def NeedsPost (g : GrR) (i : Nat) (w : World) (e : Ending) (w' : World) : Prop :=
  Chg (fun _ => False) w w' ∧ ∃ r K, e = .returned (.map (some r)) ∧ w.heap.size ≤ r ∧ SetAt w' r K ∧ K.Nodup ∧ K.length ≤ 20 ∧ ∀ s, s ∈ K ↔ Needs g i s

set_option maxRecDepth 100000 in
set_option maxHeartbeats 4000000 in
theorem needs_any (g : GrR) (hw : Wov g) (i : Nat) (hi : i < g.acts.length) (w : World) (b : Nat) (hb : IsWeb w b g) :
    Calls Tryz.prog 74 #[.pointer (some ⟨b, 0, none⟩), .int .i64 i] w (NeedsPost g i w) := by
  have hmm := @run_makeMap Tryz.prog
  obtain ⟨sv, av, iv, r, lm, hb⟩ := hb
  have hn12 := hw.acts12
  have hA : Chg (fun _ => False) w (w.alloc (.map #[] 0)) := (Chg.refl _ w).alloc _
  have k1 := cell_of (hA.obj hb.blk (fun h => h)) 1
  simp at k1
  obtain ⟨bb, oo, hix, hlt, e0, e1, e2, hns, _, _⟩ := (hb.acts.chg hA (fun _ _ h => h)).at i hi
  have hin := insAt_lt g i hi
  have hcl := clone_any (iv i) g.acts[i].ins _ hns (by have := ins4_le hw i; rw [hin] at this; omega)
  rw [← hin] at hcl
  have hset := SetAt.fresh w
  have HB := hid hb
  have HW := hid hw
  have HA := hid hA
  have HSET := hid hset
  clear hb hw hns hset hin hA e0 e2
  go_enter Tryz.func74, Tryz.ntmps74
  go_wp2_with (go_at_call 77; refine hcl.mono ?_; rintro e w2 ⟨v2, rfl, hq2, hc2, hv2⟩)
  generalize hW1 : w.alloc (.map #[] 0) = W1 at *
  have z1 : W1.heap.size = w.heap.size + 1 := by rw [← hW1]; simp
  obtain ⟨r0, hr0⟩ : ∃ r0, r0 = w.heap.size := ⟨_, rfl⟩
  rw [← hr0] at HSET z1 ⊢
  have hset2 := HSET.out.chg hc2 (fun h => h)
  have HQ2 := hid hq2
  have HC2 := hid hc2
  have HV2 : Hid (∀ k, v2.ownBlock = some k → r0 < k) := hid (fun k hk => by have := hv2 k hk; omega)
  have HS2 := hid hset2
  have HI4 := hid (ins4_le HW.out i)
  have HZ1 := hid z1
  have HR0 := hid hr0
  clear hmm hcl hq2 hc2 hv2 hset2 hW1 z1 hr0 hix e1 k1 HSET hlt
  go_loopw [6] (fun v wr => ∃ (K todo : List Nm) (x : Value), x = v ∧ NSt g i K todo ∧ (20 - K.length) * 5 + todo.length ≤ 200 ∧ QRow wr 9 x (todo.map nmV) ∧ (∀ k, x.ownBlock = some k → r0 < k) ∧ SetAt wr r0 K ∧ Chg (fun k => k = r0) W1 wr) (fun v wr => (20 - mapLen wr r0) * 5 + lenOf v)
  case atStart => exact ⟨[], insAt g i, _, rfl, NSt.start g i, (by have := HI4.out; simp; omega), HQ2.out, HV2.out, HS2.out, HC2.out.mono (fun _ _ h => h.elim)⟩
  case round =>
    obtain ⟨K, todo, v, hv, hst, hbd, hq, hbl, hset, hch⟩ := hrel
    subst hv
    have HST := hid hst
    have HBD := hid hbd
    have HBL := hid hbl
    have HSET := hid hset
    have HC := hid hch
    have HFAR : Hid (∀ W, Chg (fun k => k = r0) W1 W → Chg (fun _ => False) w W) := hid (fun W hW => HA.out.trans hW (fun i hi h => by have := HR0.out; omega))
    have k1 := cell_of ((HFAR.out _ hch).obj HB.out.blk (fun h => h)) 1
    have k2 := cell_of ((HFAR.out _ hch).obj HB.out.blk (fun h => h)) 2
    simp at k1 k2
    clear hst hbd hbl hset hch HQ2 HC2 HV2 HS2
    cases todo with
    | nil =>
      obtain ⟨oo2, c2, rfl⟩ : ∃ o c, v = .slice o 0 c := by
        rcases hq with ⟨rfl, _⟩ | ⟨g1, o1, cap1, cur1, rfl, _⟩
        · exact ⟨_, _, rfl⟩
        · exact ⟨_, _, rfl⟩
      clear hq
      go_wp2_with fail
      go_ret
      exact ⟨HFAR.out _ HC.out, r0, K, rfl, (by have := HR0.out; omega), HSET.out, HST.out.nd, HST.out.le HW.out hi, HST.out.done⟩
    | cons s rest =>
      rw [List.map_cons] at hq
      have hu := hq.uncons
      rw [List.length_map] at hu
      obtain ⟨g1, o1, cap1, rfl, hc1, hcm, hhd, hg1, hq2⟩ := hu
      have hsl := run_tail (P := Tryz.prog) Tryz.underlying22 Tryz.sizeOf9 g1 o1 rest.length cap1 hc1 hcm
      have hlenq : ∀ W ty, (Builtin.len_ #[22] ty #[.slice (some ⟨g1, o1, none⟩) (rest.length + 1) cap1]).run Tryz.prog W = .ok (.int .i64 ((rest.length : Int) + 1)) W := fun W ty => by
        simp [Builtin.len_, run_underlying Tryz.underlying22]; rfl
      generalize (if cap1 = 1 then o1 else o1 + 1) = o2 at hsl hq2
      have hpos : (0 : Int) < (rest.length : Int) + 1 := by omega
      have hixq : ∀ W, (Instr.indexAt 22 (.slice (some ⟨g1, o1, none⟩) (rest.length + 1) cap1) (.int .i64 0)).run Tryz.prog W = .ok (.pointer (some ⟨g1, o1, none⟩)) W := fun W => by
        simp [Instr.indexAt, run_underlying Tryz.underlying22, asIntOf, Tryz.sizeOf9, Addr.add]
      have HQ2 := hid hq2
      have hval := setL_val s K
      have hv2 : ((lval s (setL K)).map boolV).getD (.bool false) = .bool (K.contains s) := by
        rw [← hval]; cases lval s (setL K) <;> rfl
      have hmp := HSET.out.map
      have HMP := hid hmp
      have HO1 : Hid (r0 < g1) := by have := HBL.out g1 rfl; exact hid this
      generalize hn0 : rest.length = n0 at *
      have HN0 := hid hn0
      generalize hvv : Value.slice (some ⟨g1, o1, none⟩) (n0 + 1) cap1 = vq at *
      have HVV := hid hvv
      clear hq hq2 hval hmp hcm hn0 hvv
      by_cases hK : s ∈ K
      · have hct : K.contains s = true := by simpa using hK
        rw [hct] at hv2
        have HV := hid hv2
        have HK := hid hK
        clear hv2 hct hK
        go_wp2_with (at_lookup; refine wpList_lookup_v rfl _ _ 139 rfl keyNm Tryz.underlying139 (zeroB _) HMP.out rfl s rfl _ HV.out ?_; go_frame)
        go_roundw
        case rel =>
          exact ⟨K, rest, _, rfl, HST.out.seen HK.out, (by have := HBD.out; simp at this; omega), HQ2.out, (fun k hk => by simp [Value.ownBlock] at hk; have := HO1.out; omega), HSET.out, HC.out⟩
        case measure => rw [← HVV.out]; simp [lenOf]
      · have hct : K.contains s = false := by simpa using hK
        rw [hct] at hv2
        have HV := hid hv2
        have HK := hid hK
        have hle := HST.out.take hK |>.le HW.out hi
        simp at hle
        have hsn := HST.out.c s (.inr (by simp)) |>.names HW.out hi
        have HLE := hid hle
        have hST2 := HST.out.take hK
        clear hv2 hct hK hle
        rcases HW.out.src_or hsn with ⟨h1, h2⟩ | ⟨j, hj, h1, h2, h3⟩
        · have hai : actIns g s = [] := by unfold actIns; rw [h2]
          rw [hai, List.append_nil] at hST2
          have hv3 : ((lval s lm).map intV).getD (.int .i64 0) = .int .i64 (-1) := by rw [HB.out.look]; unfold atV; rw [h2]; simp [h1]
          have HV3 := hid hv3
          have HST2 := hid hST2
          clear hv3 hST2 hai h1 h2 hsn
          go_wp2_with (first | (at_lookup; refine wpList_lookup_v rfl _ _ 139 rfl keyNm Tryz.underlying139 (zeroB _) HMP.out rfl s rfl _ HV.out ?_) | (at_mapUpdate; refine wpList_put_set rfl _ _ _ 139 rfl keyNm Tryz.underlying139 HSET.out rfl s HK.out rfl rfl ?_; intro w5 hset5 hc5; have HC5 := hid (HC.out.trans hc5 (fun _ _ h => h)); have d2 := cell_of ((HFAR.out _ HC5.out).obj HB.out.blk (fun h => h)) 2; simp at d2) | (at_lookup; refine wpList_lookup_v rfl _ _ 148 rfl keyNm Tryz.underlying148 (zeroI _) (HB.out.map.chg (HFAR.out _ HC5.out) (fun h => h)) rfl s rfl _ HV3.out ?_))
          go_roundw
          case rel =>
            exact ⟨K ++ [s], rest, _, rfl, HST2.out, (by have := HBD.out; have := HLE.out; simp at *; omega), HQ2.out.chg hc5 (fun k hk h => by simp [Value.ownBlock] at hk; have := HO1.out; omega), (fun k hk => by simp [Value.ownBlock] at hk; have := HO1.out; omega), hset5, HC5.out⟩
          case measure =>
            rw [← HVV.out, hset5.len, HSET.out.len]
            have := HLE.out
            simp [lenOf]
            omega
        · have hai : actIns g s = insAt g j := by unfold actIns; rw [h2]
          rw [hai] at hST2
          have hv3 : ((lval s lm).map intV).getD (.int .i64 0) = .int .i64 j := by rw [HB.out.look]; unfold atV; rw [h2]; rfl
          have HV3 := hid hv3
          have HST2 := hid hST2
          have HJ := hid hj
          have hj0 : (0 : Int) ≤ (j : Int) := by omega
          have HB4 : Hid ((rest.map nmV).length + (g.acts[j].ins.map bs).length ≤ 1000) := by
            show (rest.map nmV).length + (g.acts[j].ins.map bs).length ≤ 1000
            have h4 := ins4_le HW.out j
            rw [insAt_lt g j hj] at h4
            have := HBD.out
            simp at this ⊢
            omega
          have HEQ : Hid (rest.map nmV ++ (g.acts[j].ins.map bs).map .string = (rest ++ insAt g j).map nmV) := by
            show _ = _
            rw [insAt_lt g j hj, List.map_append, List.map_map]
            rfl
          clear hv3 hST2 hai h1 h2 h3 hsn hj
          go_wp2_with (first | (at_lookup; refine wpList_lookup_v rfl _ _ 139 rfl keyNm Tryz.underlying139 (zeroB _) HMP.out rfl s rfl _ HV.out ?_) | (at_mapUpdate; refine wpList_put_set rfl _ _ _ 139 rfl keyNm Tryz.underlying139 HSET.out rfl s HK.out rfl rfl ?_; intro w5 hset5 hc5; have HC5 := hid (HC.out.trans hc5 (fun _ _ h => h)); have d1 := cell_of ((HFAR.out _ HC5.out).obj HB.out.blk (fun h => h)) 1; have d2 := cell_of ((HFAR.out _ HC5.out).obj HB.out.blk (fun h => h)) 2; simp at d1 d2; obtain ⟨b3, o3, hi3, hlt3, _, p1, _, hn3, _, _⟩ := (HB.out.acts.chg (HFAR.out _ HC5.out) (fun _ _ h => h)).at j HJ.out; have HN3 := hid hn3; clear hn3 hlt3) | (at_lookup; refine wpList_lookup_v rfl _ _ 148 rfl keyNm Tryz.underlying148 (zeroI _) (HB.out.map.chg (HFAR.out _ HC5.out) (fun h => h)) rfl s rfl _ HV3.out ?_) | (at_builtin; refine wpList_append_q rfl _ _ 22 rfl elStr (HQ2.out.chg hc5 (fun k hk h => by simp [Value.ownBlock] at hk; have := HO1.out; omega)) rfl rfl HN3.out (by have := HB4.out; unfold maxLen; omega) (by have := HB4.out; omega) ?_; intro v6 w6 hq6 hc6 hb6))
          go_roundw
          case rel =>
            refine ⟨K ++ [s], rest ++ insAt g j, _, rfl, HST2.out, ?_, Eq.mp (congrArg (QRow w6 9 v6) HEQ.out) hq6, fun k hk => ?_, hset5.chg hc6 (fun h => by simp [Value.ownBlock] at h; have := HO1.out; omega), HC5.out.trans hc6 (fun k hk h => by simp [Value.ownBlock] at h; have := HO1.out; have := HZ1.out; omega)⟩
            · have := HBD.out; have := HLE.out; have := ins4_le HW.out j; simp at *; omega
            · rcases hb6 k hk with h | h
              · simp [Value.ownBlock] at h; have := HO1.out; omega
              · have := hset5.lt; omega
          case measure =>
            have hs6 : SetAt w6 r0 (K ++ [s]) := hset5.chg hc6 (fun h => by simp [Value.ownBlock] at h; have := HO1.out; omega)
            have hl6 := hq6.lenOf
            have := HLE.out
            have := HB4.out
            have h4 := ins4_le HW.out j
            rw [insAt_lt g j HJ.out] at h4
            have := HN0.out
            rw [← HVV.out, hs6.len, HSET.out.len, hl6]
            simp [Go.Proofs.YthglfmacjoecgaaGreatDoor.lenOf]
            omega
end Go.Proofs.YthglfmacjoecgaaGreatDoor
namespace Go.Proofs.YthglfmacjoecgaaGreatDoor
open Go.RowKit

/-- Needs' answer. -/
def needsOf (g : GrR) (s : Nm) : List Nm := if checkR g = 0 then (match placeOf g s with | some i => needsR g i | none => []) else []
def NmsPost (w : World) (l : List Nm) (e : Ending) (w' : World) : Prop := Chg (fun _ => False) w w' ∧ ∃ v, e = .returned v ∧ w'.ownsRow 0 9 1 v l.length (l.map nmV)
theorem name_le {g : GrR} (hw : Wov g) {s : Nm} (hs : s ∈ namesL g) : s.length ≤ 8 := by
  have h := (grOK_iff g).1 hw.ok
  rcases mem_names.1 hs with h1 | ⟨i, hi, rfl⟩
  · exact (nameL_let (h.2.2.1 s h1)).2.1
  · rw [nameAt_lt g i hi]
    exact (nameL_let ((actOK_iff _).1 (h.2.2.2 _ (List.getElem_mem hi))).1).2.1

set_option maxRecDepth 100000 in
set_option maxHeartbeats 4000000 in
theorem tneeds_any (g : GrR) (s : Nm) (v : Value) (w : World) (hg : GrAt w v g) : Calls Tryz.prog 51 #[v, .string (bs s)] w (NmsPost w (needsOf g s)) := by
  obtain ⟨oa, c, ob, d, iv, rfl, hs, ha⟩ := hg.form
  have hC1 : Chg (fun _ => False) w (w.alloc (.cells #[.slice oa g.srcs.length c, .slice ob g.acts.length d] 25)) := (Chg.refl _ w).alloc _
  have hwv := checked_any g _ _ (hg.chg hC1 (fun _ _ h => h))
  unfold CheckedPost at hwv
  clear hs ha hg
  by_cases hz : checkR g = 0
  · have hcan := can_iff.1 hz
    have hwv2 : Calls Tryz.prog 73 #[.agg #[.slice oa g.srcs.length c, .slice ob g.acts.length d]] (w.alloc (.cells #[.slice oa g.srcs.length c, .slice ob g.acts.length d] 25)) (fun e w' => ∃ b, e = .returned (.tuple #[.pointer (some ⟨b, 0, none⟩), .int .i64 0]) ∧ Chg (fun _ => False) (w.alloc (.cells #[.slice oa g.srcs.length c, .slice ob g.acts.length d] 25)) w' ∧ IsWeb w' b g) :=
      hwv.mono (fun e w' ⟨h1, h2⟩ => by
        rcases h2 with ⟨_, b, h3, h4⟩ | ⟨h3, _⟩
        · exact ⟨b, h3, h1, h4⟩
        · exact absurd hz h3)
    have HCAN := hid hcan
    cases hp : placeOf g s with
    | none =>
      have hr : needsOf g s = [] := by unfold needsOf; rw [if_pos hz, hp]
      have HP := hid hp
      rw [hr]
      clear hz hr hwv hcan hp
      by_cases hsrc : s ∈ g.srcs
      · have hav : atV g s = some (-1) := by unfold atV; rw [HP.out]; simp [hsrc]
        have HAV := hid hav
        clear hav hsrc
        go_enter Tryz.func51, Tryz.ntmps51
        go_wp2_with (first | (go_at_call 73; refine hwv2.mono ?_; rintro e w2 ⟨b, rfl, hc2, ⟨sv, av, iv2, r, lm, hb2⟩⟩; have HB2 := hid hb2; have d2 := cell_of hb2.blk 2; clear hb2; simp at d2; have HV : Hid (((lval s lm).map intV).getD (.int .i64 0) = .int .i64 (-1)) := hid (by rw [HB2.out.look, HAV.out]; rfl); have HV2 : Hid ((lval s lm).isSome = true) := hid (by rw [HB2.out.look, HAV.out]; rfl)) | (at_lookup; refine wpList_lookup_ok rfl _ _ 148 rfl keyNm Tryz.underlying148 (zeroI _) HB2.out.map rfl s rfl _ HV.out true HV2.out ?_))
        go_ret
        exact ⟨hC1.trans hc2 (fun _ _ h => h), _, rfl, World.ownsRow_nil _ _ _ _⟩
      · have hav : atV g s = none := by unfold atV; rw [HP.out]; simp [hsrc]
        have HAV := hid hav
        clear hav hsrc
        go_enter Tryz.func51, Tryz.ntmps51
        go_wp2_with (first | (go_at_call 73; refine hwv2.mono ?_; rintro e w2 ⟨b, rfl, hc2, ⟨sv, av, iv2, r, lm, hb2⟩⟩; have HB2 := hid hb2; have d2 := cell_of hb2.blk 2; clear hb2; simp at d2; have HV : Hid (((lval s lm).map intV).getD (.int .i64 0) = .int .i64 0) := hid (by rw [HB2.out.look, HAV.out]; rfl); have HV2 : Hid ((lval s lm).isSome = false) := hid (by rw [HB2.out.look, HAV.out]; rfl)) | (at_lookup; refine wpList_lookup_ok rfl _ _ 148 rfl keyNm Tryz.underlying148 (zeroI _) HB2.out.map rfl s rfl _ HV.out false HV2.out ?_))
        go_ret
        exact ⟨hC1.trans hc2 (fun _ _ h => h), _, rfl, World.ownsRow_nil _ _ _ _⟩
    | some i =>
      have hr : needsOf g s = needsR g i := by unfold needsOf; rw [if_pos hz, hp]
      have hi := (placeOf_some hp).1
      have hav : atV g s = some (i : Int) := by unfold atV; rw [hp]
      have HAV := hid hav
      have HI := hid hi
      have hi0 : ¬ (i : Int) < 0 := by omega
      rw [hr]
      clear hz hr hwv hcan hp hav hi
      go_enter Tryz.func51, Tryz.ntmps51
      go_wp2_with (first | (go_at_call 73; refine hwv2.mono ?_; rintro e w2 ⟨b, rfl, hc2, ⟨sv, av, iv2, r, lm, hb2⟩⟩; have HB2 := hid hb2; have d2 := cell_of hb2.blk 2; clear hb2; simp at d2; have HV : Hid (((lval s lm).map intV).getD (.int .i64 0) = .int .i64 i) := hid (by rw [HB2.out.look, HAV.out]; rfl); have HV2 : Hid ((lval s lm).isSome = true) := hid (by rw [HB2.out.look, HAV.out]; rfl)) | (at_lookup; refine wpList_lookup_ok rfl _ _ 148 rfl keyNm Tryz.underlying148 (zeroI _) HB2.out.map rfl s rfl _ HV.out true HV2.out ?_) | (go_at_call 74; refine (needs_any g HCAN.out.w i HI.out w2 b ⟨sv, av, iv2, r, lm, HB2.out⟩).mono ?_; rintro e w3 ⟨hc3, r3, K, rfl, hr3, hs3, hnd, hlK, hmK⟩; have HS3 := hid hs3; have HND := hid hnd; have HLK := hid hlK; have HMK := hid hmK; have HC3 := hid hc3; clear hs3 hnd hlK hmK hc3 hr3) | (go_at_call 87; refine (keys_any _ _).mono ?_; rintro e w4 ⟨rfl, rfl⟩) | (go_at_call 86; refine (sorted_any r3 K (needsR g i) w3 HS3.out (fun t ht => by have := name_le HCAN.out.w (((HMK.out t).1 ht).names HCAN.out.w HI.out); unfold maxLen; omega) (by have := HLK.out; omega) HND.out (needsR_rise g i) (fun t => (HMK.out t).trans (HCAN.out.mem_needs HI.out).symm)).mono ?_; rintro e w5 ⟨v5, rfl, hown5, hc5⟩))
      go_ret
      exact ⟨((hC1.trans hc2 (fun _ _ h => h)).trans HC3.out (fun _ _ h => h)).trans hc5 (fun _ _ h => h), v5, rfl, hown5⟩
  · have hr : needsOf g s = [] := by unfold needsOf; rw [if_neg hz]
    have hwv2 : Calls Tryz.prog 73 #[.agg #[.slice oa g.srcs.length c, .slice ob g.acts.length d]] (w.alloc (.cells #[.slice oa g.srcs.length c, .slice ob g.acts.length d] 25)) (Rets (.tuple #[.pointer none, .int .i64 (checkR g)]) (Chg (fun _ => False) (w.alloc (.cells #[.slice oa g.srcs.length c, .slice ob g.acts.length d] 25)))) :=
      hwv.mono (fun e w' ⟨h1, h2⟩ => by
        rcases h2 with ⟨h3, _⟩ | ⟨_, h3⟩
        · exact absurd h3 hz
        · exact ⟨h3, h1⟩)
    have hne : ((checkR g : Int) == 0) = false := by simp; omega
    have hne2 : ¬ (checkR g : Int) = 0 := by omega
    rw [hr]
    clear hz hr hwv
    generalize checkR g = n at *
    go_enter Tryz.func51, Tryz.ntmps51
    go_wp2_with (go_at_call 73; refine hwv2.mono ?_; rintro e w2 ⟨rfl, hc2⟩)
    go_ret
    exact ⟨hC1.trans hc2 (fun _ _ h => h), _, rfl, World.ownsRow_nil _ _ _ _⟩
end Go.Proofs.YthglfmacjoecgaaGreatDoor
namespace Go.Proofs.YthglfmacjoecgaaGreatDoor
open Go.RowKit

end Go.Proofs.YthglfmacjoecgaaGreatDoor
namespace Go.Proofs.YthglfmacjoecgaaGreatDoor
open Go.RowKit

theorem beq_dec (a b : List UInt8) : (a == b) = decide (a = b) := by by_cases h : a = b <;> simp [h]
theorem bs_eq (a b : List UInt8) : ((bs a).toList == (bs b).toList) = decide (a = b) := by
  rw [Lib.toList_data, Lib.toList_data, bs_data, bs_data]
  exact beq_dec a b


end Go.Proofs.YthglfmacjoecgaaGreatDoor
