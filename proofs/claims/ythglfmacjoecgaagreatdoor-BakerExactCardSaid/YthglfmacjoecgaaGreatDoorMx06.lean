/- Texts of the proof, one behind the other: A slice of the call's own that is shortened from the front and appended to: elements of one cell; Sets of names in maps; slices.Sorted(maps.Keys(m)) at such a set; what is sorted so; slices.Clone at names, (*web).needs walked; trellis.Needs, Dirty walked; trellis.Dirty walked; apiaryref07.IsName, apiaryref01.Same walked; apiaryref07.Code walked; apiaryref07.good walked; apiaryref07.Print walked; apiarylaw08: action, in; apiaryref08.Ints walked; Actions in a row of the call's own, names in such a row: read as a build's. -/
import Derived.Test.YthglfmacjoecgaaGreatDoorMx01
import Derived.Test.YthglfmacjoecgaaGreatDoorMx05
import Derived.Test.YthglfmacjoecgaaGreatDoorIter
import Derived.Lib.BufferMore
import Derived.Test.YthglfmacjoecgaaGreatDoorMx02
namespace Go.Proofs.YthglfmacjoecgaaGreatDoor
open Go.RowKit

/-- v is a slice of the values xs; they lie in a block that may be written. -/
def QRow (w : World) (e : TypeId) (v : Value) (xs : List Value) : Prop :=
  (v = .slice none 0 0 ∧ xs = []) ∨ ∃ g o cap cur, v = .slice (some ⟨g, o, none⟩) xs.length cap ∧ w.heap[g]? = some (.cells cur e (0, 0)) ∧ xs.length ≤ cap ∧ cap ≤ maxLen ∧ o + cap ≤ cur.size ∧ (cur.toList.drop o).take xs.length = xs
section
variable {P : Program} {w w' : World} {e : TypeId} {v : Value} {xs : List Value}
theorem QRow.of_owns {n : Nat} (h : w.ownsRow 0 e 1 v n xs) : QRow w e v xs := by
  obtain ⟨hl, h⟩ := h
  rcases h with ⟨rfl, rfl⟩ | ⟨g, cap, cur, rfl, _, hg, hnc, hcm, hcs, ht⟩
  · exact .inl ⟨rfl, List.length_eq_zero_iff.1 (by simpa using hl)⟩
  · have hl : xs.length = n := by simpa using hl
    subst hl
    exact .inr ⟨g, 0, cap, cur, rfl, hg, hnc, hcm, by rw [hcs]; omega, by simpa using ht⟩
theorem QRow.chg {F : Nat → Prop} (h : QRow w e v xs) (hc : Chg F w w') (hn : ∀ k, v.ownBlock = some k → ¬ F k) : QRow w' e v xs := by
  rcases h with h | ⟨g, o, cap, cur, rfl, hg, r⟩
  · exact .inl h
  · exact .inr ⟨g, o, cap, cur, rfl, hc.obj hg (hn g rfl), r⟩
theorem QRow.lt (h : QRow w e v xs) : ∀ k, v.ownBlock = some k → k < w.heap.size := by
  rcases h with ⟨rfl, _⟩ | ⟨g, o, cap, cur, rfl, hg, _⟩
  · intro k hk; cases hk
  · intro k hk
    simp [Value.ownBlock] at hk
    subst hk
    exact heap_lt hg
theorem run_append_at (t ty : TypeId) (i : TypeInfo) (ht : P.underlying t = some (.slice e)) (hi : P.info? e = some i) (h1s : i.size = 1)
    (g o n cap : Nat) (cur : Array Value) (hg : w.heap[g]? = some (.cells cur e (0, 0)))
    (a : Addr) (m c : Nat) (news : List Value) (hl : news.length = m) (hnews : ∀ j u, news[j]? = some u → w.cell? (a.add j) = some u) (h1 : ∀ u ∈ news, u.oneCell' = true)
    (hroom : n + m ≤ cap) (hfit : o + n + news.length ≤ cur.size) :
    (Builtin.append_ #[t, t] ty #[.slice (some ⟨g, o, none⟩) n cap, .slice (some a) m c]).run P w =
      .ok (.slice (some ⟨g, o, none⟩) (n + m) cap) (w.setRow g (cur.toList.take (o + n) ++ news ++ cur.toList.drop (o + n + news.length)).toArray) := by
  have hf := run_firstCells_some (P := P) w i.size m a m c news (by rw [hl, h1s]; omega) hnews
  have hst := run_storeCells_at P g (o + n) e news 0 cur w hg (by simpa using hfit) h1
  simp only [Nat.add_zero] at hst
  rw [h1s] at hf
  have hadd : (⟨g, o, none⟩ : Addr).add n = ⟨g, o + n, none⟩ := by unfold Addr.add; split <;> simp_all
  simp [Builtin.append_, run_underlying ht, sizeOf, typeInfo, hi, Builtin.lenOf, hroom, h1s, hf, hadd, hst]

theorem QRow.append {t : TypeId} {bytes : Nat} (T : ElT P t e 1 bytes) (h : QRow w e v xs) (ty : TypeId)
    (a : Addr) (m c : Nat) (news : List Value) (hl : news.length = m) (hnews : ∀ j u, news[j]? = some u → w.cell? (a.add j) = some u) (h1 : ∀ u ∈ news, u.oneCell' = true)
    (h63 : xs.length + m ≤ maxLen) (hbytes : (xs.length + m) * bytes ≤ 140737488355328) :
    ∃ v' w', (Builtin.append_ #[t, t] ty #[v, .slice (some a) m c]).run P w = .ok v' w' ∧ QRow w' e v' (xs ++ news) ∧ Chg (fun k => v.ownBlock = some k) w w' ∧ (∀ k, v'.ownBlock = some k → v.ownBlock = some k ∨ w.heap.size ≤ k) := by
  obtain ⟨i, z, hi, hz, h2, h3, h4, _⟩ := T.info
  have T2 := T.ht
  rcases h with ⟨rfl, rfl⟩ | ⟨g, o, cap, cur, rfl, hg, hlc, hm, hcs, ht⟩
  · obtain ⟨v', w', hr, r1, r2, r3, r4⟩ := run_append_chg (P := P) w t ty e i z 1 bytes T2 hi hz h2 h3 h4 T.pos (.slice none 0 0) 0 [] (World.ownsRow_nil _ _ _ _) a m c news (by rw [hl]; omega) hnews h1 (by simpa using h63) (by simpa using hbytes)
    exact ⟨v', w', hr, QRow.of_owns r1, r2, r3⟩
  · by_cases hroom : xs.length + m ≤ cap
    · refine ⟨_, _, run_append_at t ty i T2 hi h2 g o xs.length cap cur hg a m c news hl hnews h1 hroom (by rw [hl]; omega), .inr ⟨g, o, cap, _, by rw [List.length_append, hl], setRow_heap w g cur _ e _ hg, by rw [List.length_append, hl]; exact hroom, hm, ?_, ?_⟩, ?_, fun k hk => .inl hk⟩
      · have hcl : cur.toList.length = cur.size := Array.length_toList
        simp only [List.size_toArray, List.length_append, List.length_take, List.length_drop]
        omega
      · have hcl : cur.toList.length = cur.size := Array.length_toList
        rw [List.append_assoc, List.take_add, List.append_assoc]
        have hA : (cur.toList.take o).length = o := by simp; omega
        rw [List.drop_append_of_le_length (by omega), List.drop_of_length_le (by omega), List.nil_append, ht, ← List.append_assoc]
        exact List.take_left
      · exact (Chg.refl (fun k => (Value.slice (some ⟨g, o, none⟩) xs.length cap).ownBlock = some k) w).setRow (g := g) (fun _ => rfl) _
    · obtain ⟨hlo, hh⟩ : xs.length = xs.length * i.size ∧ ∀ j u, xs[j]? = some u → w.cell? ((⟨g, o, none⟩ : Addr).add j) = some u := by
        refine ⟨by rw [h2]; omega, fun j u hj => ?_⟩
        have hadd : (⟨g, o, none⟩ : Addr).add j = ⟨g, o + j, none⟩ := by unfold Addr.add; split <;> simp_all
        rw [hadd, cell_of hg, ← Array.getElem?_toList]
        have hj2 := hj
        rw [← ht, List.getElem?_take] at hj2
        split at hj2
        · rw [List.getElem?_drop] at hj2; exact hj2
        · cases hj2
      have hgr := run_append_grow (P := P) w t ty e i z T2 hi hz ⟨g, o, none⟩ xs.length cap xs hlo hh a m c news (by rw [h2, hl]; omega) hnews (by omega) (by simp only [maxLen] at h63; omega) (growslice_fits (by omega) (by rw [h3]; exact hbytes))
      refine ⟨_, _, hgr, ?_, ((Chg.refl _ w).drew).alloc _, fun k hk => ?_⟩
      · refine .inr ⟨w.heap.size, 0, grownCap w (xs.length + m) cap e, _, by rw [List.length_append, hl], heap_alloc_new w.drew _, ?_, ?_, ?_, ?_⟩
        · rw [List.length_append, hl]; exact grownCap_ge _ _ _ _
        · exact grownCap_le_maxLen w _ _ e h63
        · have hge := grownCap_ge w (xs.length + m) cap e
          simp only [Array.size_append, List.size_toArray, size_zeroCells, h4, hl]
          omega
        · simp only [Array.toList_append, List.append_assoc, List.drop_zero]
          rw [← List.append_assoc]
          exact List.take_left
      · simp [Value.ownBlock] at hk
        exact .inr (by omega)
theorem QRow.append_none {t : TypeId} {bytes : Nat} (T : ElT P t e 1 bytes) (h : QRow w e v xs) (ty : TypeId) :
    (Builtin.append_ #[t, t] ty #[v, .slice none 0 0]).run P w = .ok v w := by
  obtain ⟨i, z, hi, hz, h2, h3, h4, _⟩ := T.info
  rcases h with ⟨rfl, rfl⟩ | ⟨g, o, cap, cur, rfl, hg, hlc, hm, hcs, ht⟩
  · simp [Builtin.append_, run_underlying T.ht, sizeOf, typeInfo, hi, Builtin.lenOf, Builtin.firstCells]
  · simp [Builtin.append_, run_underlying T.ht, sizeOf, typeInfo, hi, Builtin.lenOf, Builtin.firstCells, hlc, storeCells]
/-- A slice of strings laid behind it. -/
theorem QRow.append_strs {t : TypeId} {bytes : Nat} (T : ElT P t e 1 bytes) (h : QRow w e v xs) (ty : TypeId) {sv : Value} {ss : List ByteArray} (hs : StrsAt w sv ss)
    (h63 : xs.length + ss.length ≤ maxLen) (hbytes : (xs.length + ss.length) * bytes ≤ 140737488355328) :
    ∃ v' w', (Builtin.append_ #[t, t] ty #[v, sv]).run P w = .ok v' w' ∧ QRow w' e v' (xs ++ ss.map .string) ∧ Chg (fun k => v.ownBlock = some k) w w' ∧ (∀ k, v'.ownBlock = some k → v.ownBlock = some k ∨ w.heap.size ≤ k) := by
  rcases hs.1 with ⟨rfl, rfl⟩ | ⟨a, cap, rfl, hc⟩
  · exact ⟨v, w, h.append_none T ty, by simpa using h, Chg.refl _ _, fun k hk => .inl hk⟩
  · refine h.append T ty a ss.length cap (ss.map .string) (by simp) (fun j u hj => ?_) (fun u hu => ?_) h63 hbytes
    · rw [List.getElem?_map] at hj
      obtain ⟨y, hy, rfl⟩ := Option.map_eq_some_iff.1 hj
      obtain ⟨hlt, rfl⟩ := List.getElem?_eq_some_iff.1 hy
      exact hc j hlt
    · obtain ⟨y, _, rfl⟩ := List.mem_map.1 hu
      rfl
theorem wpList_append_q {ops : Array Oper} {rest : List Oper} {o : Oper} {a : Act} {Q : Exit → Act → World → Prop} (hgd : o.guard = none) (s x : Operand) (t : TypeId)
    (ho : o.op = .call { callee := .builtin .append, args := #[s, x], argTypes := #[t, t] }) {bytes : Nat} (T : ElT P t e 1 bytes)
    (hq : QRow w e v xs) (hs : a.eval s = v) {sv : Value} {ss : List ByteArray} (hx : a.eval x = sv) (hsrc : StrsAt w sv ss)
    (h63 : xs.length + ss.length ≤ maxLen) (hbytes : (xs.length + ss.length) * bytes ≤ 140737488355328)
    (h : ∀ v' w', QRow w' e v' (xs ++ ss.map .string) → Chg (fun k => v.ownBlock = some k) w w' → (∀ k, v'.ownBlock = some k → v.ownBlock = some k ∨ w.heap.size ≤ k) → wpList P ops Q rest (a.put o.dst v') w') :
    wpList P ops Q (o :: rest) a w :=
  wpList_plain hgd fun _ hK => by
    obtain ⟨v', w', hr, h2, h3, h4⟩ := hq.append_strs T o.type hsrc h63 hbytes
    unfold Oper.wp execOp
    simp only [ho, resolve, invoke, builtin, Sem.run_bind, Sem.run_pure, Result.andThen_ok, List.map_toArray, List.map_cons, List.map_nil, hs, hx, hr]
    exact hK _ _ (h v' w' h2 h3 h4)
end
end Go.Proofs.YthglfmacjoecgaaGreatDoor
namespace Go.Proofs.YthglfmacjoecgaaGreatDoor
open Go.RowKit Go.Maps Go.Sort Go.Shelf

def setL (K : List Nm) : List (Nm × Bool) := K.map fun s => (s, true)
/-- Block r is a map that holds the names K, each once. -/
def SetAt (w : World) (r : Nat) (K : List Nm) : Prop :=
  ∃ es clock, w.heap[r]? = some (.map es clock) ∧ es.toList.map (fun e => (e.key, e.val)) = (setL K).map (fun p => (nmV p.1, boolV p.2)) ∧ MapKept.Stamped es clock
section
variable {w w' : World} {r : Nat} {K : List Nm}
theorem SetAt.map (h : SetAt w r K) : MapL w r nmV boolV (setL K) := by obtain ⟨es, clock, h1, h2, _⟩ := h; exact ⟨es, clock, h1, h2⟩
theorem SetAt.lt (h : SetAt w r K) : r < w.heap.size := h.map.lt
theorem SetAt.chg {F : Nat → Prop} (h : SetAt w r K) (hc : Chg F w w') (hF : ¬ F r) : SetAt w' r K := by
  obtain ⟨es, clock, h1, h2⟩ := h
  exact ⟨es, clock, hc.obj h1 hF, h2⟩
theorem SetAt.fresh (w : World) : SetAt (w.alloc (.map #[] 0)) w.heap.size [] := ⟨#[], 0, heap_alloc_new w _, rfl, by simp [MapKept.Stamped]⟩
def mapLen (w : World) (r : Nat) : Nat := match w.heap[r]? with
  | some (.map es _) => es.size
  | _ => 0
theorem SetAt.len (h : SetAt w r K) : mapLen w r = K.length := by
  obtain ⟨es, clock, h1, h2, _⟩ := h
  unfold mapLen
  rw [h1]
  have := congrArg List.length h2
  simpa [setL] using this
theorem SetAt.put (h : SetAt w r K) {P : Program} {kt t e : TypeId} (KT : KeyT P kt nmV) (ht : P.underlying t = some (.map kt e)) {s : Nm} (hs : s ∉ K) :
    ∃ w', (Instr.mapUpdate t (.map (some r)) (nmV s) (boolV true)).run P w = .ok () w' ∧ SetAt w' r (K ++ [s]) ∧ Chg (fun i => i = r) w w' := by
  obtain ⟨es, clock, h1, h2, h3⟩ := h
  have hf := KT.find boolV es.toList (setL K) s w h2
  have hl : lfind s (setL K) 0 = none := by
    rw [lfind_none]
    intro p hp e
    unfold setL at hp
    obtain ⟨t, ht, rfl⟩ := List.mem_map.1 hp
    exact hs (e ▸ ht)
  rw [hl] at hf
  refine ⟨Go.ChangeMaps.setBlock w r (.map (es.push { key := nmV s, val := boolV true, born := clock }) (clock + 1)), ?_, ⟨es.push { key := nmV s, val := boolV true, born := clock }, clock + 1, ?_, ?_, ?_⟩, setBlock_chg _ _ _⟩
  · simp [Instr.mapUpdate, run_underlying ht, MapKept.run_getObj_map h1, KT.check, hf, MapKept.run_setObj_map _ h1, Go.ChangeMaps.setBlock]
  · simp only [Go.ChangeMaps.setBlock]; rw [Array.getElem?_setIfInBounds_self_of_lt (heap_lt h1)]
  · rw [show setL (K ++ [s]) = setL K ++ [(s, true)] by unfold setL; simp, List.map_append, ← h2]
    simp
  · refine MapKept.stamped_push h3 (fun x hx e => ?_)
    have hx2 : (x.key, x.val) ∈ es.toList.map (fun e => (e.key, e.val)) := List.mem_map.2 ⟨x, hx, rfl⟩
    rw [h2] at hx2
    obtain ⟨p, hp, e2⟩ := List.mem_map.1 hx2
    unfold setL at hp
    obtain ⟨t, ht, rfl⟩ := List.mem_map.1 hp
    simp only [Prod.mk.injEq] at e2
    rw [e] at e2
    have : bs t = bs s := by simpa using e2.1
    exact hs (bs_inj this ▸ ht)
theorem SetAt.owns (h : SetAt w r K) (hl : ∀ s ∈ K, s.length ≤ maxLen) (hn : K.length ≤ maxLen) :
    ∃ D : DataW Unit, w.ownsMap Tryz.prog 9 (plainElem Tryz.prog 4) r K.length D ∧ (strKeys D).Perm K ∧ Maps.size D = K.length := by
  obtain ⟨es, clock, h1, h2, h3⟩ := h
  have hlen : es.size = K.length := by have := congrArg List.length h2; simpa [setL] using this
  have hx : ∀ x ∈ es.toList, ∃ s ∈ K, x.key = nmV s ∧ x.val = .bool true := by
    intro x hx
    have hx2 : (x.key, x.val) ∈ es.toList.map (fun e => (e.key, e.val)) := List.mem_map.2 ⟨x, hx, rfl⟩
    rw [h2] at hx2
    obtain ⟨p, hp, e2⟩ := List.mem_map.1 hx2
    unfold setL at hp
    obtain ⟨t, ht, rfl⟩ := List.mem_map.1 hp
    simp only [Prod.mk.injEq] at e2
    exact ⟨t, ht, e2.1.symm, e2.2.symm⟩
  have hrd : ∀ x ∈ es.toList, ∃ s ∈ K, x.key = nmV s ∧ Go.WideElems.rd Tryz.prog 9 (plainElem (H := Unit) Tryz.prog 4) x = some (.string s, .lit (.bool true)) := by
    intro x hxm
    obtain ⟨s, hs, e1, e2⟩ := hx x hxm
    refine ⟨s, hs, e1, ?_⟩
    obtain ⟨key, val, born⟩ := x
    simp only at e1 e2
    subst e1 e2
    have hk : keyOf Tryz.prog 9 (nmV s) = some (.string (bs s).data.toList) := Go.WideMaps.keyOf_string_mk Tryz.underlying9 (by rw [bs_size]; exact hl s hs)
    rw [bs_data] at hk
    exact Go.WideElems.rd_mk hk (plainElem_bool Tryz.underlying4 true)
  refine ⟨_, ⟨es, clock, h1, ⟨by rw [hlen]; exact hn, h3, fun x hx => by obtain ⟨s, _, _, h⟩ := hrd x hx; exact ⟨_, h⟩⟩, by omega, rfl⟩, ?_, ?_⟩
  · have hp := Go.WideShapes.sorted_perm (es.toList.map (Go.WideElems.rg Tryz.prog 9 (plainElem (H := Unit) Tryz.prog 4)))
    have hp2 := hp.map (fun p : Lit × DataW Unit => strOf p.1)
    refine List.Perm.trans hp2 ?_
    rw [List.map_map]
    have e1 : es.toList.map ((fun p : Lit × DataW Unit => strOf p.1) ∘ Go.WideElems.rg Tryz.prog 9 (plainElem (H := Unit) Tryz.prog 4)) = es.toList.map ((fun q : Value × Value => match q.1 with | .string b => b.data.toList | _ => []) ∘ fun e => (e.key, e.val)) := by
      refine List.map_congr_left (fun x hx => ?_)
      obtain ⟨s, _, e1, e2⟩ := hrd x hx
      simp only [Function.comp, Go.WideElems.rg_of e2, e1, bs_data]
      rfl
    rw [e1, ← List.map_map, h2, List.map_map]
    unfold setL
    rw [List.map_map]
    have e3 : K.map (((fun q : Value × Value => match q.1 with | .string b => b.data.toList | _ => []) ∘ fun p : Nm × Bool => (nmV p.1, boolV p.2)) ∘ fun s => (s, true)) = K.map id := List.map_congr_left (fun s _ => by simp [bs_data])
    rw [e3, List.map_id]
  · show ((es.toList.map (Go.WideElems.rg Tryz.prog 9 (plainElem (H := Unit) Tryz.prog 4))).foldr DataW.insert []).length = _
    rw [length_sorted]
    simpa using hlen
end
end Go.Proofs.YthglfmacjoecgaaGreatDoor
namespace Go.Proofs.YthglfmacjoecgaaGreatDoor
open Go.RowKit

theorem QRow.lenOf {w : World} {e : TypeId} {v : Value} {xs : List Value} (h : QRow w e v xs) : Go.Proofs.YthglfmacjoecgaaGreatDoor.lenOf v = xs.length := by
  rcases h with ⟨rfl, rfl⟩ | ⟨g, o, cap, cur, rfl, _⟩ <;> rfl
/-- The state of the search: what has been taken up, what is still to be. -/
structure NSt (g : GrR) (i : Nat) (K todo : List Nm) : Prop where
  nd : K.Nodup
  a : ∀ s ∈ insAt g i, s ∈ K ∨ s ∈ todo
  b : ∀ t ∈ K, ∀ s ∈ actIns g t, s ∈ K ∨ s ∈ todo
  c : ∀ s, s ∈ K ∨ s ∈ todo → Needs g i s
theorem NSt.start (g : GrR) (i : Nat) : NSt g i [] (insAt g i) := ⟨List.nodup_nil, fun s h => .inr h, (fun t h => absurd h (by simp)), fun s h => by rcases h with h | h; exact absurd h (by simp); exact .base h⟩
theorem NSt.take {g : GrR} {i : Nat} {K rest : List Nm} {s : Nm} (h : NSt g i K (s :: rest)) (hs : s ∉ K) : NSt g i (K ++ [s]) (rest ++ actIns g s) := by
  have key : ∀ u, u ∈ K ∨ u ∈ s :: rest → u ∈ K ++ [s] ∨ u ∈ rest ++ actIns g s := by
    intro u hu
    rcases hu with hu | hu
    · exact .inl (List.mem_append_left _ hu)
    · rcases List.mem_cons.1 hu with rfl | hu
      · exact .inl (by simp)
      · exact .inr (List.mem_append_left _ hu)
  have hsn : Needs g i s := h.c s (.inr (by simp))
  refine ⟨?_, fun u hu => key u (h.a u hu), fun t ht u hu => ?_, fun u hu => ?_⟩
  · rw [List.nodup_append]
    exact ⟨h.nd, by simp, fun a ha b hb => by simp at hb; subst hb; intro e; exact hs (e ▸ ha)⟩
  · rcases List.mem_append.1 ht with ht | ht
    · exact key u (h.b t ht u hu)
    · simp at ht; subst ht
      exact .inr (List.mem_append_right _ hu)
  · rcases hu with hu | hu
    · rcases List.mem_append.1 hu with hu | hu
      · exact h.c u (.inl hu)
      · simp at hu; subst hu; exact hsn
    · rcases List.mem_append.1 hu with hu | hu
      · exact h.c u (.inr (List.mem_cons_of_mem _ hu))
      · exact .step hsn hu
theorem NSt.le {g : GrR} (hw : Wov g) {i : Nat} (hi : i < g.acts.length) {K todo : List Nm} (h : NSt g i K todo) : K.length ≤ 20 := by
  have h1 := sub_length K (namesL g) h.nd (fun s hs => (h.c s (.inl hs)).names hw hi)
  have h2 := hw.srcs8
  have h3 := hw.acts12
  unfold namesL at h1
  simp at h1
  omega
theorem NSt.done {g : GrR} {i : Nat} {K : List Nm} (h : NSt g i K []) (s : Nm) : s ∈ K ↔ Needs g i s :=
  needs_closed (fun s hs => (h.a s hs).resolve_right (by simp)) (fun t ht s hs => (h.b t ht s hs).resolve_right (by simp)) (fun s hs => h.c s (.inl hs)) s
end Go.Proofs.YthglfmacjoecgaaGreatDoor
namespace Go.Proofs.YthglfmacjoecgaaGreatDoor
open Go.RowKit

theorem name_le {g : GrR} (hw : Wov g) {s : Nm} (hs : s ∈ namesL g) : s.length ≤ 8 := by
  have h := (grOK_iff g).1 hw.ok
  rcases mem_names.1 hs with h1 | ⟨i, hi, rfl⟩
  · exact (nameL_let (h.2.2.1 s h1)).2.1
  · rw [nameAt_lt g i hi]
    exact (nameL_let ((actOK_iff _).1 (h.2.2.2 _ (List.getElem_mem hi))).1).2.1

end Go.Proofs.YthglfmacjoecgaaGreatDoor
namespace Go.Proofs.YthglfmacjoecgaaGreatDoor
open Go.RowKit

end Go.Proofs.YthglfmacjoecgaaGreatDoor
namespace Go.Proofs.YthglfmacjoecgaaGreatDoor
open Go.RowKit

theorem beq_dec (a b : List UInt8) : (a == b) = decide (a = b) := by by_cases h : a = b <;> simp [h]
theorem bs_eq (a b : List UInt8) : ((bs a).toList == (bs b).toList) = decide (a = b) := by
  rw [Lib.toList_data, Lib.toList_data, bs_data, bs_data]
  exact beq_dec a b


set_option maxRecDepth 100000 in
set_option maxHeartbeats 4000000 in
theorem rname_any (s : ByteArray) (hs : s.size ≤ maxLen) (w : World) : Calls Tryz.prog 159 #[.string s] w (Rets (.bool (nameL s.data.toList)) (fun w' => w = w')) := by
  have hsl : s.data.toList.length = s.size := (Lib.size_eq s).symm
  unfold maxLen at hs
  by_cases h1 : s.size < 1
  · have h1' : (s.size : Int) < 1 := by omega
    have hr : nameL s.data.toList = false := by unfold nameL; rw [hsl]; simp; omega
    rw [hr]
    clear hsl hr
    go_enter Tryz.func159, Tryz.ntmps159
    go_wp2_with fail
    go_ret
    exact ⟨rfl, rfl⟩
  · have h1' : ¬ (s.size : Int) < 1 := by omega
    have d1 : decide ((s.size : Int) < 1) = false := decide_eq_false h1'
    by_cases h8 : 8 < s.size
    · have h8' : (8 : Int) < (s.size : Int) := by omega
      have hr : nameL s.data.toList = false := by unfold nameL; rw [hsl]; simp; omega
      rw [hr]
      clear hsl hr
      go_enter Tryz.func159, Tryz.ntmps159
      go_wp2_with fail
      go_ret
      exact ⟨rfl, rfl⟩
    · have h8' : ¬ (8 : Int) < (s.size : Int) := by omega
      have d8 : decide ((8 : Int) < (s.size : Int)) = false := decide_eq_false h8'
      have hr : nameL s.data.toList = s.data.toList.all letB := by unfold nameL; rw [hsl]; simp; omega
      have HR := hid hr
      have HSL := hid hsl
      obtain ⟨R, hR⟩ : ∃ R, R = nameL s.data.toList := ⟨_, rfl⟩
      rw [← hR]
      rw [hr] at hR
      have HRR := hid hR
      clear hsl hr hR
      go_enter Tryz.func159, Tryz.ntmps159
      go_wp2_with fail
      go_loop [3] (fun i => ∃ k : Nat, k ≤ s.size ∧ i = .int .i64 k ∧ ∀ j (h : j < s.size), j < k → letB s[j] = true) (fun i => s.size - (intOf i).toNat)
      case atStart => exact ⟨0, Nat.zero_le _, rfl, fun j _ h => absurd h (Nat.not_lt_zero _)⟩
      case round =>
        obtain ⟨k, hk, rfl, hall⟩ := hrel
        have HA := hid hall
        clear hall
        by_cases hkn : k < s.size
        · have hkn' : (k : Int) < s.size := by omega
          have cls : (decide ((97 : Int) ≤ ((s[k]'hkn).toNat : Int)) = true ∧ decide (((s[k]'hkn).toNat : Int) ≤ 122) = true ∧ decide ((48 : Int) ≤ ((s[k]'hkn).toNat : Int)) = true ∧ decide (((s[k]'hkn).toNat : Int) ≤ 57) = false ∧ letB (s[k]'hkn) = true) ∨ (decide ((97 : Int) ≤ ((s[k]'hkn).toNat : Int)) = true ∧ decide (((s[k]'hkn).toNat : Int) ≤ 122) = false ∧ decide ((48 : Int) ≤ ((s[k]'hkn).toNat : Int)) = true ∧ decide (((s[k]'hkn).toNat : Int) ≤ 57) = false ∧ letB (s[k]'hkn) = false) ∨ (decide ((97 : Int) ≤ ((s[k]'hkn).toNat : Int)) = false ∧ decide (((s[k]'hkn).toNat : Int) ≤ 122) = true ∧ decide ((48 : Int) ≤ ((s[k]'hkn).toNat : Int)) = true ∧ decide (((s[k]'hkn).toNat : Int) ≤ 57) = true ∧ letB (s[k]'hkn) = true) ∨ (decide ((97 : Int) ≤ ((s[k]'hkn).toNat : Int)) = false ∧ decide (((s[k]'hkn).toNat : Int) ≤ 122) = true ∧ decide ((48 : Int) ≤ ((s[k]'hkn).toNat : Int)) = true ∧ decide (((s[k]'hkn).toNat : Int) ≤ 57) = false ∧ letB (s[k]'hkn) = false) ∨ (decide ((97 : Int) ≤ ((s[k]'hkn).toNat : Int)) = false ∧ decide (((s[k]'hkn).toNat : Int) ≤ 122) = true ∧ decide ((48 : Int) ≤ ((s[k]'hkn).toNat : Int)) = false ∧ decide (((s[k]'hkn).toNat : Int) ≤ 57) = true ∧ letB (s[k]'hkn) = false) := by
            unfold letB
            simp only [decide_eq_true_eq, decide_eq_false_iff_not, Bool.or_eq_true, Bool.or_eq_false_iff, Bool.and_eq_true, Bool.and_eq_false_iff]
            omega
          rcases cls with ⟨e97, e122, e48, e57, hB⟩ | ⟨e97, e122, e48, e57, hB⟩ | ⟨e97, e122, e48, e57, hB⟩ | ⟨e97, e122, e48, e57, hB⟩ | ⟨e97, e122, e48, e57, hB⟩
          all_goals have HB := hid hB
          all_goals clear hB
          all_goals go_wp2_with fail
          all_goals first
            | (go_ret
               refine ⟨?_, rfl⟩
               have : R = false := by
                 rw [HRR.out, Bool.eq_false_iff]
                 intro h
                 have h2 := List.all_eq_true.1 h (s[k]'hkn) (by rw [ByteArray.getElem_eq_getElem_data, ← Array.getElem_toList]; exact List.getElem_mem _)
                 rw [HB.out] at h2
                 exact Bool.false_ne_true h2
               rw [this] <;> rfl)
            | skip
          all_goals go_round
          all_goals first
            | (refine ⟨k + 1, by omega, by go_num, fun j hj hjk => ?_⟩
               by_cases e : j = k
               · subst e; exact HB.out
               · exact HA.out j hj (by omega))
            | (simp [intOf]; omega)
        · obtain rfl : k = s.size := by omega
          go_wp2_with fail
          go_ret
          refine ⟨?_, rfl⟩
          have : R = true := by
            rw [HRR.out, List.all_eq_true]
            intro x hx
            obtain ⟨j, hj, e⟩ := List.mem_iff_getElem.1 hx
            have hj' : j < s.size := by rw [← HSL.out]; exact hj
            have h2 := HA.out j hj' hj'
            have e2 : s[j] = x := by rw [← e]; simp [ByteArray.getElem_eq_getElem_data]
            rw [← e2]; exact h2
          rw [this] <;> rfl

end Go.Proofs.YthglfmacjoecgaaGreatDoor
namespace Go.Proofs.YthglfmacjoecgaaGreatDoor
open Go.RowKit

theorem u8_div (x : UInt8) : IntKind.u8.wrap ((x.toNat : Int) / 16) = (x.toNat : Int) / 16 := by
  have key : ∀ n : Fin 256, IntKind.u8.wrap ((n.1 : Int) / 16) = (n.1 : Int) / 16 := by decide +kernel
  exact key ⟨x.toNat, x.toNat_lt⟩
theorem u8_mod (x : UInt8) : (x.toNat : Int).tmod 16 = (x.toNat : Int) % 16 := Int.tmod_eq_emod_of_nonneg (by omega)

set_option maxRecDepth 100000 in
set_option maxHeartbeats 2000000 in
theorem rword_any (c : List UInt8) (hc : c.length ≤ 64) (w : World) : Calls Tryz.prog 140 #[.string (bs c)] w (Rets (.string (bs (wordL c))) (Chg (fun _ => False) w)) := by
  have hsz := bs_size c
  by_cases h0 : c = []
  · subst h0
    have e0 : (bs []).toList.isEmpty = true := by rw [ba_isEmpty]; rfl
    go_enter Tryz.func140, Tryz.ntmps140
    go_wp2
    go_ret
    exact ⟨rfl, Chg.refl _ _⟩
  · have hp : 0 < c.length := List.length_pos_iff.2 h0
    have e0 : (bs c).toList.isEmpty = false := by rw [ba_isEmpty, hsz]; simp; omega
    have hwl : wordL c = hex2 c := by unfold wordL; rw [if_neg h0]; rfl
    have hcc : ∀ k (h : k < c.length), (bs c)[k]'(by rw [hsz]; exact h) = c[k] := fun k h => by simp [bs, ByteArray.getElem_eq_getElem_data]
    have hown0 := owns_new w [] 5 1 0 rfl (by unfold maxLen; omega)
    have hc0 : Chg (fun _ => False) w (w.alloc (.cells #[] 5)) := (Chg.refl _ w).alloc _
    have hs0 : w.heap.size ≤ w.heap.size := Nat.le_refl _
    rw [hwl]
    have HCC : Hid (∃ hz : (bs c).size = c.length, ∀ k (h : k < c.length), (bs c)[k]'(by rw [hz]; exact h) = c[k]) := ⟨hsz, hcc⟩
    have HO := hid hown0
    have HC0 := hid hc0
    clear hwl h0 hcc hown0 hc0
    generalize bs c = sc at *
    go_enter Tryz.func140, Tryz.ntmps140
    go_wp2_with fail
    go_loopw [3, 4] (fun ov iv wr => ∃ k : Nat, k ≤ c.length ∧ iv = .int .i64 k ∧ wr.ownsRow 0 5 1 ov (2 * k) ((hex2 (c.take k)).map encB) ∧ (∀ b, ov.ownBlock = some b → w.heap.size ≤ b) ∧ Chg (fun k => w.heap.size ≤ k) w wr) (fun _ iv _ => c.length - (intOf iv).toNat)
    case atStart => exact ⟨0, Nat.zero_le _, rfl, by simpa [hex2] using HO.out, by simp [Value.ownBlock], (HC0.out).mono (fun _ _ h => h.elim)⟩
    case round =>
      obtain ⟨k, hk, rfl, hown, hov, hw⟩ := hrel
      have HW := hid hw
      have HV := hid hov
      clear hw hov
      by_cases hkn : k < c.length
      · have hkn' : (k : Int) < c.length := by omega
        obtain ⟨hz, hcc⟩ := HCC.out
        have hx := hcc k hkn
        have hx8 := c[k].toNat_lt
        rw [← hx] at hx8
        have q1 : (0 : Int) ≤ ((sc[k]'(by omega)).toNat : Int) / 16 := by omega
        have q2 : ((sc[k]'(by omega)).toNat : Int) / 16 < 16 := by omega
        have q3 : (0 : Int) ≤ ((sc[k]'(by omega)).toNat : Int) % 16 := by omega
        have q4 : ((sc[k]'(by omega)).toNat : Int) % 16 < 16 := by omega
        have w1 := u8_div (sc[k]'(by omega))
        have w2 := u8_mod (sc[k]'(by omega))
        have HX := hid hx
        clear hx hcc
        go_wp2_with fail
        go_region_law (refine step_append_new rfl _ _ 125 rfl elU8 hown rfl _ 2 2 rfl rfl rfl (by unfold maxLen; omega) (by omega) (by decide) ?_; intro g1 cap1 w2 hown1 hchg hg1)
        all_goals go_wp2_with fail
        all_goals go_roundw
        all_goals first
          | (simp [intOf]; omega)
          | (refine ⟨k + 1, by omega, by go_num, ?_, ?_, HW.out.trans hchg ?_⟩
             · have e1 : (2 * (k + 1)) = 2 * k + 2 := by omega
               rw [e1, hex2_take c k hkn, List.map_append, ← HX.out]
               rw [dig_at _ q1 q2, dig_at _ q3 q4] at hown1
               exact hown1
             · intro b hb
               simp [Value.ownBlock] at hb
               subst hb
               rcases hg1 with h | h
               · exact HV.out _ h
               · exact Nat.le_trans HW.out.size h
             · intro i hi h
               exact HV.out _ h)
      · obtain rfl : k = c.length := by omega
        have hcv := conv_own wr u3 (hex2 c) (by rw [hex2_len]; simpa using hown) wr (Chg.refl _ _)
        go_wp2_with fail
        go_ret
        exact ⟨rfl, HW.out.mono (fun i hi h => by have : w.heap.size ≤ i := h; omega)⟩
end Go.Proofs.YthglfmacjoecgaaGreatDoor
namespace Go.Proofs.YthglfmacjoecgaaGreatDoor
open Go.RowKit

theorem rname_bs (l : List UInt8) (hl : l.length ≤ maxLen) (B : Bool) (hB : nameL l = B) (W : World) : Calls Tryz.prog 159 #[.string (bs l)] W (Rets (.bool B) (fun w' => W = w')) := by
  have := rname_any (bs l) (by rw [bs_size]; exact hl) W
  rw [bs_data, hB] at this
  exact this

set_option maxRecDepth 100000 in
set_option maxHeartbeats 4000000 in
theorem rgood_any (g : GrR) (v : Value) (w : World) (hg : GrAt w v g) : Calls Tryz.prog 139 #[v] w (Rets (.bool (grOK g)) (Chg (fun _ => False) w)) := by
  obtain ⟨oa, c, ob, d, iv, rfl, hs, ha⟩ := hg.form
  have hms := hs.le
  have hma := ha.rows.le
  unfold maxLen at hms hma
  have hC1 : Chg (fun _ => False) w (w.alloc (.cells #[.slice oa g.srcs.length c, .slice ob g.acts.length d] 25)) := (Chg.refl _ w).alloc _
  have k1 := heap_alloc_new' w (.cells #[.slice oa g.srcs.length c, .slice ob g.acts.length d] 25)
  have HC1 := hid hC1
  have HK := hid k1
  have HS := hid hs
  have HA := hid ha
  obtain ⟨R, hR⟩ : ∃ R, R = grOK g := ⟨_, rfl⟩
  rw [← hR]
  have HF : Hid (¬ (g.srcs.length ≤ 8 ∧ g.acts.length ≤ 12 ∧ (∀ s ∈ g.srcs, nameL s = true) ∧ (∀ a ∈ g.acts, actOK a = true)) → R = false) := fun h => by
    rw [hR, Bool.eq_false_iff]; exact fun e => h ((grOK_iff g).1 e)
  have HT : Hid (g.srcs.length ≤ 8 ∧ g.acts.length ≤ 12 ∧ (∀ s ∈ g.srcs, nameL s = true) ∧ (∀ a ∈ g.acts, actOK a = true) → R = true) := fun h => by
    rw [hR]; exact (grOK_iff g).2 h
  clear hg hs ha hC1 k1 hR
  by_cases h40 : g.srcs.length ≤ 8
  · have h40' : ¬ (8 : Int) < (g.srcs.length : Int) := by omega
    have d40 : decide ((8 : Int) < (g.srcs.length : Int)) = false := decide_eq_false h40'
    by_cases h41 : g.acts.length ≤ 12
    · have h41' : ¬ (12 : Int) < (g.acts.length : Int) := by omega
      have d41 : decide ((12 : Int) < (g.acts.length : Int)) = false := decide_eq_false h41'
      go_enter Tryz.func139, Tryz.ntmps139
      go_wp2_with fail
      generalize w.alloc (.cells #[.slice oa g.srcs.length c, .slice ob g.acts.length d] 25) = W1 at *
      have c0 := cell_of HK.out 0
      have c1 := cell_of HK.out 1
      simp at c0 c1
      go_loopw [3] (fun i wr => ∃ k : Nat, k ≤ g.srcs.length ∧ i = .int .i64 k ∧ wr = W1 ∧ ∀ s ∈ g.srcs.take k, nameL s = true) (fun i _ => g.srcs.length - (intOf i).toNat)
      case atStart => exact ⟨0, Nat.zero_le _, rfl, rfl, by simp⟩
      case round =>
        obtain ⟨k, hk, rfl, rfl, hall⟩ := hrel
        have HL := hid hall
        clear hall
        by_cases hkn : k < g.srcs.length
        · have hkn' : (k : Int) < g.srcs.length := by omega
          obtain ⟨ad, hix, hadc, hadb⟩ := (HS.out.chg HC1.out (fun _ _ h => h)).ix k hkn
          have hwd := (HS.out.chg HC1.out (fun _ _ h => h)).wide _ (List.getElem_mem hkn)
          obtain ⟨B, hB⟩ : ∃ B, nameL g.srcs[k] = B := ⟨_, rfl⟩
          have hn := rname_bs _ hwd B hB
          have HB := hid hB
          have hmem := List.getElem_mem hkn
          have HM := hid hmem
          have htk : ∀ s ∈ g.srcs.take (k + 1), s ∈ g.srcs.take k ∨ s = g.srcs[k] := fun s hs => by
            rw [List.take_succ_eq_append_getElem hkn, List.mem_append] at hs
            rcases hs with h | h
            · exact .inl h
            · exact .inr (List.mem_singleton.1 h)
          have HTK := hid htk
          clear hB hmem htk hwd
          generalize bs g.srcs[k] = x at *
          cases B
          · go_wp2_with (go_at_call 159; refine (hn _).mono ?_; rintro e w9 ⟨rfl, rfl⟩)
            go_ret
            refine ⟨?_, HC1.out⟩
            rw [HF.out (fun h => Bool.false_ne_true (HB.out.symm.trans (h.2.2.1 _ HM.out)))] <;> rfl
          · go_wp2_with (go_at_call 159; refine (hn _).mono ?_; rintro e w9 ⟨rfl, rfl⟩)
            go_roundw
            case rel =>
              refine ⟨k + 1, by omega, by go_num, (by first | rfl | trivial), fun s hs => ?_⟩
              rcases HTK.out s hs with h | h
              · exact HL.out s h
              · rw [h]; exact HB.out
            case measure => simp [intOf]; omega
        · obtain rfl : k = g.srcs.length := by omega
          have hsa : ∀ s ∈ g.srcs, nameL s = true := by have := HL.out; rwa [List.take_length] at this
          have HSA := hid hsa
          clear hsa
          go_wp2_with fail
          obtain ⟨wo, hwo⟩ : ∃ wo, wo = wr := ⟨_, rfl⟩
          rw [← hwo] at HC1 HK c0 c1 ⊢
          clear hwo
          go_loopw [4] (fun i wr => ∃ k : Nat, k ≤ g.acts.length ∧ i = .int .i64 k ∧ Chg (fun _ => False) wo wr ∧ ∀ s ∈ g.acts.take k, actOK s = true) (fun i _ => g.acts.length - (intOf i).toNat)
          case atStart => exact ⟨0, Nat.zero_le _, rfl, Chg.refl _ _, by simp⟩
          case round =>
            obtain ⟨k, hk, rfl, hch, hall⟩ := hrel
            have HAA := hid hall
            have e0 := hch.cell c0 (fun h => h)
            have e1 := hch.cell c1 (fun h => h)
            have HCH := hid hch
            have HW := hid (HC1.out.trans hch (fun _ _ h => h))
            clear hch hall
            by_cases hkn : k < g.acts.length
            · have hkn' : (k : Int) < g.acts.length := by omega
              obtain ⟨bb, oo, hix, hlt, p0, p1, p2, hns, hw1, hw2⟩ := (HA.out.chg HW.out (fun _ _ h => h)).at k hkn
              obtain ⟨oi, ci, hiv⟩ := hns.form
              rw [hiv] at p1 hns
              have hli := hns.le
              unfold maxLen at hw2 hli
              have hz2 := bs_size g.acts[k].code
              obtain ⟨B, hB⟩ : ∃ B, nameL g.acts[k].name = B := ⟨_, rfl⟩
              have hn := rname_bs _ hw1 B hB
              have HB := hid hB
              have hmem := List.getElem_mem hkn
              have HNO : Hid (¬ (nameL g.acts[k].name = true ∧ (∀ s ∈ g.acts[k].ins, nameL s = true) ∧ g.acts[k].ins.length ≤ 4 ∧ (bs g.acts[k].code).size ≤ 64) → R = false) := fun h => by
                refine HF.out (fun h2 => h ?_)
                have := (actOK_iff _).1 (h2.2.2.2 _ hmem)
                rw [hz2]; exact this
              have HYES : Hid (nameL g.acts[k].name = true → (∀ s ∈ g.acts[k].ins, nameL s = true) → g.acts[k].ins.length ≤ 4 → (bs g.acts[k].code).size ≤ 64 → ∀ s ∈ g.acts.take (k + 1), actOK s = true) := fun h1 h2 h3 h4 s hs => by
                rw [List.take_succ_eq_append_getElem hkn, List.mem_append] at hs
                rcases hs with h | h
                · exact HAA.out s h
                · rw [List.mem_singleton.1 h]
                  exact (actOK_iff _).2 ⟨h1, h2, h3, by rwa [← hz2]⟩
              rw [← hz2] at hw2
              clear hz2 hiv hw1 hB hmem
              have HNS := hid hns
              clear hns
              generalize bs g.acts[k].name = x1 at *
              generalize bs g.acts[k].code = x2 at *
              generalize g.acts[k].name = nm at *
              generalize g.acts[k].ins = ins at *
              cases B
              · go_wp2_with (go_at_call 159; refine (hn _).mono ?_; rintro e w9 ⟨rfl, rfl⟩)
                go_ret
                refine ⟨?_, HW.out.alloc _⟩
                rw [HNO.out (fun h => Bool.false_ne_true (HB.out.symm.trans h.1))] <;> rfl
              · by_cases t2 : (4 : Int) < (ins.length : Int)
                · go_wp2_with (go_at_call 159; refine (hn _).mono ?_; rintro e w9 ⟨rfl, rfl⟩)
                  go_ret
                  refine ⟨?_, HW.out.alloc _⟩
                  rw [HNO.out (fun h => by have := h.2.2.1; omega)] <;> rfl
                · have d2 : decide ((4 : Int) < (ins.length : Int)) = false := decide_eq_false t2
                  by_cases t3 : (64 : Int) < (x2.size : Int)
                  · go_wp2_with (go_at_call 159; refine (hn _).mono ?_; rintro e w9 ⟨rfl, rfl⟩)
                    go_ret
                    refine ⟨?_, HW.out.alloc _⟩
                    rw [HNO.out (fun h => by have := h.2.2.2; omega)] <;> rfl
                  · have d3 : decide ((64 : Int) < (x2.size : Int)) = false := decide_eq_false t3
                    have hwa : Chg (fun _ => False) wr (wr.alloc (.cells #[.string x1, .slice oi ins.length ci, .string x2] 43)) := (Chg.refl _ wr).alloc _
                    have kA := heap_alloc_new' wr (.cells #[.string x1, .slice oi ins.length ci, .string x2] 43)
                    have HN3 := hid (HNS.out.chg hwa (fun _ _ h => h))
                    have HWA := hid hwa
                    have HKA := hid kA
                    clear hwa kA
                    go_wp2_with (go_at_call 159; refine (hn _).mono ?_; rintro e w9 ⟨rfl, rfl⟩)
                    generalize wr.alloc (.cells #[.string x1, .slice oi ins.length ci, .string x2] 43) = wa at *
                    obtain ⟨A6, hA6⟩ : ∃ A6, A6 = wr.heap.size := ⟨_, rfl⟩
                    rw [← hA6] at HKA ⊢
                    clear hA6 hn
                    have r1 : wa.cell? ⟨A6, 1, none⟩ = some (.slice oi ins.length ci) := (cell_of HKA.out 1).trans rfl
                    go_loopw [6] (fun i wb => ∃ q : Nat, q ≤ ins.length ∧ i = .int .i64 q ∧ wb = wa ∧ ∀ s ∈ ins.take q, nameL s = true) (fun i _ => ins.length - (intOf i).toNat)
                    case atStart => exact ⟨0, Nat.zero_le _, rfl, rfl, by simp⟩
                    case round =>
                      obtain ⟨q, hq, rfl, rfl, hqa⟩ := hrel
                      have HQA := hid hqa
                      clear hqa
                      by_cases hqn : q < ins.length
                      · have hqn' : (q : Int) < ins.length := by omega
                        obtain ⟨ad3, hix3, hadc3, hadb3⟩ := HN3.out.ix q hqn
                        have hwd3 := HN3.out.wide _ (List.getElem_mem hqn)
                        obtain ⟨B, hB⟩ : ∃ B, nameL ins[q] = B := ⟨_, rfl⟩
                        have hn := rname_bs _ hwd3 B hB
                        have HB3 := hid hB
                        have hmem := List.getElem_mem hqn
                        have HM := hid hmem
                        have htk : ∀ s ∈ ins.take (q + 1), s ∈ ins.take q ∨ s = ins[q] := fun s hs => by
                          rw [List.take_succ_eq_append_getElem hqn, List.mem_append] at hs
                          rcases hs with h | h
                          · exact .inl h
                          · exact .inr (List.mem_singleton.1 h)
                        have HTK := hid htk
                        clear hB hmem htk hwd3
                        generalize bs ins[q] = x3 at *
                        cases B
                        · go_wp2_with (go_at_call 159; refine (hn _).mono ?_; rintro e w9 ⟨rfl, rfl⟩)
                          go_ret
                          refine ⟨?_, HW.out.trans HWA.out (fun _ _ h => h)⟩
                          rw [HNO.out (fun h => Bool.false_ne_true (HB3.out.symm.trans (h.2.1 _ HM.out)))] <;> rfl
                        · go_wp2_with (go_at_call 159; refine (hn _).mono ?_; rintro e w9 ⟨rfl, rfl⟩)
                          go_roundw
                          case rel =>
                            refine ⟨q + 1, by omega, by go_num, (by first | rfl | trivial), fun s hs => ?_⟩
                            rcases HTK.out s hs with h | h
                            · exact HQA.out s h
                            · rw [h]; exact HB3.out
                          case measure => simp [intOf]; omega
                      · obtain rfl : q = ins.length := by omega
                        have hsa2 : ∀ s ∈ ins, nameL s = true := by have := HQA.out; rwa [List.take_length] at this
                        have HS2 := hid hsa2
                        clear hsa2
                        go_wp2_with fail
                        go_roundw
                        case rel => exact ⟨k + 1, by omega, by go_num, HCH.out.trans HWA.out (fun _ _ h => h), HYES.out HB.out HS2.out (by omega) (by omega)⟩
                        case measure => simp [intOf]; omega
            · obtain rfl : k = g.acts.length := by omega
              go_wp2_with fail
              go_ret
              refine ⟨?_, HW.out⟩
              rw [HT.out ⟨h40, h41, HSA.out, by have := HAA.out; rwa [List.take_length] at this⟩] <;> rfl
    · have h41' : (12 : Int) < (g.acts.length : Int) := by omega
      go_enter Tryz.func139, Tryz.ntmps139
      go_wp2_with fail
      go_ret
      refine ⟨?_, HC1.out⟩
      rw [HF.out (fun h => by have := h.2.1; omega)] <;> rfl
  · have h40' : (8 : Int) < (g.srcs.length : Int) := by omega
    go_enter Tryz.func139, Tryz.ntmps139
    go_wp2_with fail
    go_ret
    refine ⟨?_, HC1.out⟩
    rw [HF.out (fun h => by have := h.1; omega)] <;> rfl
end Go.Proofs.YthglfmacjoecgaaGreatDoor
namespace Go.Proofs.YthglfmacjoecgaaGreatDoor
open Go.RowKit

/-- What the inputs add to a line. -/
def insT (l : List (List UInt8)) : List UInt8 := if l = [] then [] else 32 :: wFrom ++ l.flatMap (32 :: ·)
theorem join_flat (x : List UInt8) : ∀ l : List (List UInt8), joinC 32 (x :: l) = x ++ l.flatMap (32 :: ·)
  | [] => by simp [joinC]
  | y :: r => by
    have ih := join_flat y r
    show x ++ 32 :: joinC 32 (y :: r) = _
    rw [ih]
    simp
theorem actLine_eq (a : ActR) : actLine a = wMake ++ 32 :: a.name ++ insT a.ins ++ (32 :: wBy ++ 32 :: wordL a.code) ++ [10] := by
  unfold actLine actWs
  rw [List.append_assoc, List.cons_append, join_flat]
  unfold insT
  by_cases h : a.ins = []
  · rw [if_pos h, if_pos h]; simp
  · rw [if_neg h, if_neg h]; simp
theorem insT_one (s : List UInt8) : insT [s] = 32 :: wFrom ++ 32 :: s := by unfold insT; simp
theorem insT_more (l : List (List UInt8)) (s : List UInt8) (h : l ≠ []) : insT (l ++ [s]) = insT l ++ 32 :: s := by
  unfold insT
  rw [if_neg (by simp), if_neg h]
  simp
theorem insT_len (l : List (List UInt8)) (n : Nat) (hn : l.length ≤ n) (h : ∀ s ∈ l, s.length ≤ 8) : (insT l).length ≤ 5 + 9 * n := by
  unfold insT
  split
  · simp
  · have : ∀ l : List (List UInt8), (∀ s ∈ l, s.length ≤ 8) → (l.flatMap (32 :: ·)).length ≤ 9 * l.length := by
      intro l
      induction l with
      | nil => intro _; simp
      | cons x r ih =>
        intro h
        have h1 := ih (fun s hs => h s (by simp [hs]))
        have h2 := h x (by simp)
        rw [List.flatMap_cons, List.length_append]
        simp only [List.length_cons]
        omega
    have h1 := this l h
    simp [wFrom] at h1 ⊢
    omega
theorem cat_src (T s : List UInt8) : bs T ++ { data := #[115, 111, 117, 114, 99, 101, 32] } ++ bs s ++ { data := #[10] } = bs (T ++ srcLine s) := by
  rw [show ({ data := #[115, 111, 117, 114, 99, 101, 32] } : ByteArray) = bs [115, 111, 117, 114, 99, 101, 32] from rfl, show ({ data := #[10] } : ByteArray) = bs [10] from rfl, ← bs_append, ← bs_append, ← bs_append]
  congr 1
  simp [srcLine, joinC, wSource]
theorem cat_make (T s : List UInt8) : bs T ++ { data := #[109, 97, 107, 101, 32] } ++ bs s = bs (T ++ (wMake ++ 32 :: s)) := by
  rw [show ({ data := #[109, 97, 107, 101, 32] } : ByteArray) = bs [109, 97, 107, 101, 32] from rfl, ← bs_append, ← bs_append]
  congr 1
  simp [wMake]
theorem cat_from (T s : List UInt8) : bs T ++ { data := #[32, 102, 114, 111, 109] } ++ { data := #[32] } ++ bs s = bs (T ++ insT [s]) := by
  rw [show ({ data := #[32, 102, 114, 111, 109] } : ByteArray) = bs [32, 102, 114, 111, 109] from rfl, show ({ data := #[32] } : ByteArray) = bs [32] from rfl, ← bs_append, ← bs_append, ← bs_append, insT_one]
  congr 1
  simp [wFrom]
theorem cat_more (T s : List UInt8) : bs T ++ { data := #[32] } ++ bs s = bs (T ++ 32 :: s) := by
  rw [show ({ data := #[32] } : ByteArray) = bs [32] from rfl, ← bs_append, ← bs_append]
  congr 1
  simp
theorem cat_by (T : List UInt8) (a : ActR) : bs (T ++ (wMake ++ 32 :: a.name) ++ insT a.ins) ++ { data := #[32, 98, 121, 32] } ++ bs (wordL a.code) ++ { data := #[10] } = bs (T ++ actLine a) := by
  rw [show ({ data := #[32, 98, 121, 32] } : ByteArray) = bs [32, 98, 121, 32] from rfl, show ({ data := #[10] } : ByteArray) = bs [10] from rfl, ← bs_append, ← bs_append, ← bs_append, actLine_eq]
  congr 1
  simp [wBy]

set_option maxRecDepth 100000 in
set_option maxHeartbeats 4000000 in
theorem rprint_any (g : GrR) (v : Value) (w : World) (hg : GrAt w v g) :
    Calls Tryz.prog 120 #[v] w (Rets (.tuple #[.string (bs ((printR g).getD [])), .int .i64 (if grOK g = true then 0 else 1)]) (Chg (fun _ => False) w)) := by
  have hig : ∀ W, Chg (fun _ => False) w W → Calls Tryz.prog 139 #[v] W (Rets (.bool (grOK g)) (Chg (fun _ => False) W)) := fun W hW => rgood_any g v W (hg.chg hW (fun _ _ h => h))
  obtain ⟨oa, c, ob, d, iv, rfl, hs, ha⟩ := hg.form
  have hC1 : Chg (fun _ => False) w (w.alloc (.cells #[.slice oa g.srcs.length c, .slice ob g.acts.length d] 25)) := (Chg.refl _ w).alloc _
  cases hok : grOK g with
  | false =>
    rw [hok] at hig
    have hr : printR g = none := by unfold printR; rw [hok]; rfl
    rw [hr]
    have h1 := hig _ hC1
    clear hig hs ha
    go_enter Tryz.func120, Tryz.ntmps120
    go_wp2_with (go_at_call 139; refine h1.mono ?_; rintro e w' ⟨rfl, hc⟩)
    go_ret2
    exact ⟨rfl, hC1.trans hc (fun _ _ h => h)⟩
  | true =>
    rw [hok] at hig
    obtain ⟨n1, n2, n3, n4⟩ := (grOK_iff g).1 hok
    have hr : printR g = some (textL g) := by unfold printR; rw [hok]; rfl
    rw [hr]
    have h1 := hig _ hC1
    have hgb : (w.alloc (.cells #[.slice oa g.srcs.length c, .slice ob g.acts.length d] 25)).heap[w.heap.size]? = some (.cells #[.slice oa g.srcs.length c, .slice ob g.acts.length d] 25 (0, 0)) := heap_alloc_new' w _
    have HI := hid n3
    have HJ := hid n4
    have HS := hid hs
    have HA := hid ha
    have HG := hid hgb
    obtain ⟨txt, htxt⟩ : ∃ txt, txt = textL g := ⟨_, rfl⟩
    have HT : Hid (txt = (g.srcs.map srcLine).flatten ++ (g.acts.map actLine).flatten) := htxt
    have HTX := hid htxt
    have hb1 : ∀ k, ((g.srcs.take k).map srcLine).flatten.length ≤ 128 := fun k => by
      have := flatten_len ((g.srcs.take k).map srcLine) 16 (fun l hl => by obtain ⟨s, hs, rfl⟩ := List.mem_map.1 hl; exact srcLine_len s (HI.out s (List.mem_of_mem_take hs)))
      simp only [List.length_map, List.length_take] at this
      omega
    have HB1 := hid hb1
    have hb2 : ∀ k, ((g.acts.take k).map actLine).flatten.length ≤ 2400 := fun k => by
      have := flatten_len ((g.acts.take k).map actLine) 200 (fun l hl => by obtain ⟨s, hs, rfl⟩ := List.mem_map.1 hl; exact actLine_len s (HJ.out s (List.mem_of_mem_take hs)))
      simp only [List.length_map, List.length_take] at this
      omega
    have HB2 := hid hb2
    clear hig hg hs ha n3 n4 hr hok hgb htxt hb1 hb2
    go_enter Tryz.func120, Tryz.ntmps120
    go_wp2_with (go_at_call 139; refine h1.mono ?_; clear h1; rintro e W1 ⟨rfl, hc⟩; have HC1 := hid (hC1.trans hc (fun _ _ h => h)); have q0 : W1.cell? ⟨w.heap.size, 0, none⟩ = some (.slice oa g.srcs.length c) := (cell_of (hc.obj HG.out (fun h => h)) 0).trans rfl; have q1 : W1.cell? ⟨w.heap.size, 1, none⟩ = some (.slice ob g.acts.length d) := (cell_of (hc.obj HG.out (fun h => h)) 1).trans rfl; clear hc hC1 HG)
    go_loopw [4, 5] (fun ov i wr => ∃ k : Nat, k ≤ g.srcs.length ∧ i = .int .i64 k ∧ ov = .string (bs ((g.srcs.take k).map srcLine).flatten) ∧ wr = W1) (fun _ i _ => g.srcs.length - (intOf i).toNat)
    case atStart => exact ⟨0, Nat.zero_le _, rfl, rfl, rfl⟩
    case round =>
      obtain ⟨k, hk, rfl, rfl, rfl⟩ := hrel
      by_cases hkn : k < g.srcs.length
      · have hkn' : (k : Int) < g.srcs.length := by omega
        obtain ⟨ad, hix, hadc, hadb⟩ := (HS.out.chg HC1.out (fun _ _ h => h)).ix k hkn
        have hx8 := (nameL_let (HI.out _ (List.getElem_mem hkn))).2.1
        have hTk := HB1.out k
        rw [← bs_size] at hx8 hTk
        have htk : bs ((g.srcs.take k).map srcLine).flatten ++ { data := #[115, 111, 117, 114, 99, 101, 32] } ++ bs g.srcs[k] ++ { data := #[10] } = bs ((g.srcs.take (k + 1)).map srcLine).flatten := by
          rw [cat_src, List.take_succ_eq_append_getElem hkn, List.map_append, List.flatten_append]; simp
        have HTK := hid htk
        clear htk
        generalize bs g.srcs[k] = x at *
        generalize bs ((g.srcs.take k).map srcLine).flatten = sv at *
        have z1 : ¬ 9223372036854775807 < sv.size + 7 := by omega
        have z2 : ¬ 9223372036854775807 < sv.size + 7 + x.size := by omega
        have z3 : ¬ 9223372036854775807 < sv.size + 7 + x.size + 1 := by omega
        go_wp2_with fail
        go_roundw
        case rel => exact ⟨k + 1, by omega, by go_num, congrArg Value.string HTK.out, by first | rfl | trivial⟩
        case measure => simp [intOf]; omega
      · obtain rfl : k = g.srcs.length := by omega
        have hT1 := HB1.out g.srcs.length
        rw [List.take_length] at hT1 ⊢
        go_wp2_with fail
        generalize (g.srcs.map srcLine).flatten = T1 at *
        have HT1 := hid hT1
        obtain ⟨wo, hwo⟩ : ∃ wo, wo = wr := ⟨_, rfl⟩
        rw [← hwo] at HC1 q0 q1 ⊢
        clear hwo hT1
        go_loopw [4, 6] (fun ov i wr => ∃ k : Nat, k ≤ g.acts.length ∧ i = .int .i64 k ∧ ov = .string (bs (T1 ++ ((g.acts.take k).map actLine).flatten)) ∧ Chg (fun _ => False) wo wr) (fun _ i _ => g.acts.length - (intOf i).toNat)
        case atStart => exact ⟨0, Nat.zero_le _, rfl, by simp, Chg.refl _ _⟩
        case round =>
          obtain ⟨k, hk, rfl, rfl, hch⟩ := hrel
          have e1 := hch.cell q1 (fun h => h)
          have HCH := hid hch
          have HW := hid (HC1.out.trans hch (fun _ _ h => h))
          clear hch
          by_cases hkn : k < g.acts.length
          · have hkn' : (k : Int) < g.acts.length := by omega
            obtain ⟨bb, oo, hix, hlt, p0, p1, p2, hns, hw1, hw2⟩ := (HA.out.chg HW.out (fun _ _ h => h)).at k hkn
            obtain ⟨oi, ci, hiv⟩ := hns.form
            rw [hiv] at p1 hns
            have hok := HJ.out _ (List.getElem_mem hkn)
            have hTK : T1 ++ ((g.acts.take (k + 1)).map actLine).flatten = (T1 ++ ((g.acts.take k).map actLine).flatten) ++ actLine g.acts[k] := by
              rw [List.take_succ_eq_append_getElem hkn, List.map_append, List.flatten_append]; simp
            have hTl : (T1 ++ ((g.acts.take k).map actLine).flatten).length ≤ 2528 := by
              have h1 := HT1.out
              have h2 := HB2.out k
              rw [List.length_append]; omega
            have HTK := hid hTK
            obtain ⟨a, haE⟩ : ∃ a, a = g.acts[k] := ⟨_, rfl⟩
            rw [← haE] at p0 p1 p2 hns hok HTK
            clear haE hTK hw1 hw2 hiv
            generalize T1 ++ ((g.acts.take k).map actLine).flatten = T at *
            obtain ⟨o1, o2, o3, o4⟩ := (actOK_iff a).1 hok
            have hcode : ∀ W, Calls Tryz.prog 140 #[.string (bs a.code)] W (Rets (.string (bs (wordL a.code))) (Chg (fun _ => False) W)) := fun W => rword_any a.code o4 W
            have hwl := wordL_len a.code o4
            have hnl := (nameL_let o1).2.1
            have hil : ∀ q, (insT (a.ins.take q)).length ≤ 41 := fun q => by
              have := insT_len (a.ins.take q) 4 (by simp; omega) (fun s hs => (nameL_let (o2 s (List.mem_of_mem_take hs))).2.1)
              omega
            have HIL := hid hil
            have HO2 := hid o2
            have HNS := hid hns
            have HMK : Hid (bs T ++ { data := #[109, 97, 107, 101, 32] } ++ bs a.name = bs (T ++ (wMake ++ 32 :: a.name))) := cat_make T a.name
            have HBY : Hid (bs (T ++ (wMake ++ 32 :: a.name) ++ insT a.ins) ++ { data := #[32, 98, 121, 32] } ++ bs (wordL a.code) ++ { data := #[10] } = bs (T ++ actLine a)) := cat_by T a
            have hP : (T ++ (wMake ++ 32 :: a.name)).length ≤ 2600 := by simp [wMake]; omega
            have HP := hid hP
            rw [← bs_size] at hTl hwl hnl
            clear hil o1 o2 o4 hns hok hP
            generalize T ++ (wMake ++ 32 :: a.name) = P at *
            generalize bs T = sv at *
            generalize bs a.name = x1 at *
            generalize bs a.code = x2 at *
            generalize bs (wordL a.code) = x3 at *
            have z1 : ¬ 9223372036854775807 < sv.size + 5 := by omega
            have z2 : ¬ 9223372036854775807 < sv.size + 5 + x1.size := by omega
            have hwa : Chg (fun _ => False) wr (wr.alloc (.cells #[.string x1, .slice oi a.ins.length ci, .string x2] 43)) := (Chg.refl _ wr).alloc _
            have kA := heap_alloc_new' wr (.cells #[.string x1, .slice oi a.ins.length ci, .string x2] 43)
            have HN3 := hid (HNS.out.chg hwa (fun _ _ h => h))
            have HWA := hid hwa
            have HKA := hid kA
            clear hwa kA
            go_wp2_with fail
            rw [HMK.out]
            generalize wr.alloc (.cells #[.string x1, .slice oi a.ins.length ci, .string x2] 43) = wa at *
            obtain ⟨A6, hA6⟩ : ∃ A6, A6 = wr.heap.size := ⟨_, rfl⟩
            rw [← hA6] at HKA ⊢
            clear hA6 z1 z2
            have r1 : wa.cell? ⟨A6, 1, none⟩ = some (.slice oi a.ins.length ci) := (cell_of HKA.out 1).trans rfl
            have r2 : wa.cell? ⟨A6, 2, none⟩ = some (.string x2) := (cell_of HKA.out 2).trans rfl
            go_loopw [4, 8] (fun ov i wb => ∃ q : Nat, q ≤ a.ins.length ∧ i = .int .i64 q ∧ ov = .string (bs (P ++ insT (a.ins.take q))) ∧ wb = wa) (fun _ i _ => a.ins.length - (intOf i).toNat)
            case atStart => exact ⟨0, Nat.zero_le _, rfl, by simp [insT], rfl⟩
            case round =>
              obtain ⟨q, hq, rfl, rfl, rfl⟩ := hrel
              by_cases hqn : q < a.ins.length
              · have hqn' : (q : Int) < a.ins.length := by omega
                obtain ⟨ad3, hix3, hadc3, hadb3⟩ := HN3.out.ix q hqn
                have hx8 := (nameL_let (HO2.out _ (List.getElem_mem hqn))).2.1
                have hpl : (P ++ insT (a.ins.take q)).length ≤ 2700 := by
                  have h1 := HP.out
                  have h2 := HIL.out q
                  rw [List.length_append]; omega
                rw [← bs_size] at hx8 hpl
                by_cases hq0 : q = 0
                · subst hq0
                  have e00 : ((0 : Nat) : Int) = 0 := rfl
                  rw [e00] at hix3
                  have hcat : bs (P ++ insT (a.ins.take 0)) ++ { data := #[32, 102, 114, 111, 109] } ++ { data := #[32] } ++ bs a.ins[0] = bs (P ++ insT (a.ins.take (0 + 1))) := by
                    rw [cat_from, List.take_succ_eq_append_getElem hqn]; simp [insT]
                  have HCAT := hid hcat
                  clear hcat
                  generalize bs (P ++ insT (a.ins.take 0)) = sv2 at *
                  generalize bs a.ins[0] = x4 at *
                  have z1 : ¬ 9223372036854775807 < sv2.size + 5 := by omega
                  have z2 : ¬ 9223372036854775807 < sv2.size + 5 + 1 := by omega
                  have z3 : ¬ 9223372036854775807 < sv2.size + 5 + 1 + x4.size := by omega
                  go_wp2_with fail
                  go_roundw
                  case rel => exact ⟨0 + 1, by omega, by go_num, congrArg Value.string HCAT.out, by first | rfl | trivial⟩
                  case measure => simp [intOf]; omega
                · have hq0' : ¬ (q : Int) = 0 := by omega
                  have hcat : bs (P ++ insT (a.ins.take q)) ++ { data := #[32] } ++ bs a.ins[q] = bs (P ++ insT (a.ins.take (q + 1))) := by
                    rw [cat_more, List.take_succ_eq_append_getElem hqn, insT_more _ _ (by intro e; have := congrArg List.length e; rw [List.length_take, List.length_nil] at this; omega)]; simp
                  have HCAT := hid hcat
                  clear hcat
                  generalize bs (P ++ insT (a.ins.take q)) = sv2 at *
                  generalize bs a.ins[q] = x4 at *
                  have z1 : ¬ 9223372036854775807 < sv2.size + 1 := by omega
                  have z2 : ¬ 9223372036854775807 < sv2.size + 1 + x4.size := by omega
                  go_wp2_with fail
                  go_roundw
                  case rel => exact ⟨q + 1, by omega, by go_num, congrArg Value.string HCAT.out, by first | rfl | trivial⟩
                  case measure => simp [intOf]; omega
              · obtain rfl : q = a.ins.length := by omega
                have hpl : (P ++ insT a.ins).length ≤ 2700 := by
                  have h1 := HP.out
                  have h2 := HIL.out a.ins.length
                  rw [List.take_length] at h2
                  rw [List.length_append]; omega
                rw [← bs_size] at hpl
                rw [List.take_length]
                generalize bs (P ++ insT a.ins) = sv2 at *
                have z1 : ¬ 9223372036854775807 < sv2.size + 4 := by omega
                have z2 : ¬ 9223372036854775807 < sv2.size + 4 + x3.size := by omega
                have z3 : ¬ 9223372036854775807 < sv2.size + 4 + x3.size + 1 := by omega
                go_wp2_with (go_at_call 140; refine (hcode _).mono ?_; rintro e w7 ⟨rfl, hc7⟩)
                go_roundw
                case rel => exact ⟨k + 1, by omega, by go_num, congrArg Value.string (by rw [HTK.out]; exact HBY.out), (HCH.out.trans HWA.out (fun _ _ h => h)).trans hc7 (fun _ _ h => h)⟩
                case measure => simp [intOf]; omega
          · obtain rfl : k = g.acts.length := by omega
            rw [List.take_length, ← HT.out]
            go_wp2_with fail
            go_ret2
            refine ⟨?_, HW.out⟩
            rw [HTX.out]
            rfl
end Go.Proofs.YthglfmacjoecgaaGreatDoor
namespace Go.Proofs.YthglfmacjoecgaaGreatDoor
open Go.RowKit

/-- v is a slice of the numbers l (read only). -/
def IntsAt (w : World) (v : Value) (l : List Nat) : Prop := RowsAt w v 1 l.length (fun i => [natV (l.getD i 0)])
theorem IntsAt.of_owns {w : World} {v : Value} {l : List Nat} (h : w.ownsRow 0 3 1 v l.length (l.map natV)) : IntsAt w v l := by
  rcases h.2 with ⟨rfl, h0⟩ | ⟨g, cap, cur, rfl, _, hg, hnc, hcm, hcs, ht⟩
  · exact ⟨.inl ⟨rfl, h0⟩, by rw [h0]; exact Nat.zero_le _, fun i hi => rfl⟩
  · refine ⟨.inr ⟨_, cap, rfl, fun i hi j hj => ?_⟩, by omega, fun i hi => rfl⟩
    obtain rfl : j = 0 := by omega
    have := h.cellAt i (by simpa using hi)
    have hadd : (⟨g, 0, none⟩ : Addr).add (i * 1 + 0) = ⟨g, i, none⟩ := by unfold Addr.add; split <;> simp_all
    rw [hadd, this]
    simp [hi]
theorem IntsAt.chg {F : Nat → Prop} {w w' : World} {v : Value} {l : List Nat} (h : IntsAt w v l) (hc : Chg F w w') (hF : ∀ k, k < w.heap.size → ¬ F k) : IntsAt w' v l := RowsAt.chg h hc hF
theorem IntsAt.len {w0 : World} {v : Value} {l : List Nat} (h : IntsAt w0 v l) (w : World) (ty : TypeId) : (Builtin.len_ #[75] ty #[v]).run Tryz.prog w = .ok (.int .i64 l.length) w :=
  RowsAt.len (P := Tryz.prog) h Tryz.underlying75 w ty
theorem IntsAt.ix {w : World} {v : Value} {l : List Nat} (h : IntsAt w v l) (k : Nat) (hk : k < l.length) :
    ∃ bb oo, (∀ w, (Instr.indexAt 75 v (.int .i64 k)).run Tryz.prog w = .ok (.pointer (some ⟨bb, oo, none⟩)) w) ∧ w.cell? ⟨bb, oo, none⟩ = some (.int .i64 l[k]) ∧ bb < w.heap.size := by
  obtain ⟨bb, oo, h1, h2, h3⟩ := RowsAt.ix (P := Tryz.prog) h Tryz.underlying75 (fun w => by kernel_rfl) (by decide) k hk
  refine ⟨bb, oo, h1, ?_, h3⟩
  have := h2 0 (by decide)
  exact this.trans (by simp [hk])
theorem IntsAt.form {w : World} {v : Value} {l : List Nat} (h : IntsAt w v l) : ∃ oa c, v = .slice oa l.length c := by
  rcases RowsAt.form h with ⟨h1, h2⟩ | ⟨a, cap, h1, _⟩
  · exact ⟨none, 0, by rw [h1, h2]⟩
  · exact ⟨some a, cap, h1⟩

theorem al_chg (w : World) (o : Obj) : Chg (fun _ => False) w (w.alloc o) := (Chg.refl _ w).alloc _
end Go.Proofs.YthglfmacjoecgaaGreatDoor
namespace Go.Proofs.YthglfmacjoecgaaGreatDoor
open Go.RowKit

theorem elAct : ElT Tryz.prog 23 43 3 56 := .mk' (z := .agg #[.string ByteArray.empty, .slice none 0 0, .string ByteArray.empty]) Tryz.underlying23 (by kernel_rfl) rfl (by decide) rfl
def flatA (ps : List (ActR × Value)) : List Value := ps.flatMap fun p => [strV p.1.name, p.2, strV p.1.code]
theorem flatA_append (ps : List (ActR × Value)) (p : ActR × Value) : flatA (ps ++ [p]) = flatA ps ++ [strV p.1.name, p.2, strV p.1.code] := by simp [flatA]
theorem own_eq {g2 n cap k : Nat} (h : (Value.slice (some ⟨g2, 0, none⟩) n cap).ownBlock = some k) : k = g2 := by cases h; rfl
def slBlk : Value → Option Nat
  | .slice (some a) _ _ => some a.block
  | _ => none
theorem add_block (a : Addr) (i : Nat) : (a.add i).block = a.block := by unfold Addr.add; split <;> rfl
theorem NamesAt.lt {w : World} {v : Value} {ss : List (List UInt8)} (h : NamesAt w v ss) (hn : ss ≠ []) : ∀ k, slBlk v = some k → k < w.heap.size := by
  intro k hk
  rcases h.1 with ⟨_, h1⟩ | ⟨a, cap, rfl, h1⟩
  · exact absurd (List.map_eq_nil_iff.1 h1) hn
  · have h0 := h1 0 (by simpa using List.length_pos_iff.2 hn)
    have := World.block_lt_of_cell? w _ h0
    rw [add_block] at this
    cases hk
    exact this

theorem flatA_get : ∀ (ps : List (ActR × Value)) (i j : Nat), j < 3 → (flatA ps)[i * 3 + j]? = (ps[i]?).bind (fun p => [strV p.1.name, p.2, strV p.1.code][j]?)
  | [], i, j, _ => by simp [flatA]
  | p :: ps, i, j, hj => by
    have e : flatA (p :: ps) = [strV p.1.name, p.2, strV p.1.code] ++ flatA ps := rfl
    rw [e]
    cases i with
    | zero =>
      rw [Nat.zero_mul, Nat.zero_add, List.getElem?_append_left (by simpa using hj)]
      rfl
    | succ i =>
      rw [List.getElem?_append_right (by simp; omega), show (i + 1) * 3 + j - [strV p.1.name, p.2, strV p.1.code].length = i * 3 + j by simp; omega, flatA_get ps i j hj]
      rfl
theorem NamesAt.of_owns {w : World} {v : Value} {ss : List Nm} (h : w.ownsRow 0 9 1 v ss.length (ss.map nmV)) (hl : ss.length ≤ maxLen) (hw : ∀ s ∈ ss, s.length ≤ maxLen) : NamesAt w v ss := by
  refine ⟨?_, by simpa using hl, fun s hs => by obtain ⟨y, hy, rfl⟩ := List.mem_map.1 hs; rw [bs_size]; exact hw y hy⟩
  rcases h.2 with ⟨rfl, h0⟩ | ⟨g, cap, cur, rfl, _⟩
  · left; exact ⟨rfl, by rw [List.length_eq_zero_iff.1 h0]; rfl⟩
  · right
    refine ⟨⟨g, 0, none⟩, cap, by simp, fun i hi => ?_⟩
    have hi' : i < ss.length := by simpa using hi
    have h3 := h.cellAt i (by simpa using hi')
    have e3 : (⟨g, 0, none⟩ : Addr).add i = ⟨g, i, none⟩ := by unfold Addr.add; split <;> simp_all
    rw [e3, h3]
    simp [hi']
theorem ActsAt.of_owns {w : World} {v : Value} {ps : List (ActR × Value)} (h : w.ownsRow 0 43 3 v ps.length (flatA ps)) (hl : ps.length ≤ maxLen) (hi : ∀ p ∈ ps, NamesAt w p.2 p.1.ins)
    (hw : ∀ p ∈ ps, p.1.name.length ≤ maxLen ∧ p.1.code.length ≤ maxLen) : ActsAt w v (ps.map Prod.fst) (fun i => (ps.map (·.2)).getD i (.bool true)) := by
  refine ⟨⟨?_, by simpa using hl, fun i _ => rfl⟩, ?_, ?_⟩
  · rcases h.2 with ⟨rfl, h0⟩ | ⟨g, cap, cur, rfl, _⟩
    · left; exact ⟨rfl, by simpa using h0⟩
    · right
      refine ⟨⟨g, 0, none⟩, cap, by simp, fun i hi j hj => ?_⟩
      have hi' : i < ps.length := by simpa using hi
      have h3 := h.cellAt (i * 3 + j) (by omega)
      have e3 : (⟨g, 0, none⟩ : Addr).add (i * 3 + j) = ⟨g, i * 3 + j, none⟩ := by unfold Addr.add; split <;> simp_all
      rw [e3, h3, flatA_get ps i j hj]
      simp [hi', strV]
  · intro i hi2
    have hi' : i < ps.length := by simpa using hi2
    have := hi ps[i] (List.getElem_mem hi')
    simpa [List.getD_eq_getElem?_getD, hi'] using this
  · intro a ha
    obtain ⟨p, hp, rfl⟩ := List.mem_map.1 ha
    exact hw p hp
/-- A slice just laid, of names. -/
theorem names_new (w : World) (ss : List Nm) (n : Nat) (hn : n = ss.length) (hl : n ≤ 1000) (hw : ∀ s ∈ ss, s.length ≤ 1000) : NamesAt (w.alloc (.cells (ss.map nmV).toArray 9)) (.slice (some ⟨w.heap.size, 0, none⟩) n n) ss := by
  subst hn
  exact NamesAt.of_owns (owns_new w (ss.map nmV) 9 1 ss.length (by simp) (by unfold maxLen; omega)) (by unfold maxLen; omega) (fun s hs => by have := hw s hs; unfold maxLen; omega)
end Go.Proofs.YthglfmacjoecgaaGreatDoor
