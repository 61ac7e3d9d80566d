/- Texts of the proof, one behind the other: A slice of the call's own that is shortened from the front and appended to: elements of one cell; Sets of names in maps; slices.Sorted(maps.Keys(m)) at such a set; what is sorted so; slices.Clone at names, (*web).needs walked; trellis.Needs, Dirty walked; trellis.Dirty walked; apiaryref07.IsName, apiaryref01.Same walked. -/
import Derived.Test.YthglfmacjoecgaaGreatDoorMh01
import Derived.Test.YthglfmacjoecgaaGreatDoorMh17
import Derived.Test.YthglfmacjoecgaaGreatDoorIter
import Derived.Lib.BufferMore
import Derived.Test.YthglfmacjoecgaaGreatDoorMh06
namespace Go.Proofs.YthglfmacjoecgaaGreatDoor
open Go.RowKit

/-- v is a slice of the values xs; they lie in a block that may be written. -/
def QRow (w : World) (e : TypeId) (v : Value) (xs : List Value) : Prop :=
  (v = .slice none 0 0 ∧ xs = []) ∨ ∃ g o cap cur, v = .slice (some ⟨g, o, none⟩) xs.length cap ∧ w.heap[g]? = some (.cells cur e (0, 0)) ∧ xs.length ≤ cap ∧ cap ≤ maxLen ∧ o + cap ≤ cur.size ∧ (cur.toList.drop o).take xs.length = xs
section
variable {P : Program} {w w' : World} {e : TypeId} {v : Value} {xs : List Value}
theorem QRow.of_owns {n : Nat} (h : w.ownsRow 0 e 1 v n xs) : QRow w e v xs := by
  obtain ⟨hl, h⟩ := h
  rcases h with ⟨rfl, rfl⟩ | ⟨g, cap, cur, rfl, _, hg, hnc, hcm, hcs, ht⟩
  · exact .inl ⟨rfl, List.length_eq_zero_iff.1 (by simpa using hl)⟩
  · have hl : xs.length = n := by simpa using hl
    subst hl
    exact .inr ⟨g, 0, cap, cur, rfl, hg, hnc, hcm, by rw [hcs]; omega, by simpa using ht⟩
theorem QRow.chg {F : Nat → Prop} (h : QRow w e v xs) (hc : Chg F w w') (hn : ∀ k, v.ownBlock = some k → ¬ F k) : QRow w' e v xs := by
  rcases h with h | ⟨g, o, cap, cur, rfl, hg, r⟩
  · exact .inl h
  · exact .inr ⟨g, o, cap, cur, rfl, hc.obj hg (hn g rfl), r⟩
theorem QRow.lt (h : QRow w e v xs) : ∀ k, v.ownBlock = some k → k < w.heap.size := by
  rcases h with ⟨rfl, _⟩ | ⟨g, o, cap, cur, rfl, hg, _⟩
  · intro k hk; cases hk
  · intro k hk
    simp [Value.ownBlock] at hk
    subst hk
    exact heap_lt hg
theorem run_append_at (t ty : TypeId) (i : TypeInfo) (ht : P.underlying t = some (.slice e)) (hi : P.info? e = some i) (h1s : i.size = 1)
    (g o n cap : Nat) (cur : Array Value) (hg : w.heap[g]? = some (.cells cur e (0, 0)))
    (a : Addr) (m c : Nat) (news : List Value) (hl : news.length = m) (hnews : ∀ j u, news[j]? = some u → w.cell? (a.add j) = some u) (h1 : ∀ u ∈ news, u.oneCell' = true)
    (hroom : n + m ≤ cap) (hfit : o + n + news.length ≤ cur.size) :
    (Builtin.append_ #[t, t] ty #[.slice (some ⟨g, o, none⟩) n cap, .slice (some a) m c]).run P w =
      .ok (.slice (some ⟨g, o, none⟩) (n + m) cap) (w.setRow g (cur.toList.take (o + n) ++ news ++ cur.toList.drop (o + n + news.length)).toArray) := by
  have hf := run_firstCells_some (P := P) w i.size m a m c news (by rw [hl, h1s]; omega) hnews
  have hst := run_storeCells_at P g (o + n) e news 0 cur w hg (by simpa using hfit) h1
  simp only [Nat.add_zero] at hst
  rw [h1s] at hf
  have hadd : (⟨g, o, none⟩ : Addr).add n = ⟨g, o + n, none⟩ := by unfold Addr.add; split <;> simp_all
  simp [Builtin.append_, run_underlying ht, sizeOf, typeInfo, hi, Builtin.lenOf, hroom, h1s, hf, hadd, hst]

theorem QRow.append {t : TypeId} {bytes : Nat} (T : ElT P t e 1 bytes) (h : QRow w e v xs) (ty : TypeId)
    (a : Addr) (m c : Nat) (news : List Value) (hl : news.length = m) (hnews : ∀ j u, news[j]? = some u → w.cell? (a.add j) = some u) (h1 : ∀ u ∈ news, u.oneCell' = true)
    (h63 : xs.length + m ≤ maxLen) (hbytes : (xs.length + m) * bytes ≤ 140737488355328) :
    ∃ v' w', (Builtin.append_ #[t, t] ty #[v, .slice (some a) m c]).run P w = .ok v' w' ∧ QRow w' e v' (xs ++ news) ∧ Chg (fun k => v.ownBlock = some k) w w' ∧ (∀ k, v'.ownBlock = some k → v.ownBlock = some k ∨ w.heap.size ≤ k) := by
  obtain ⟨i, z, hi, hz, h2, h3, h4, _⟩ := T.info
  have T2 := T.ht
  rcases h with ⟨rfl, rfl⟩ | ⟨g, o, cap, cur, rfl, hg, hlc, hm, hcs, ht⟩
  · obtain ⟨v', w', hr, r1, r2, r3, r4⟩ := run_append_chg (P := P) w t ty e i z 1 bytes T2 hi hz h2 h3 h4 T.pos (.slice none 0 0) 0 [] (World.ownsRow_nil _ _ _ _) a m c news (by rw [hl]; omega) hnews h1 (by simpa using h63) (by simpa using hbytes)
    exact ⟨v', w', hr, QRow.of_owns r1, r2, r3⟩
  · by_cases hroom : xs.length + m ≤ cap
    · refine ⟨_, _, run_append_at t ty i T2 hi h2 g o xs.length cap cur hg a m c news hl hnews h1 hroom (by rw [hl]; omega), .inr ⟨g, o, cap, _, by rw [List.length_append, hl], setRow_heap w g cur _ e _ hg, by rw [List.length_append, hl]; exact hroom, hm, ?_, ?_⟩, ?_, fun k hk => .inl hk⟩
      · have hcl : cur.toList.length = cur.size := Array.length_toList
        simp only [List.size_toArray, List.length_append, List.length_take, List.length_drop]
        omega
      · have hcl : cur.toList.length = cur.size := Array.length_toList
        rw [List.append_assoc, List.take_add, List.append_assoc]
        have hA : (cur.toList.take o).length = o := by simp; omega
        rw [List.drop_append_of_le_length (by omega), List.drop_of_length_le (by omega), List.nil_append, ht, ← List.append_assoc]
        exact List.take_left
      · exact (Chg.refl (fun k => (Value.slice (some ⟨g, o, none⟩) xs.length cap).ownBlock = some k) w).setRow (g := g) (fun _ => rfl) _
    · obtain ⟨hlo, hh⟩ : xs.length = xs.length * i.size ∧ ∀ j u, xs[j]? = some u → w.cell? ((⟨g, o, none⟩ : Addr).add j) = some u := by
        refine ⟨by rw [h2]; omega, fun j u hj => ?_⟩
        have hadd : (⟨g, o, none⟩ : Addr).add j = ⟨g, o + j, none⟩ := by unfold Addr.add; split <;> simp_all
        rw [hadd, cell_of hg, ← Array.getElem?_toList]
        have hj2 := hj
        rw [← ht, List.getElem?_take] at hj2
        split at hj2
        · rw [List.getElem?_drop] at hj2; exact hj2
        · cases hj2
      have hgr := run_append_grow (P := P) w t ty e i z T2 hi hz ⟨g, o, none⟩ xs.length cap xs hlo hh a m c news (by rw [h2, hl]; omega) hnews (by omega) (by simp only [maxLen] at h63; omega) (growslice_fits (by omega) (by rw [h3]; exact hbytes))
      refine ⟨_, _, hgr, ?_, ((Chg.refl _ w).drew).alloc _, fun k hk => ?_⟩
      · refine .inr ⟨w.heap.size, 0, grownCap w (xs.length + m) cap e, _, by rw [List.length_append, hl], heap_alloc_new w.drew _, ?_, ?_, ?_, ?_⟩
        · rw [List.length_append, hl]; exact grownCap_ge _ _ _ _
        · exact grownCap_le_maxLen w _ _ e h63
        · have hge := grownCap_ge w (xs.length + m) cap e
          simp only [Array.size_append, List.size_toArray, size_zeroCells, h4, hl]
          omega
        · simp only [Array.toList_append, List.append_assoc, List.drop_zero]
          rw [← List.append_assoc]
          exact List.take_left
      · simp [Value.ownBlock] at hk
        exact .inr (by omega)
end
end Go.Proofs.YthglfmacjoecgaaGreatDoor
namespace Go.Proofs.YthglfmacjoecgaaGreatDoor
open Go.RowKit Go.Maps Go.Sort Go.Shelf

def setL (K : List Nm) : List (Nm × Bool) := K.map fun s => (s, true)
/-- Block r is a map that holds the names K, each once. -/
def SetAt (w : World) (r : Nat) (K : List Nm) : Prop :=
  ∃ es clock, w.heap[r]? = some (.map es clock) ∧ es.toList.map (fun e => (e.key, e.val)) = (setL K).map (fun p => (nmV p.1, boolV p.2)) ∧ MapKept.Stamped es clock
section
variable {w w' : World} {r : Nat} {K : List Nm}
theorem SetAt.map (h : SetAt w r K) : MapL w r nmV boolV (setL K) := by obtain ⟨es, clock, h1, h2, _⟩ := h; exact ⟨es, clock, h1, h2⟩
theorem SetAt.lt (h : SetAt w r K) : r < w.heap.size := h.map.lt
theorem SetAt.chg {F : Nat → Prop} (h : SetAt w r K) (hc : Chg F w w') (hF : ¬ F r) : SetAt w' r K := by
  obtain ⟨es, clock, h1, h2⟩ := h
  exact ⟨es, clock, hc.obj h1 hF, h2⟩
theorem SetAt.fresh (w : World) : SetAt (w.alloc (.map #[] 0)) w.heap.size [] := ⟨#[], 0, heap_alloc_new w _, rfl, by simp [MapKept.Stamped]⟩
def mapLen (w : World) (r : Nat) : Nat := match w.heap[r]? with
  | some (.map es _) => es.size
  | _ => 0
theorem SetAt.len (h : SetAt w r K) : mapLen w r = K.length := by
  obtain ⟨es, clock, h1, h2, _⟩ := h
  unfold mapLen
  rw [h1]
  have := congrArg List.length h2
  simpa [setL] using this
theorem SetAt.put (h : SetAt w r K) {P : Program} {kt t e : TypeId} (KT : KeyT P kt nmV) (ht : P.underlying t = some (.map kt e)) {s : Nm} (hs : s ∉ K) :
    ∃ w', (Instr.mapUpdate t (.map (some r)) (nmV s) (boolV true)).run P w = .ok () w' ∧ SetAt w' r (K ++ [s]) ∧ Chg (fun i => i = r) w w' := by
  obtain ⟨es, clock, h1, h2, h3⟩ := h
  have hf := KT.find boolV es.toList (setL K) s w h2
  have hl : lfind s (setL K) 0 = none := by
    rw [lfind_none]
    intro p hp e
    unfold setL at hp
    obtain ⟨t, ht, rfl⟩ := List.mem_map.1 hp
    exact hs (e ▸ ht)
  rw [hl] at hf
  refine ⟨Go.ChangeMaps.setBlock w r (.map (es.push { key := nmV s, val := boolV true, born := clock }) (clock + 1)), ?_, ⟨es.push { key := nmV s, val := boolV true, born := clock }, clock + 1, ?_, ?_, ?_⟩, setBlock_chg _ _ _⟩
  · simp [Instr.mapUpdate, run_underlying ht, MapKept.run_getObj_map h1, KT.check, hf, MapKept.run_setObj_map _ h1, Go.ChangeMaps.setBlock]
  · simp only [Go.ChangeMaps.setBlock]; rw [Array.getElem?_setIfInBounds_self_of_lt (heap_lt h1)]
  · rw [show setL (K ++ [s]) = setL K ++ [(s, true)] by unfold setL; simp, List.map_append, ← h2]
    simp
  · refine MapKept.stamped_push h3 (fun x hx e => ?_)
    have hx2 : (x.key, x.val) ∈ es.toList.map (fun e => (e.key, e.val)) := List.mem_map.2 ⟨x, hx, rfl⟩
    rw [h2] at hx2
    obtain ⟨p, hp, e2⟩ := List.mem_map.1 hx2
    unfold setL at hp
    obtain ⟨t, ht, rfl⟩ := List.mem_map.1 hp
    simp only [Prod.mk.injEq] at e2
    rw [e] at e2
    have : bs t = bs s := by simpa using e2.1
    exact hs (bs_inj this ▸ ht)
theorem SetAt.owns (h : SetAt w r K) (hl : ∀ s ∈ K, s.length ≤ maxLen) (hn : K.length ≤ maxLen) :
    ∃ D : DataW Unit, w.ownsMap Tryz.prog 9 (plainElem Tryz.prog 4) r K.length D ∧ (strKeys D).Perm K ∧ Maps.size D = K.length := by
  obtain ⟨es, clock, h1, h2, h3⟩ := h
  have hlen : es.size = K.length := by have := congrArg List.length h2; simpa [setL] using this
  have hx : ∀ x ∈ es.toList, ∃ s ∈ K, x.key = nmV s ∧ x.val = .bool true := by
    intro x hx
    have hx2 : (x.key, x.val) ∈ es.toList.map (fun e => (e.key, e.val)) := List.mem_map.2 ⟨x, hx, rfl⟩
    rw [h2] at hx2
    obtain ⟨p, hp, e2⟩ := List.mem_map.1 hx2
    unfold setL at hp
    obtain ⟨t, ht, rfl⟩ := List.mem_map.1 hp
    simp only [Prod.mk.injEq] at e2
    exact ⟨t, ht, e2.1.symm, e2.2.symm⟩
  have hrd : ∀ x ∈ es.toList, ∃ s ∈ K, x.key = nmV s ∧ Go.WideElems.rd Tryz.prog 9 (plainElem (H := Unit) Tryz.prog 4) x = some (.string s, .lit (.bool true)) := by
    intro x hxm
    obtain ⟨s, hs, e1, e2⟩ := hx x hxm
    refine ⟨s, hs, e1, ?_⟩
    obtain ⟨key, val, born⟩ := x
    simp only at e1 e2
    subst e1 e2
    have hk : keyOf Tryz.prog 9 (nmV s) = some (.string (bs s).data.toList) := Go.WideMaps.keyOf_string_mk Tryz.underlying9 (by rw [bs_size]; exact hl s hs)
    rw [bs_data] at hk
    exact Go.WideElems.rd_mk hk (plainElem_bool Tryz.underlying4 true)
  refine ⟨_, ⟨es, clock, h1, ⟨by rw [hlen]; exact hn, h3, fun x hx => by obtain ⟨s, _, _, h⟩ := hrd x hx; exact ⟨_, h⟩⟩, by omega, rfl⟩, ?_, ?_⟩
  · have hp := Go.WideShapes.sorted_perm (es.toList.map (Go.WideElems.rg Tryz.prog 9 (plainElem (H := Unit) Tryz.prog 4)))
    have hp2 := hp.map (fun p : Lit × DataW Unit => strOf p.1)
    refine List.Perm.trans hp2 ?_
    rw [List.map_map]
    have e1 : es.toList.map ((fun p : Lit × DataW Unit => strOf p.1) ∘ Go.WideElems.rg Tryz.prog 9 (plainElem (H := Unit) Tryz.prog 4)) = es.toList.map ((fun q : Value × Value => match q.1 with | .string b => b.data.toList | _ => []) ∘ fun e => (e.key, e.val)) := by
      refine List.map_congr_left (fun x hx => ?_)
      obtain ⟨s, _, e1, e2⟩ := hrd x hx
      simp only [Function.comp, Go.WideElems.rg_of e2, e1, bs_data]
      rfl
    rw [e1, ← List.map_map, h2, List.map_map]
    unfold setL
    rw [List.map_map]
    have e3 : K.map (((fun q : Value × Value => match q.1 with | .string b => b.data.toList | _ => []) ∘ fun p : Nm × Bool => (nmV p.1, boolV p.2)) ∘ fun s => (s, true)) = K.map id := List.map_congr_left (fun s _ => by simp [bs_data])
    rw [e3, List.map_id]
  · show ((es.toList.map (Go.WideElems.rg Tryz.prog 9 (plainElem (H := Unit) Tryz.prog 4))).foldr DataW.insert []).length = _
    rw [length_sorted]
    simpa using hlen
end
end Go.Proofs.YthglfmacjoecgaaGreatDoor
namespace Go.Proofs.YthglfmacjoecgaaGreatDoor
open Go.RowKit

theorem QRow.lenOf {w : World} {e : TypeId} {v : Value} {xs : List Value} (h : QRow w e v xs) : Go.Proofs.YthglfmacjoecgaaGreatDoor.lenOf v = xs.length := by
  rcases h with ⟨rfl, rfl⟩ | ⟨g, o, cap, cur, rfl, _⟩ <;> rfl
/-- The state of the search: what has been taken up, what is still to be. -/
structure NSt (g : GrR) (i : Nat) (K todo : List Nm) : Prop where
  nd : K.Nodup
  a : ∀ s ∈ insAt g i, s ∈ K ∨ s ∈ todo
  b : ∀ t ∈ K, ∀ s ∈ actIns g t, s ∈ K ∨ s ∈ todo
  c : ∀ s, s ∈ K ∨ s ∈ todo → Needs g i s
theorem NSt.start (g : GrR) (i : Nat) : NSt g i [] (insAt g i) := ⟨List.nodup_nil, fun s h => .inr h, (fun t h => absurd h (by simp)), fun s h => by rcases h with h | h; exact absurd h (by simp); exact .base h⟩
theorem NSt.take {g : GrR} {i : Nat} {K rest : List Nm} {s : Nm} (h : NSt g i K (s :: rest)) (hs : s ∉ K) : NSt g i (K ++ [s]) (rest ++ actIns g s) := by
  have key : ∀ u, u ∈ K ∨ u ∈ s :: rest → u ∈ K ++ [s] ∨ u ∈ rest ++ actIns g s := by
    intro u hu
    rcases hu with hu | hu
    · exact .inl (List.mem_append_left _ hu)
    · rcases List.mem_cons.1 hu with rfl | hu
      · exact .inl (by simp)
      · exact .inr (List.mem_append_left _ hu)
  have hsn : Needs g i s := h.c s (.inr (by simp))
  refine ⟨?_, fun u hu => key u (h.a u hu), fun t ht u hu => ?_, fun u hu => ?_⟩
  · rw [List.nodup_append]
    exact ⟨h.nd, by simp, fun a ha b hb => by simp at hb; subst hb; intro e; exact hs (e ▸ ha)⟩
  · rcases List.mem_append.1 ht with ht | ht
    · exact key u (h.b t ht u hu)
    · simp at ht; subst ht
      exact .inr (List.mem_append_right _ hu)
  · rcases hu with hu | hu
    · rcases List.mem_append.1 hu with hu | hu
      · exact h.c u (.inl hu)
      · simp at hu; subst hu; exact hsn
    · rcases List.mem_append.1 hu with hu | hu
      · exact h.c u (.inr (List.mem_cons_of_mem _ hu))
      · exact .step hsn hu
theorem NSt.le {g : GrR} (hw : Wov g) {i : Nat} (hi : i < g.acts.length) {K todo : List Nm} (h : NSt g i K todo) : K.length ≤ 20 := by
  have h1 := sub_length K (namesL g) h.nd (fun s hs => (h.c s (.inl hs)).names hw hi)
  have h2 := hw.srcs8
  have h3 := hw.acts12
  unfold namesL at h1
  simp at h1
  omega
theorem NSt.done {g : GrR} {i : Nat} {K : List Nm} (h : NSt g i K []) (s : Nm) : s ∈ K ↔ Needs g i s :=
  needs_closed (fun s hs => (h.a s hs).resolve_right (by simp)) (fun t ht s hs => (h.b t ht s hs).resolve_right (by simp)) (fun s hs => h.c s (.inl hs)) s
end Go.Proofs.YthglfmacjoecgaaGreatDoor
namespace Go.Proofs.YthglfmacjoecgaaGreatDoor
open Go.RowKit

end Go.Proofs.YthglfmacjoecgaaGreatDoor
namespace Go.Proofs.YthglfmacjoecgaaGreatDoor
open Go.RowKit

end Go.Proofs.YthglfmacjoecgaaGreatDoor
namespace Go.Proofs.YthglfmacjoecgaaGreatDoor
open Go.RowKit

end Go.Proofs.YthglfmacjoecgaaGreatDoor
