/- Sets of names in maps; slices.Sorted(maps.Keys(m)) at such a set; what is sorted so. -/
import Derived.Test.YtafdcmhckpdnbaaDoorTrH
import Derived.Test.YtafdcmhckpdnbaaDoorIter
import Derived.Test.YtafdcmhckpdnbaaDoorQueue
namespace Go.Proofs.YtafdcmhckpdnbaaDoor
open Go.RowKit Go.Maps Go.Sort Go.Shelf

def setL (K : List Nm) : List (Nm × Bool) := K.map fun s => (s, true)
theorem setL_put {K : List Nm} {s : Nm} (h : s ∉ K) : lput s true (setL K) = setL (K ++ [s]) := by
  rw [lput_new]
  · unfold setL; simp
  · unfold setL
    rw [List.map_map]
    intro hm
    obtain ⟨t, ht, e⟩ := List.mem_map.1 hm
    simp at e
    exact h (e ▸ ht)
theorem setL_val (s : Nm) : ∀ K : List Nm, (lval s (setL K)).getD false = K.contains s
  | [] => rfl
  | t :: K => by
    show (lval s ((t, true) :: setL K)).getD false = _
    rw [lval_cons]
    by_cases h : s = t
    · subst h; simp
    · rw [if_neg h, setL_val s K]
      simp [h]
/-- Block r is a map that holds the names K, each once. -/
def SetAt (w : World) (r : Nat) (K : List Nm) : Prop :=
  ∃ es clock, w.heap[r]? = some (.map es clock) ∧ es.toList.map (fun e => (e.key, e.val)) = (setL K).map (fun p => (nmV p.1, boolV p.2)) ∧ MapKept.Stamped es clock
section
variable {w w' : World} {r : Nat} {K : List Nm}
theorem SetAt.map (h : SetAt w r K) : MapL w r nmV boolV (setL K) := by obtain ⟨es, clock, h1, h2, _⟩ := h; exact ⟨es, clock, h1, h2⟩
theorem SetAt.lt (h : SetAt w r K) : r < w.heap.size := h.map.lt
theorem SetAt.chg {F : Nat → Prop} (h : SetAt w r K) (hc : Chg F w w') (hF : ¬ F r) : SetAt w' r K := by
  obtain ⟨es, clock, h1, h2⟩ := h
  exact ⟨es, clock, hc.obj h1 hF, h2⟩
theorem SetAt.fresh (w : World) : SetAt (w.alloc (.map #[] 0)) w.heap.size [] := ⟨#[], 0, heap_alloc_new w _, rfl, by simp [MapKept.Stamped]⟩
def mapLen (w : World) (r : Nat) : Nat := match w.heap[r]? with
  | some (.map es _) => es.size
  | _ => 0
theorem SetAt.len (h : SetAt w r K) : mapLen w r = K.length := by
  obtain ⟨es, clock, h1, h2, _⟩ := h
  unfold mapLen
  rw [h1]
  have := congrArg List.length h2
  simpa [setL] using this
theorem SetAt.put (h : SetAt w r K) {P : Program} {kt t e : TypeId} (KT : KeyT P kt nmV) (ht : P.underlying t = some (.map kt e)) {s : Nm} (hs : s ∉ K) :
    ∃ w', (Instr.mapUpdate t (.map (some r)) (nmV s) (boolV true)).run P w = .ok () w' ∧ SetAt w' r (K ++ [s]) ∧ Chg (fun i => i = r) w w' := by
  obtain ⟨es, clock, h1, h2, h3⟩ := h
  have hf := KT.find boolV es.toList (setL K) s w h2
  have hl : lfind s (setL K) 0 = none := by
    rw [lfind_none]
    intro p hp e
    unfold setL at hp
    obtain ⟨t, ht, rfl⟩ := List.mem_map.1 hp
    exact hs (e ▸ ht)
  rw [hl] at hf
  refine ⟨Go.ChangeMaps.setBlock w r (.map (es.push { key := nmV s, val := boolV true, born := clock }) (clock + 1)), ?_, ⟨es.push { key := nmV s, val := boolV true, born := clock }, clock + 1, ?_, ?_, ?_⟩, setBlock_chg _ _ _⟩
  · simp [Instr.mapUpdate, run_underlying ht, MapKept.run_getObj_map h1, KT.check, hf, MapKept.run_setObj_map _ h1, Go.ChangeMaps.setBlock]
  · simp only [Go.ChangeMaps.setBlock]; rw [Array.getElem?_setIfInBounds_self_of_lt (heap_lt h1)]
  · rw [show setL (K ++ [s]) = setL K ++ [(s, true)] by unfold setL; simp, List.map_append, ← h2]
    simp
  · refine MapKept.stamped_push h3 (fun x hx e => ?_)
    have hx2 : (x.key, x.val) ∈ es.toList.map (fun e => (e.key, e.val)) := List.mem_map.2 ⟨x, hx, rfl⟩
    rw [h2] at hx2
    obtain ⟨p, hp, e2⟩ := List.mem_map.1 hx2
    unfold setL at hp
    obtain ⟨t, ht, rfl⟩ := List.mem_map.1 hp
    simp only [Prod.mk.injEq] at e2
    rw [e] at e2
    have : bs t = bs s := by simpa using e2.1
    exact hs (bs_inj this ▸ ht)
theorem wpList_put_set {P : Program} {ops : Array Oper} {rest : List Oper} {o : Oper} {a : Act} {Q : Exit → Act → World → Prop} (hg : o.guard = none) (m x v : Operand) (t : TypeId) (hop : o.op = Op.mapUpdate t m x v) {kt e : TypeId} (KT : KeyT P kt nmV) (ht : P.underlying t = some (.map kt e))
    (hown : SetAt w r K) (hm : a.eval m = .map (some r)) (s : Nm) (hs : s ∉ K) (hx : a.eval x = nmV s) (hv : a.eval v = .bool true)
    (hK : ∀ w', SetAt w' r (K ++ [s]) → Chg (fun i => i = r) w w' → wpList P ops Q rest (a.put o.dst undef) w') : wpList P ops Q (o :: rest) a w := by
  refine wpList_plain hg fun K' hK' => ?_
  obtain ⟨w', hrun, r1, r2⟩ := hown.put KT ht hs
  have hrun2 : (Instr.mapUpdate t (.map (some r)) (.string (bs s)) (.bool true)).run P w = .ok () w' := hrun
  unfold Oper.wp
  simp [execOp, hop, hm, hx, hv, hrun2, Result.andThen]
  exact hK' _ _ (hK w' r1 r2)

theorem SetAt.owns (h : SetAt w r K) (hl : ∀ s ∈ K, s.length ≤ maxLen) (hn : K.length ≤ maxLen) :
    ∃ D : DataW Unit, w.ownsMap Tryd.prog 9 (plainElem Tryd.prog 4) r K.length D ∧ (strKeys D).Perm K ∧ Maps.size D = K.length := by
  obtain ⟨es, clock, h1, h2, h3⟩ := h
  have hlen : es.size = K.length := by have := congrArg List.length h2; simpa [setL] using this
  have hx : ∀ x ∈ es.toList, ∃ s ∈ K, x.key = nmV s ∧ x.val = .bool true := by
    intro x hx
    have hx2 : (x.key, x.val) ∈ es.toList.map (fun e => (e.key, e.val)) := List.mem_map.2 ⟨x, hx, rfl⟩
    rw [h2] at hx2
    obtain ⟨p, hp, e2⟩ := List.mem_map.1 hx2
    unfold setL at hp
    obtain ⟨t, ht, rfl⟩ := List.mem_map.1 hp
    simp only [Prod.mk.injEq] at e2
    exact ⟨t, ht, e2.1.symm, e2.2.symm⟩
  have hrd : ∀ x ∈ es.toList, ∃ s ∈ K, x.key = nmV s ∧ Go.WideElems.rd Tryd.prog 9 (plainElem (H := Unit) Tryd.prog 4) x = some (.string s, .lit (.bool true)) := by
    intro x hxm
    obtain ⟨s, hs, e1, e2⟩ := hx x hxm
    refine ⟨s, hs, e1, ?_⟩
    obtain ⟨key, val, born⟩ := x
    simp only at e1 e2
    subst e1 e2
    have hk : keyOf Tryd.prog 9 (nmV s) = some (.string (bs s).data.toList) := Go.WideMaps.keyOf_string_mk Tryd.underlying9 (by rw [bs_size]; exact hl s hs)
    rw [bs_data] at hk
    exact Go.WideElems.rd_mk hk (plainElem_bool Tryd.underlying4 true)
  refine ⟨_, ⟨es, clock, h1, ⟨by rw [hlen]; exact hn, h3, fun x hx => by obtain ⟨s, _, _, h⟩ := hrd x hx; exact ⟨_, h⟩⟩, by omega, rfl⟩, ?_, ?_⟩
  · have hp := Go.WideShapes.sorted_perm (es.toList.map (Go.WideElems.rg Tryd.prog 9 (plainElem (H := Unit) Tryd.prog 4)))
    have hp2 := hp.map (fun p : Lit × DataW Unit => strOf p.1)
    refine List.Perm.trans hp2 ?_
    rw [List.map_map]
    have e1 : es.toList.map ((fun p : Lit × DataW Unit => strOf p.1) ∘ Go.WideElems.rg Tryd.prog 9 (plainElem (H := Unit) Tryd.prog 4)) = es.toList.map ((fun q : Value × Value => match q.1 with | .string b => b.data.toList | _ => []) ∘ fun e => (e.key, e.val)) := by
      refine List.map_congr_left (fun x hx => ?_)
      obtain ⟨s, _, e1, e2⟩ := hrd x hx
      simp only [Function.comp, Go.WideElems.rg_of e2, e1, bs_data]
      rfl
    rw [e1, ← List.map_map, h2, List.map_map]
    unfold setL
    rw [List.map_map]
    have e3 : K.map (((fun q : Value × Value => match q.1 with | .string b => b.data.toList | _ => []) ∘ fun p : Nm × Bool => (nmV p.1, boolV p.2)) ∘ fun s => (s, true)) = K.map id := List.map_congr_left (fun s _ => by simp [bs_data])
    rw [e3, List.map_id]
  · show ((es.toList.map (Go.WideElems.rg Tryd.prog 9 (plainElem (H := Unit) Tryd.prog 4))).foldr DataW.insert []).length = _
    rw [length_sorted]
    simpa using hlen
theorem sort_rise {K l : List Nm} (hK : K.Nodup) (hl : Rise l) (hm : ∀ s, s ∈ K ↔ s ∈ l) : K.mergeSort (fun x y => decide (x ≤ y)) = l := by
  have tr : ∀ a b c : Nm, leB a b = true → leB b c = true → leB a c = true := fun a b c h1 h2 => by simp only [leB, decide_eq_true_eq] at *; exact List.le_trans h1 h2
  have to : ∀ a b : Nm, (leB a b || leB b a) = true := fun a b => by simp only [leB, Bool.or_eq_true, decide_eq_true_eq]; exact List.le_total a b
  have hp := List.mergeSort_perm K leB
  have h1 := List.pairwise_mergeSort tr to K
  have h2 : (K.mergeSort leB).Nodup := hp.nodup_iff.2 hK
  refine rise_ext ?_ hl (fun x => by rw [hp.mem_iff]; exact hm x)
  unfold Rise
  refine (h1.and h2).imp ?_
  rintro a b ⟨h3, h4⟩
  simp only [leB, decide_eq_true_eq] at h3
  exact nm_lt_of_le_ne h3 h4
end
theorem keys_any (mb : Option Nat) (W : World) : Calls Tryd.prog 29 #[.map mb] W fun e w' => e = .returned (.func (.func 43) #[] #[.pointer (some ⟨W.heap.size, 0, none⟩)]) ∧ w' = W.alloc (.cells #[.map mb] 63) :=
  callsIn_wide.1 (AnyZ.keys_in Tryd.keys29 Fence.wide 5 trivial rfl mb W)
theorem sorts_any (m : Nat) : AnyZ.SortsIn Tryd.prog Tryd.sorted28_ren Fence.wide m :=
  ⟨fun blk off cap ss W hH hblk hsz => callsIn_wide.2 (AnyM.slices_Sort_string Tryd.sort42 blk off cap ss W hH hblk hsz),
   fun p cap W => callsIn_wide.2 (AnyM.slices_Sort_string_none Tryd.sort42 p cap W)⟩
set_option maxHeartbeats 1000000 in
/-- slices.Sorted at what maps.Keys hands back for a set of names: the names, sorted. -/
theorem sorted_any (r : Nat) (K l : List Nm) (w : World) (h : SetAt w r K) (hlen : ∀ s ∈ K, s.length ≤ maxLen) (hn : K.length ≤ 1000000) (hK : K.Nodup) (hl : Rise l) (hm : ∀ s, s ∈ K ↔ s ∈ l) :
    Calls Tryd.prog 28 #[.func (.func 43) #[] #[.pointer (some ⟨w.heap.size, 0, none⟩)]] (w.alloc (.cells #[.map (some r)] 63)) fun e w' => ∃ v, e = .returned v ∧
      w'.ownsRow 0 9 1 v l.length (l.map nmV) ∧ Chg (fun _ => False) w w' := by
  obtain ⟨D0, hown, hD, hsz⟩ := h.owns hlen (by unfold maxLen; omega)
  have hbl := hown.lt
  have hseq : SeqGives Fence.wide 2 Tryd.prog 43 #[.pointer (some ⟨w.heap.size, 0, none⟩)] encStr (fun ss => ss.Perm (strKeys D0)) (Maps.size D0) (w.alloc (.cells #[.map (some r)] 63)) :=
    AnyZ.keys_gives (ρ := Tryd.keys29_ren) { Tryd.keys29 with } Fence.wide _ trivial rfl (by omega) w.heap.size r K.length D0 _ (by simp) (by simp) (by
      obtain ⟨es, clock, hb, Ft, hs, hD⟩ := hown
      exact ⟨es, clock, (Below.heap_alloc _ _ r hbl).trans hb, Ft, hs, hD⟩)
  have hs := AnyZ.sorted_in Tryd.sorted28 Fence.wide 5 trivial trivial trivial trivial rfl (by omega) (sorts_any _) (enters_of Tryd.func42 (by kernel_rfl) rfl) 43 #[.pointer (some ⟨w.heap.size, 0, none⟩)] trivial (enters_of Tryd.func43 (by kernel_rfl) rfl) _ _ (by rw [hsz]; unfold maxLen; omega) (by rw [hsz]; omega) _ hseq
  refine (callsIn_wide.1 hs).mono ?_
  rintro e w' ⟨v, ss, rfl, hS, hrow, _, hb⟩
  have hperm : ss.Perm K := hS.trans hD
  have hsort := sort_rise (hperm.nodup_iff.2 hK) hl (fun s => by rw [hperm.mem_iff]; exact hm s)
  have hll : ss.length = l.length := by rw [← hsort]; exact (List.mergeSort_perm ss _).length_eq.symm
  refine ⟨v, rfl, ?_, ?_⟩
  · rw [hsort, hll] at hrow
    exact ownsRow_base_a hrow (Nat.zero_le _)
  · exact (((Chg.refl (fun _ => False) w).alloc _)).trans (Chg.of_below hb) (fun i hi h => by simp at h; omega)
end Go.Proofs.YtafdcmhckpdnbaaDoor
