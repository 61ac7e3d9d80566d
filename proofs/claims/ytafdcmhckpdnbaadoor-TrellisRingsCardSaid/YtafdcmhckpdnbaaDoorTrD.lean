/- A build by its names: the map of places, in plain words; the block that holds it. -/
import Derived.Test.YtafdcmhckpdnbaaDoorTrB
import Derived.Test.YtafdcmhckpdnbaaDoorTrC
import Derived.Test.YtafdcmhckpdnbaaDoorMapsB
namespace Go.Proofs.YtafdcmhckpdnbaaDoor
open Go.RowKit

abbrev nmV : Nm → Value := fun s => .string (bs s)
abbrev intV : Int → Value := fun n => .int .i64 n
abbrev boolV : Bool → Value := fun b => .bool b
theorem keyT_nm {P : Program} {kt : TypeId} (hk : P.underlying kt = some .string) : KeyT P kt nmV where
  find encv es l k w h := by
    have h0 := findNow_run .string nmV encv k (fun k' => by
      simp only [Instr.sameNow]
      rw [ba_beq]
      by_cases e : k = k'
      · subst e; simp
      · have : ¬ bs k = bs k' := fun h => e (bs_inj h)
        simp [e, this]) es l 0 h
    simp [Instr.findKey, run_underlying hk, h0]
  check b k w := by show (Instr.checkKey b (9999 + 1) kt _).run P w = _; unfold Instr.checkKey; simp [run_underlying hk]
  same k := by show Instr.sameBits (9999 + 1) _ _ = _; unfold Instr.sameBits; simp [ba_beq]
theorem keyNm : KeyT Tryd.prog 9 nmV := keyT_nm Tryd.underlying9

section
variable {κ ν : Type} {enc : κ → Value} {encv : ν → Value} {l : List (κ × ν)} {P : Program} {w : World} {r : Nat} [DecidableEq κ]
theorem getD_lval (k : κ) (l : List (κ × ν)) (z : Value) : ((lfind k l 0).map fun x => encv x.2).getD z = ((lval k l).map encv).getD z := by
  unfold lval
  cases lfind k l 0 <;> rfl
theorem isSome_lval (k : κ) (l : List (κ × ν)) : (lfind k l 0).isSome = (lval k l).isSome := by
  unfold lval
  cases lfind k l 0 <;> rfl
variable {ops : Array Oper} {rest : List Oper} {o : Oper} {a : Act} {Q : Exit → Act → World → Prop}
/-- A look-up, its answer given. -/
theorem wpList_lookup_v (hg : o.guard = none) (m x : Operand) (t : TypeId) (hop : o.op = Op.lookup t m x false) {kt e : TypeId} (K : KeyT P kt enc) (ht : P.underlying t = some (.map kt e))
    {z : Value} (hz : (zeroValue e).run P w = .ok z w) (hown : MapL w r enc encv l) (hm : a.eval m = .map (some r)) (k : κ) (hx : a.eval x = enc k) (v : Value) (hv : ((lval k l).map encv).getD z = v)
    (hK : wpList P ops Q rest (a.put o.dst v) w) : wpList P ops Q (o :: rest) a w :=
  wpList_lookup_l hg m x t false hop K ht hz hown hm k hx (by rw [getD_lval, hv]; exact hK)
/-- The same where a guard stands ahead that is met. -/
theorem wpList_plainW (hw : Region.wanted o (yielded ops a.tmps) = true)
    (h : ∀ K : Act → World → Prop, (∀ a w, wpList P ops Q rest a w → K a w) → o.wp P a w K Q) : wpList P ops Q (o :: rest) a w :=
  wpList_step fun K hK => by rw [hw]; exact h K hK
theorem wpList_lookup_w (hw : Region.wanted o (yielded ops a.tmps) = true) (m x : Operand) (t : TypeId) (hop : o.op = Op.lookup t m x false) {kt e : TypeId} (K : KeyT P kt enc) (ht : P.underlying t = some (.map kt e))
    {z : Value} (hz : (zeroValue e).run P w = .ok z w) (hown : MapL w r enc encv l) (hm : a.eval m = .map (some r)) (k : κ) (hx : a.eval x = enc k) (v : Value) (hv : ((lval k l).map encv).getD z = v)
    (hK : wpList P ops Q rest (a.put o.dst v) w) : wpList P ops Q (o :: rest) a w := by
  refine wpList_plainW hw fun K' hK' => ?_
  have hrun := hown.look K ht hz k false
  rw [getD_lval, hv] at hrun
  unfold Oper.wp
  simp only [execOp, hop, hm, hx, hrun, Sem.run_bind, Result.andThen, Oper.upon, Sem.run_pure]
  exact hK' _ _ hK
theorem wpList_lookup_ok (hg : o.guard = none) (m x : Operand) (t : TypeId) (hop : o.op = Op.lookup t m x true) {kt e : TypeId} (K : KeyT P kt enc) (ht : P.underlying t = some (.map kt e))
    {z : Value} (hz : (zeroValue e).run P w = .ok z w) (hown : MapL w r enc encv l) (hm : a.eval m = .map (some r)) (k : κ) (hx : a.eval x = enc k) (v : Value) (hv : ((lval k l).map encv).getD z = v) (b : Bool) (hb : (lval k l).isSome = b)
    (hK : wpList P ops Q rest (a.put o.dst (.tuple #[v, .bool b])) w) : wpList P ops Q (o :: rest) a w :=
  wpList_lookup_l hg m x t true hop K ht hz hown hm k hx (by rw [getD_lval, isSome_lval, hv, hb]; exact hK)
theorem MapL.run_lookup (hown : MapL w r enc encv l) {t kt e : TypeId} (K : KeyT P kt enc) (ht : P.underlying t = some (.map kt e)) {z : Value} (hz : ∀ w, (zeroValue e).run P w = .ok z w) (k : κ) (v : Value) (hv : ((lval k l).map encv).getD z = v) (n : Nat) :
    (Instr.lookup t (.map (some r)) (enc k) false).run P (w.drewN n) = .ok v (w.drewN n) := by
  have h : MapL (w.drewN n) r enc encv l := hown
  rw [h.look K ht (hz _) k false, getD_lval, hv]
  rfl

def atL (ps : List (κ × ν)) : List (κ × ν) := ps.foldl (fun l p => lput p.1 p.2 l) []
theorem atL_snoc (ps : List (κ × ν)) (p : κ × ν) : atL (ps ++ [p]) = lput p.1 p.2 (atL ps) := by
  unfold atL; rw [List.foldl_append]; rfl
theorem atL_take (ps : List (κ × ν)) (n : Nat) (h : n < ps.length) : atL (ps.take (n + 1)) = lput ps[n].1 ps[n].2 (atL (ps.take n)) := by
  rw [List.take_succ_eq_append_getElem h, atL_snoc]
theorem lput_new {k : κ} {x : ν} {l : List (κ × ν)} (h : k ∉ l.map Prod.fst) : lput k x l = l ++ [(k, x)] := by
  unfold lput
  have : lfind k l 0 = none := by
    rw [lfind_none]
    intro p hp e
    exact h (List.mem_map.2 ⟨p, hp, e⟩)
  rw [this]
theorem lput_old {k : κ} {x : ν} {l : List (κ × ν)} (h : k ∈ l.map Prod.fst) : (lput k x l).length = l.length := by
  unfold lput
  cases hf : lfind k l 0 with
  | none =>
    obtain ⟨p, hp, e⟩ := List.mem_map.1 h
    exact absurd e (lfind_none.1 hf p hp)
  | some q => simp
theorem keys_foldl : ∀ (ps : List (κ × ν)) (l : List (κ × ν)) (k : κ), k ∈ (ps.foldl (fun l p => lput p.1 p.2 l) l).map Prod.fst ↔ k ∈ l.map Prod.fst ∨ k ∈ ps.map Prod.fst
  | [], l, k => by simp
  | p :: ps, l, k => by
    rw [List.foldl_cons, keys_foldl ps, keys_put]
    simp only [List.map_cons, List.mem_cons]
    constructor
    · rintro ((h | h) | h)
      · exact .inr (.inl h)
      · exact .inl h
      · exact .inr (.inr h)
    · rintro (h | h | h)
      · exact .inl (.inr h)
      · exact .inl (.inl h)
      · exact .inr h
theorem foldl_length : ∀ (ps : List (κ × ν)) (l : List (κ × ν)), (l.map Prod.fst).Nodup → (ps.foldl (fun l p => lput p.1 p.2 l) l).length ≤ l.length + ps.length ∧
    ((ps.foldl (fun l p => lput p.1 p.2 l) l).length = l.length + ps.length → ((l ++ ps).map Prod.fst).Nodup) ∧ (((l ++ ps).map Prod.fst).Nodup → ps.foldl (fun l p => lput p.1 p.2 l) l = l ++ ps)
  | [], l, h => by simp [h]
  | p :: ps, l, h => by
    rw [List.foldl_cons]
    have ih := foldl_length ps (lput p.1 p.2 l) (nodup_put _ _ l h)
    by_cases hk : p.1 ∈ l.map Prod.fst
    · have hl := lput_old (x := p.2) hk
      refine ⟨by have := ih.1; rw [hl] at this; simp; omega, fun e => ?_, fun e => ?_⟩
      · have := ih.1; rw [hl] at this; simp at e; omega
      · rw [List.map_append, List.nodup_append] at e
        exact absurd rfl (e.2.2 _ hk p.1 (by simp))
    · have hl : (lput p.1 p.2 l) = l ++ [p] := lput_new hk
      rw [hl] at ih ⊢
      rw [List.append_assoc] at ih
      refine ⟨by have := ih.1; simp at this ⊢; omega, fun e => ih.2.1 (by simp at e ⊢; omega), fun e => ih.2.2 e⟩
theorem atL_length (ps : List (κ × ν)) : (atL ps).length ≤ ps.length ∧ ((atL ps).length = ps.length ↔ (ps.map Prod.fst).Nodup) ∧ ((ps.map Prod.fst).Nodup → atL ps = ps) := by
  have h := foldl_length ps [] (by simp)
  simp only [List.length_nil, Nat.zero_add, List.nil_append] at h
  exact ⟨h.1, ⟨h.2.1, fun e => by unfold atL; rw [h.2.2 e]⟩, h.2.2⟩
theorem lval_mem {k : κ} {x : ν} : ∀ {l : List (κ × ν)}, (l.map Prod.fst).Nodup → (k, x) ∈ l → lval k l = some x
  | p :: l, hn, h => by
    rw [List.map_cons, List.nodup_cons] at hn
    rw [lval_cons]
    rcases List.mem_cons.1 h with rfl | h
    · simp
    · rw [if_neg]
      · exact lval_mem hn.2 h
      · intro e
        exact hn.1 (List.mem_map.2 ⟨_, h, by rw [← e]⟩)
end

/-- The places by names: -1 of sources. -/
def atPs (g : GrR) : List (Nm × Int) := g.srcs.map (fun s => (s, (-1 : Int))) ++ (List.range g.acts.length).map (fun i => (nameAt g i, (i : Int)))
theorem atPs_keys (g : GrR) : (atPs g).map Prod.fst = namesL g := by
  unfold atPs namesL
  rw [List.map_append, List.map_map, List.map_map]
  congr 1
  · calc g.srcs.map (Prod.fst ∘ fun s => (s, (-1 : Int))) = g.srcs.map id := List.map_congr_left (fun _ _ => rfl)
      _ = g.srcs := List.map_id _
  · apply List.ext_getElem
    · simp
    · intro i h1 h2
      simp only [List.length_map, List.length_range] at h1
      simp only [List.getElem_map, List.getElem_range, Function.comp]
      exact nameAt_lt g i h1
theorem atPs_length (g : GrR) : (atPs g).length = g.srcs.length + g.acts.length := by unfold atPs; simp
theorem atPs_src (g : GrR) (k : Nat) (h : k < g.srcs.length) : (atPs g)[k]'(by rw [atPs_length]; omega) = (g.srcs[k], -1) := by
  unfold atPs
  rw [List.getElem_append_left (by simpa using h)]
  simp
theorem atPs_act (g : GrR) (k : Nat) (h : k < g.acts.length) : (atPs g)[g.srcs.length + k]'(by rw [atPs_length]; omega) = (nameAt g k, (k : Int)) := by
  unfold atPs
  rw [List.getElem_append_right (by simp)]
  simp
/-- What the map of places holds. -/
def atV (g : GrR) (s : Nm) : Option Int := match placeOf g s with
  | some i => some (i : Int)
  | none => if s ∈ g.srcs then some (-1) else none
theorem Wov.at {g : GrR} (h : Wov g) (s : Nm) : lval s (atL (atPs g)) = atV g s := by
  have hn : ((atPs g).map Prod.fst).Nodup := by rw [atPs_keys]; exact h.nd
  rw [(atL_length (atPs g)).2.2 hn]
  unfold atV
  cases hp : placeOf g s with
  | some i =>
    obtain ⟨hi, e⟩ := placeOf_some hp
    refine lval_mem hn ?_
    have := List.getElem_mem (l := atPs g) (n := g.srcs.length + i) (by rw [atPs_length]; omega)
    rwa [atPs_act g i hi, e] at this
  | none =>
    by_cases hs : s ∈ g.srcs
    · simp only [hs, if_true]
      refine lval_mem hn ?_
      obtain ⟨k, hk, rfl⟩ := List.mem_iff_getElem.1 hs
      have := List.getElem_mem (l := atPs g) (n := k) (by rw [atPs_length]; omega)
      rwa [atPs_src g k hk] at this
    · simp only [hs, if_false]
      rw [lval_none]
      intro p hp2 e
      have : s ∈ namesL g := by rw [← atPs_keys]; exact List.mem_map.2 ⟨p, hp2, e⟩
      rcases mem_names.1 this with h1 | ⟨i, hi, e2⟩
      · exact hs h1
      · exact placeOf_none hp i hi e2
theorem atV_isSome (g : GrR) (s : Nm) : (atV g s).isSome = (namesL g).contains s := by
  unfold atV
  cases hp : placeOf g s with
  | some i =>
    obtain ⟨hi, e⟩ := placeOf_some hp
    have : s ∈ namesL g := mem_names.2 (.inr ⟨i, hi, e⟩)
    simp [this]
  | none =>
    by_cases hs : s ∈ g.srcs
    · have : s ∈ namesL g := mem_names.2 (.inl hs)
      simp [hs, this]
    · have : s ∉ namesL g := by
        intro h
        rcases mem_names.1 h with h1 | ⟨i, hi, e2⟩
        · exact hs h1
        · exact placeOf_none hp i hi e2
      simp [hs, this]
theorem dup_length (g : GrR) : (atL (atPs g)).length = g.srcs.length + g.acts.length ↔ dupB g = false := by
  have h := atL_length (atPs g)
  rw [← atPs_length, h.2.1, atPs_keys]
  unfold dupB
  simp

theorem at_isSome (g : GrR) (s : Nm) : (lval s (atL (atPs g))).isSome = (namesL g).contains s := by
  have h := keys_foldl (atPs g) [] s
  rw [atPs_keys] at h
  simp only [List.map_nil, List.not_mem_nil, false_or] at h
  cases hl : lval s (atL (atPs g)) with
  | none =>
    rw [lval_none] at hl
    have : s ∉ namesL g := fun hs => by
      obtain ⟨p, hp, e⟩ := List.mem_map.1 (h.2 hs)
      exact hl p hp e
    simp [this]
  | some x =>
    have : s ∈ namesL g := by
      apply h.1
      by_cases hc : s ∈ (List.foldl (fun l p => lput p.1 p.2 l) [] (atPs g)).map Prod.fst
      · exact hc
      · exfalso
        have h2 : lval s (atL (atPs g)) = none := lval_none.2 (fun p hp e => hc (List.mem_map.2 ⟨p, hp, e⟩))
        rw [hl] at h2; cases h2
    simp [this]

/-- Block b holds the build g by its names. -/
structure WebAt (w : World) (b : Nat) (g : GrR) (sv av : Value) (iv : Nat → Value) (r : Nat) (l : List (Nm × Int)) : Prop where
  blk : w.heap[b]? = some (.cells #[sv, av, .map (some r)] 58 (0, 0))
  srcs : NamesAt w sv g.srcs
  acts : ActsAt w av g.acts iv
  map : MapL w r nmV intV l
  look : ∀ s, lval s l = atV g s
theorem WebAt.chg {F : Nat → Prop} {w w' : World} {b : Nat} {g : GrR} {sv av : Value} {iv : Nat → Value} {r : Nat} {l : List (Nm × Int)} (h : WebAt w b g sv av iv r l) (hc : Chg F w w') (hF : ∀ k, k < w.heap.size → ¬ F k) : WebAt w' b g sv av iv r l :=
  ⟨hc.obj h.blk (hF _ (heap_lt h.blk)), h.srcs.chg hc hF, h.acts.chg hc hF, h.map.chg hc (hF _ h.map.lt), h.look⟩
def IsWeb (w : World) (b : Nat) (g : GrR) : Prop := ∃ sv av iv r l, WebAt w b g sv av iv r l
theorem IsWeb.chg {F : Nat → Prop} {w w' : World} {b : Nat} {g : GrR} (h : IsWeb w b g) (hc : Chg F w w') (hF : ∀ k, k < w.heap.size → ¬ F k) : IsWeb w' b g := by
  obtain ⟨sv, av, iv, r, l, h⟩ := h
  exact ⟨sv, av, iv, r, l, h.chg hc hF⟩
end Go.Proofs.YtafdcmhckpdnbaaDoor
