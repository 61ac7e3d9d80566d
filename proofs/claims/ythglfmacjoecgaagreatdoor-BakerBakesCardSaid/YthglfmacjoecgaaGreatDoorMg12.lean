/- Texts of the proof, one behind the other: What is read of a map behind a store and a delete; A build by its names: the map of places, in plain words; the block that holds it; What a build comes to, in plain words, whatever makes an action's result of its code and its inputs' results. No program in sight; trellis.woven walked; trellis: the closures of (*web).order walked; (*web).order, trellis.checked, Check, Order walked; trellis.Check, Order walked; A slice of the call's own that is shortened from the front and appended to: elements of one cell; Sets of names in maps; slices.Sorted(maps.Keys(m)) at such a set; what is sorted so; slices.Clone at names, (*web).needs walked. -/
import Derived.Test.YthglfmacjoecgaaGreatDoorMg11
import Derived.Deep.QuietTactic
import Derived.StillTailTactics
import Derived.BigQuiet
import Derived.Laws.EntriesVeiled
import Derived.Maps.RangeWalk
import Derived.Deep.RegionHeld3
import Derived.Test.YthglfmacjoecgaaGreatDoorMg01
import Derived.Test.YthglfmacjoecgaaGreatDoorIter
import Derived.Lib.BufferMore
namespace Go.Proofs.YthglfmacjoecgaaGreatDoor
open Go.RowKit

section
variable {κ ν : Type} [DecidableEq κ]
def lval (k : κ) (l : List (κ × ν)) : Option ν := (lfind k l 0).map (·.2)
theorem lfind_shift (k : κ) : ∀ (l : List (κ × ν)) (i : Nat), lfind k l i = (lfind k l 0).map fun x => (x.1 + i, x.2)
  | [], _ => rfl
  | p :: l, i => by
    unfold lfind
    by_cases h : k = p.1
    · simp [h]
    · rw [if_neg h, if_neg h, lfind_shift k l (i + 1), lfind_shift k l 1]
      cases lfind k l 0 <;> simp; omega
theorem lval_nil (k : κ) : lval k ([] : List (κ × ν)) = none := rfl
theorem lval_cons (k : κ) (p : κ × ν) (l : List (κ × ν)) : lval k (p :: l) = if k = p.1 then some p.2 else lval k l := by
  unfold lval
  rw [lfind]
  by_cases h : k = p.1
  · simp [h]
  · rw [if_neg h, if_neg h, lfind_shift k l 1]
    cases lfind k l 0 <;> rfl
theorem lval_none {k : κ} {l : List (κ × ν)} : lval k l = none ↔ ∀ p ∈ l, p.1 ≠ k := by
  unfold lval
  rw [Option.map_eq_none_iff]
  exact lfind_none
theorem lput_cons (k : κ) (x : ν) (p : κ × ν) (l : List (κ × ν)) : lput k x (p :: l) = if k = p.1 then (k, x) :: l else p :: lput k x l := by
  unfold lput
  rw [lfind]
  by_cases h : k = p.1
  · simp [h]
  · rw [if_neg h, if_neg h, lfind_shift k l 1]
    cases lfind k l 0 <;> rfl
theorem ldel_cons (k : κ) (p : κ × ν) (l : List (κ × ν)) : ldel k (p :: l) = if k = p.1 then l else p :: ldel k l := by
  unfold ldel
  rw [lfind]
  by_cases h : k = p.1
  · simp [h]
  · rw [if_neg h, if_neg h, lfind_shift k l 1]
    cases lfind k l 0 <;> rfl
theorem lval_put (k k' : κ) (x : ν) : ∀ (l : List (κ × ν)), lval k (lput k' x l) = if k = k' then some x else lval k l
  | [] => by
    have : lput k' x ([] : List (κ × ν)) = [(k', x)] := rfl
    rw [this, lval_cons]
  | p :: l => by
    rw [lput_cons]
    by_cases h : k' = p.1
    · rw [if_pos h, lval_cons, lval_cons]
      by_cases h2 : k = k'
      · rw [if_pos h2, if_pos h2]
      · rw [if_neg h2, if_neg h2, if_neg (by rw [← h]; exact h2)]
    · rw [if_neg h, lval_cons, lval_cons, lval_put k k' x l]
      by_cases h2 : k = k'
      · subst h2; simp [h]
      · simp [h2]
theorem keys_put (k' : κ) (x : ν) : ∀ (l : List (κ × ν)) (k : κ), k ∈ (lput k' x l).map Prod.fst ↔ k = k' ∨ k ∈ l.map Prod.fst
  | [], k => by
    have : lput k' x ([] : List (κ × ν)) = [(k', x)] := rfl
    rw [this]; simp
  | p :: l, k => by
    rw [lput_cons]
    by_cases h : k' = p.1
    · rw [if_pos h]
      simp only [List.map_cons, List.mem_cons]
      rw [← h]
      constructor
      · rintro (h | h)
        · exact .inl h
        · exact .inr (.inr h)
      · rintro (h | h | h)
        · exact .inl h
        · exact .inl h
        · exact .inr h
    · rw [if_neg h]
      simp only [List.map_cons, List.mem_cons]
      rw [keys_put k' x l k]
      constructor
      · rintro (h | h | h)
        · exact .inr (.inl h)
        · exact .inl h
        · exact .inr (.inr h)
      · rintro (h | h | h)
        · exact .inr (.inl h)
        · exact .inl h
        · exact .inr (.inr h)
theorem nodup_put (k' : κ) (x : ν) : ∀ (l : List (κ × ν)), (l.map Prod.fst).Nodup → ((lput k' x l).map Prod.fst).Nodup
  | [], _ => by
    have : lput k' x ([] : List (κ × ν)) = [(k', x)] := rfl
    rw [this]; simp
  | p :: l, h => by
    rw [lput_cons]
    simp only [List.map_cons, List.nodup_cons] at h
    by_cases hk : k' = p.1
    · rw [if_pos hk]
      simp only [List.map_cons, List.nodup_cons]
      rw [hk]
      exact h
    · rw [if_neg hk]
      simp only [List.map_cons, List.nodup_cons]
      refine ⟨fun hm => ?_, nodup_put k' x l h.2⟩
      rcases (keys_put k' x l p.1).1 hm with h1 | h1
      · exact hk h1.symm
      · exact h.1 h1
theorem ldel_sub (k' : κ) : ∀ (l : List (κ × ν)) (k : κ), k ∈ (ldel k' l).map Prod.fst → k ∈ l.map Prod.fst
  | [], _, h => h
  | p :: l, k, h => by
    rw [ldel_cons] at h
    by_cases hk : k' = p.1
    · rw [if_pos hk] at h
      exact List.mem_cons_of_mem _ h
    · rw [if_neg hk] at h
      simp only [List.map_cons, List.mem_cons] at h ⊢
      exact h.imp id (ldel_sub k' l k)
theorem nodup_del (k' : κ) : ∀ (l : List (κ × ν)), (l.map Prod.fst).Nodup → ((ldel k' l).map Prod.fst).Nodup
  | [], h => h
  | p :: l, h => by
    simp only [List.map_cons, List.nodup_cons] at h
    rw [ldel_cons]
    by_cases hk : k' = p.1
    · rw [if_pos hk]; exact h.2
    · rw [if_neg hk]
      simp only [List.map_cons, List.nodup_cons]
      exact ⟨fun hm => h.1 (ldel_sub k' l p.1 hm), nodup_del k' l h.2⟩
theorem lval_del (k k' : κ) : ∀ (l : List (κ × ν)), (l.map Prod.fst).Nodup → lval k (ldel k' l) = if k = k' then none else lval k l
  | [], _ => by
    have : ldel k' ([] : List (κ × ν)) = [] := rfl
    rw [this, lval_nil]; split <;> rfl
  | p :: l, h => by
    simp only [List.map_cons, List.nodup_cons] at h
    rw [ldel_cons]
    by_cases hk : k' = p.1
    · rw [if_pos hk, lval_cons]
      by_cases h2 : k = k'
      · rw [if_pos h2, lval_none]
        intro q hq e
        exact h.1 (List.mem_map.2 ⟨q, hq, by rw [e, h2, hk]⟩)
      · rw [if_neg h2, if_neg (by rw [← hk]; exact h2)]
    · rw [if_neg hk, lval_cons, lval_cons, lval_del k k' l h.2]
      by_cases h2 : k = k'
      · subst h2; simp [hk]
      · simp [h2]
end

/-- A callee that leaves the world alone, inside a region that only reads. -/
theorem quietR {P : Program} {f : FuncId} {args : Array Value} {w : World} {n : Nat} {v : Value}
    (h : Calls P f args (w.drewN n) (Rets v (fun w' => w.drewN n = w'))) : Calls P f args (w.drewN n) fun e w'' => e = .returned v ∧ ∃ m, w'' = w.drewN m :=
  h.mono fun _ _ ⟨he, hm⟩ => ⟨he, n, hm.symm⟩
end Go.Proofs.YthglfmacjoecgaaGreatDoor
namespace Go.Proofs.YthglfmacjoecgaaGreatDoor
open Go.RowKit

abbrev nmV : Nm → Value := fun s => .string (bs s)
abbrev intV : Int → Value := fun n => .int .i64 n
abbrev boolV : Bool → Value := fun b => .bool b
theorem keyT_nm {P : Program} {kt : TypeId} (hk : P.underlying kt = some .string) : KeyT P kt nmV where
  find encv es l k w h := by
    have h0 := findNow_run .string nmV encv k (fun k' => by
      simp only [Instr.sameNow]
      rw [ba_beq]
      by_cases e : k = k'
      · subst e; simp
      · have : ¬ bs k = bs k' := fun h => e (bs_inj h)
        simp [e, this]) es l 0 h
    simp [Instr.findKey, run_underlying hk, h0]
  check b k w := by show (Instr.checkKey b (9999 + 1) kt _).run P w = _; unfold Instr.checkKey; simp [run_underlying hk]
  same k := by show Instr.sameBits (9999 + 1) _ _ = _; unfold Instr.sameBits; simp [ba_beq]
theorem keyNm : KeyT Tryz.prog 9 nmV := keyT_nm Tryz.underlying9

section
variable {κ ν : Type} {enc : κ → Value} {encv : ν → Value} {l : List (κ × ν)} {P : Program} {w : World} {r : Nat} [DecidableEq κ]
theorem getD_lval (k : κ) (l : List (κ × ν)) (z : Value) : ((lfind k l 0).map fun x => encv x.2).getD z = ((lval k l).map encv).getD z := by
  unfold lval
  cases lfind k l 0 <;> rfl
theorem isSome_lval (k : κ) (l : List (κ × ν)) : (lfind k l 0).isSome = (lval k l).isSome := by
  unfold lval
  cases lfind k l 0 <;> rfl
variable {ops : Array Oper} {rest : List Oper} {o : Oper} {a : Act} {Q : Exit → Act → World → Prop}
/-- A look-up, its answer given. -/
theorem wpList_lookup_v (hg : o.guard = none) (m x : Operand) (t : TypeId) (hop : o.op = Op.lookup t m x false) {kt e : TypeId} (K : KeyT P kt enc) (ht : P.underlying t = some (.map kt e))
    {z : Value} (hz : (zeroValue e).run P w = .ok z w) (hown : MapL w r enc encv l) (hm : a.eval m = .map (some r)) (k : κ) (hx : a.eval x = enc k) (v : Value) (hv : ((lval k l).map encv).getD z = v)
    (hK : wpList P ops Q rest (a.put o.dst v) w) : wpList P ops Q (o :: rest) a w :=
  wpList_lookup_l hg m x t false hop K ht hz hown hm k hx (by rw [getD_lval, hv]; exact hK)
/-- The same where a guard stands ahead that is met. -/
theorem wpList_plainW (hw : Region.wanted o (yielded ops a.tmps) = true)
    (h : ∀ K : Act → World → Prop, (∀ a w, wpList P ops Q rest a w → K a w) → o.wp P a w K Q) : wpList P ops Q (o :: rest) a w :=
  wpList_step fun K hK => by rw [hw]; exact h K hK
theorem wpList_lookup_w (hw : Region.wanted o (yielded ops a.tmps) = true) (m x : Operand) (t : TypeId) (hop : o.op = Op.lookup t m x false) {kt e : TypeId} (K : KeyT P kt enc) (ht : P.underlying t = some (.map kt e))
    {z : Value} (hz : (zeroValue e).run P w = .ok z w) (hown : MapL w r enc encv l) (hm : a.eval m = .map (some r)) (k : κ) (hx : a.eval x = enc k) (v : Value) (hv : ((lval k l).map encv).getD z = v)
    (hK : wpList P ops Q rest (a.put o.dst v) w) : wpList P ops Q (o :: rest) a w := by
  refine wpList_plainW hw fun K' hK' => ?_
  have hrun := hown.look K ht hz k false
  rw [getD_lval, hv] at hrun
  unfold Oper.wp
  simp only [execOp, hop, hm, hx, hrun, Sem.run_bind, Result.andThen, Oper.upon, Sem.run_pure]
  exact hK' _ _ hK
theorem wpList_lookup_ok (hg : o.guard = none) (m x : Operand) (t : TypeId) (hop : o.op = Op.lookup t m x true) {kt e : TypeId} (K : KeyT P kt enc) (ht : P.underlying t = some (.map kt e))
    {z : Value} (hz : (zeroValue e).run P w = .ok z w) (hown : MapL w r enc encv l) (hm : a.eval m = .map (some r)) (k : κ) (hx : a.eval x = enc k) (v : Value) (hv : ((lval k l).map encv).getD z = v) (b : Bool) (hb : (lval k l).isSome = b)
    (hK : wpList P ops Q rest (a.put o.dst (.tuple #[v, .bool b])) w) : wpList P ops Q (o :: rest) a w :=
  wpList_lookup_l hg m x t true hop K ht hz hown hm k hx (by rw [getD_lval, isSome_lval, hv, hb]; exact hK)
theorem MapL.run_lookup (hown : MapL w r enc encv l) {t kt e : TypeId} (K : KeyT P kt enc) (ht : P.underlying t = some (.map kt e)) {z : Value} (hz : ∀ w, (zeroValue e).run P w = .ok z w) (k : κ) (v : Value) (hv : ((lval k l).map encv).getD z = v) (n : Nat) :
    (Instr.lookup t (.map (some r)) (enc k) false).run P (w.drewN n) = .ok v (w.drewN n) := by
  have h : MapL (w.drewN n) r enc encv l := hown
  rw [h.look K ht (hz _) k false, getD_lval, hv]
  rfl

def atL (ps : List (κ × ν)) : List (κ × ν) := ps.foldl (fun l p => lput p.1 p.2 l) []
theorem atL_snoc (ps : List (κ × ν)) (p : κ × ν) : atL (ps ++ [p]) = lput p.1 p.2 (atL ps) := by
  unfold atL; rw [List.foldl_append]; rfl
theorem atL_take (ps : List (κ × ν)) (n : Nat) (h : n < ps.length) : atL (ps.take (n + 1)) = lput ps[n].1 ps[n].2 (atL (ps.take n)) := by
  rw [List.take_succ_eq_append_getElem h, atL_snoc]
theorem lput_new {k : κ} {x : ν} {l : List (κ × ν)} (h : k ∉ l.map Prod.fst) : lput k x l = l ++ [(k, x)] := by
  unfold lput
  have : lfind k l 0 = none := by
    rw [lfind_none]
    intro p hp e
    exact h (List.mem_map.2 ⟨p, hp, e⟩)
  rw [this]
theorem lput_old {k : κ} {x : ν} {l : List (κ × ν)} (h : k ∈ l.map Prod.fst) : (lput k x l).length = l.length := by
  unfold lput
  cases hf : lfind k l 0 with
  | none =>
    obtain ⟨p, hp, e⟩ := List.mem_map.1 h
    exact absurd e (lfind_none.1 hf p hp)
  | some q => simp
theorem keys_foldl : ∀ (ps : List (κ × ν)) (l : List (κ × ν)) (k : κ), k ∈ (ps.foldl (fun l p => lput p.1 p.2 l) l).map Prod.fst ↔ k ∈ l.map Prod.fst ∨ k ∈ ps.map Prod.fst
  | [], l, k => by simp
  | p :: ps, l, k => by
    rw [List.foldl_cons, keys_foldl ps, keys_put]
    simp only [List.map_cons, List.mem_cons]
    constructor
    · rintro ((h | h) | h)
      · exact .inr (.inl h)
      · exact .inl h
      · exact .inr (.inr h)
    · rintro (h | h | h)
      · exact .inl (.inr h)
      · exact .inl (.inl h)
      · exact .inr h
theorem foldl_length : ∀ (ps : List (κ × ν)) (l : List (κ × ν)), (l.map Prod.fst).Nodup → (ps.foldl (fun l p => lput p.1 p.2 l) l).length ≤ l.length + ps.length ∧
    ((ps.foldl (fun l p => lput p.1 p.2 l) l).length = l.length + ps.length → ((l ++ ps).map Prod.fst).Nodup) ∧ (((l ++ ps).map Prod.fst).Nodup → ps.foldl (fun l p => lput p.1 p.2 l) l = l ++ ps)
  | [], l, h => by simp [h]
  | p :: ps, l, h => by
    rw [List.foldl_cons]
    have ih := foldl_length ps (lput p.1 p.2 l) (nodup_put _ _ l h)
    by_cases hk : p.1 ∈ l.map Prod.fst
    · have hl := lput_old (x := p.2) hk
      refine ⟨by have := ih.1; rw [hl] at this; simp; omega, fun e => ?_, fun e => ?_⟩
      · have := ih.1; rw [hl] at this; simp at e; omega
      · rw [List.map_append, List.nodup_append] at e
        exact absurd rfl (e.2.2 _ hk p.1 (by simp))
    · have hl : (lput p.1 p.2 l) = l ++ [p] := lput_new hk
      rw [hl] at ih ⊢
      rw [List.append_assoc] at ih
      refine ⟨by have := ih.1; simp at this ⊢; omega, fun e => ih.2.1 (by simp at e ⊢; omega), fun e => ih.2.2 e⟩
theorem atL_length (ps : List (κ × ν)) : (atL ps).length ≤ ps.length ∧ ((atL ps).length = ps.length ↔ (ps.map Prod.fst).Nodup) ∧ ((ps.map Prod.fst).Nodup → atL ps = ps) := by
  have h := foldl_length ps [] (by simp)
  simp only [List.length_nil, Nat.zero_add, List.nil_append] at h
  exact ⟨h.1, ⟨h.2.1, fun e => by unfold atL; rw [h.2.2 e]⟩, h.2.2⟩
theorem lval_mem {k : κ} {x : ν} : ∀ {l : List (κ × ν)}, (l.map Prod.fst).Nodup → (k, x) ∈ l → lval k l = some x
  | p :: l, hn, h => by
    rw [List.map_cons, List.nodup_cons] at hn
    rw [lval_cons]
    rcases List.mem_cons.1 h with rfl | h
    · simp
    · rw [if_neg]
      · exact lval_mem hn.2 h
      · intro e
        exact hn.1 (List.mem_map.2 ⟨_, h, by rw [← e]⟩)
end

/-- The places by names: -1 of sources. -/
def atPs (g : GrR) : List (Nm × Int) := g.srcs.map (fun s => (s, (-1 : Int))) ++ (List.range g.acts.length).map (fun i => (nameAt g i, (i : Int)))
theorem atPs_keys (g : GrR) : (atPs g).map Prod.fst = namesL g := by
  unfold atPs namesL
  rw [List.map_append, List.map_map, List.map_map]
  congr 1
  · calc g.srcs.map (Prod.fst ∘ fun s => (s, (-1 : Int))) = g.srcs.map id := List.map_congr_left (fun _ _ => rfl)
      _ = g.srcs := List.map_id _
  · apply List.ext_getElem
    · simp
    · intro i h1 h2
      simp only [List.length_map, List.length_range] at h1
      simp only [List.getElem_map, List.getElem_range, Function.comp]
      exact nameAt_lt g i h1
theorem atPs_length (g : GrR) : (atPs g).length = g.srcs.length + g.acts.length := by unfold atPs; simp
theorem atPs_src (g : GrR) (k : Nat) (h : k < g.srcs.length) : (atPs g)[k]'(by rw [atPs_length]; omega) = (g.srcs[k], -1) := by
  unfold atPs
  rw [List.getElem_append_left (by simpa using h)]
  simp
theorem atPs_act (g : GrR) (k : Nat) (h : k < g.acts.length) : (atPs g)[g.srcs.length + k]'(by rw [atPs_length]; omega) = (nameAt g k, (k : Int)) := by
  unfold atPs
  rw [List.getElem_append_right (by simp)]
  simp
/-- What the map of places holds. -/
def atV (g : GrR) (s : Nm) : Option Int := match placeOf g s with
  | some i => some (i : Int)
  | none => if s ∈ g.srcs then some (-1) else none
theorem Wov.at {g : GrR} (h : Wov g) (s : Nm) : lval s (atL (atPs g)) = atV g s := by
  have hn : ((atPs g).map Prod.fst).Nodup := by rw [atPs_keys]; exact h.nd
  rw [(atL_length (atPs g)).2.2 hn]
  unfold atV
  cases hp : placeOf g s with
  | some i =>
    obtain ⟨hi, e⟩ := placeOf_some hp
    refine lval_mem hn ?_
    have := List.getElem_mem (l := atPs g) (n := g.srcs.length + i) (by rw [atPs_length]; omega)
    rwa [atPs_act g i hi, e] at this
  | none =>
    by_cases hs : s ∈ g.srcs
    · simp only [hs, if_true]
      refine lval_mem hn ?_
      obtain ⟨k, hk, rfl⟩ := List.mem_iff_getElem.1 hs
      have := List.getElem_mem (l := atPs g) (n := k) (by rw [atPs_length]; omega)
      rwa [atPs_src g k hk] at this
    · simp only [hs, if_false]
      rw [lval_none]
      intro p hp2 e
      have : s ∈ namesL g := by rw [← atPs_keys]; exact List.mem_map.2 ⟨p, hp2, e⟩
      rcases mem_names.1 this with h1 | ⟨i, hi, e2⟩
      · exact hs h1
      · exact placeOf_none hp i hi e2
theorem atV_isSome (g : GrR) (s : Nm) : (atV g s).isSome = (namesL g).contains s := by
  unfold atV
  cases hp : placeOf g s with
  | some i =>
    obtain ⟨hi, e⟩ := placeOf_some hp
    have : s ∈ namesL g := mem_names.2 (.inr ⟨i, hi, e⟩)
    simp [this]
  | none =>
    by_cases hs : s ∈ g.srcs
    · have : s ∈ namesL g := mem_names.2 (.inl hs)
      simp [hs, this]
    · have : s ∉ namesL g := by
        intro h
        rcases mem_names.1 h with h1 | ⟨i, hi, e2⟩
        · exact hs h1
        · exact placeOf_none hp i hi e2
      simp [hs, this]
theorem dup_length (g : GrR) : (atL (atPs g)).length = g.srcs.length + g.acts.length ↔ dupB g = false := by
  have h := atL_length (atPs g)
  rw [← atPs_length, h.2.1, atPs_keys]
  unfold dupB
  simp

theorem at_isSome (g : GrR) (s : Nm) : (lval s (atL (atPs g))).isSome = (namesL g).contains s := by
  have h := keys_foldl (atPs g) [] s
  rw [atPs_keys] at h
  simp only [List.map_nil, List.not_mem_nil, false_or] at h
  cases hl : lval s (atL (atPs g)) with
  | none =>
    rw [lval_none] at hl
    have : s ∉ namesL g := fun hs => by
      obtain ⟨p, hp, e⟩ := List.mem_map.1 (h.2 hs)
      exact hl p hp e
    simp [this]
  | some x =>
    have : s ∈ namesL g := by
      apply h.1
      by_cases hc : s ∈ (List.foldl (fun l p => lput p.1 p.2 l) [] (atPs g)).map Prod.fst
      · exact hc
      · exfalso
        have h2 : lval s (atL (atPs g)) = none := lval_none.2 (fun p hp e => hc (List.mem_map.2 ⟨p, hp, e⟩))
        rw [hl] at h2; cases h2
    simp [this]

/-- Block b holds the build g by its names. -/
structure WebAt (w : World) (b : Nat) (g : GrR) (sv av : Value) (iv : Nat → Value) (r : Nat) (l : List (Nm × Int)) : Prop where
  blk : w.heap[b]? = some (.cells #[sv, av, .map (some r)] 150 (0, 0))
  srcs : NamesAt w sv g.srcs
  acts : ActsAt w av g.acts iv
  map : MapL w r nmV intV l
  look : ∀ s, lval s l = atV g s
theorem WebAt.chg {F : Nat → Prop} {w w' : World} {b : Nat} {g : GrR} {sv av : Value} {iv : Nat → Value} {r : Nat} {l : List (Nm × Int)} (h : WebAt w b g sv av iv r l) (hc : Chg F w w') (hF : ∀ k, k < w.heap.size → ¬ F k) : WebAt w' b g sv av iv r l :=
  ⟨hc.obj h.blk (hF _ (heap_lt h.blk)), h.srcs.chg hc hF, h.acts.chg hc hF, h.map.chg hc (hF _ h.map.lt), h.look⟩
def IsWeb (w : World) (b : Nat) (g : GrR) : Prop := ∃ sv av iv r l, WebAt w b g sv av iv r l
theorem IsWeb.chg {F : Nat → Prop} {w w' : World} {b : Nat} {g : GrR} (h : IsWeb w b g) (hc : Chg F w w') (hF : ∀ k, k < w.heap.size → ¬ F k) : IsWeb w' b g := by
  obtain ⟨sv, av, iv, r, l, h⟩ := h
  exact ⟨sv, av, iv, r, l, h.chg hc hF⟩
end Go.Proofs.YthglfmacjoecgaaGreatDoor
namespace Go.Proofs.YthglfmacjoecgaaGreatDoor
open Go

abbrev ResR := Int × ByteArray
abbrev SrcR := Nm × ByteArray
def noRes : ResR := (0, ByteArray.empty)
def codeAt (g : GrR) (i : Nat) : List UInt8 := (g.acts.getD i noAct).code
theorem codeAt_lt (g : GrR) (i : Nat) (h : i < g.acts.length) : codeAt g i = g.acts[i].code := by unfold codeAt; rw [getD_of_lt _ _ _ h]

section
variable (F : List UInt8 → List ResR → ResR) (g : GrR)
/-- What lies under a name. -/
def valT (t : List (Nm × ResR)) (s : Nm) : ResR := (lval s t).getD noRes
def insT2 (t : List (Nm × ResR)) (i : Nat) : List ResR := (insAt g i).map (valT t)
def stepT (t : List (Nm × ResR)) (i : Nat) : List (Nm × ResR) := lput (nameAt g i) (F (codeAt g i) (insT2 g t i)) t
def srcT (srcs : List SrcR) : List (Nm × ResR) := atL (srcs.map fun s => (s.1, ((0 : Int), s.2)))
def foldT (srcs : List SrcR) (l : List Nat) : List (Nm × ResR) := l.foldl (stepT F g) (srcT srcs)
/-- All that is there in the end. -/
def madeT (srcs : List SrcR) : List (Nm × ResR) := foldT F g srcs (orderR g)

theorem foldT_snoc (srcs : List SrcR) (l : List Nat) (i : Nat) : foldT F g srcs (l ++ [i]) = stepT F g (foldT F g srcs l) i := by unfold foldT; rw [List.foldl_append]; rfl
theorem stepT_val (t : List (Nm × ResR)) (i : Nat) (s : Nm) : lval s (stepT F g t i) = if s = nameAt g i then some (F (codeAt g i) (insT2 g t i)) else lval s t := by
  unfold stepT
  rw [lval_put]
/-- What is not made by these places is as it was. -/
theorem foldl_other : ∀ (l : List Nat) (t : List (Nm × ResR)) (s : Nm), (∀ j ∈ l, nameAt g j ≠ s) → lval s (l.foldl (stepT F g) t) = lval s t
  | [], _, _, _ => rfl
  | i :: l, t, s, h => by
    rw [List.foldl_cons, foldl_other l _ s (fun j hj => h j (by simp [hj])), stepT_val, if_neg (fun e => h i (by simp) e.symm)]
/-- The sources fit the build: just those that it names, each once. -/
structure Fit (srcs : List SrcR) : Prop where
  nd : (srcs.map Prod.fst).Nodup
  mem : ∀ s, s ∈ srcs.map Prod.fst ↔ s ∈ g.srcs
variable {F g}
theorem srcT_eq {srcs : List SrcR} (h : (srcs.map Prod.fst).Nodup) : srcT srcs = srcs.map fun s => (s.1, ((0 : Int), s.2)) := by
  unfold srcT
  refine (atL_length _).2.2 ?_
  rw [List.map_map]
  exact h
theorem srcT_mem {srcs : List SrcR} (h : (srcs.map Prod.fst).Nodup) {s : SrcR} (hs : s ∈ srcs) : lval s.1 (srcT srcs) = some (0, s.2) := by
  rw [srcT_eq h]
  refine lval_mem ?_ (List.mem_map.2 ⟨s, hs, rfl⟩)
  rw [List.map_map]
  exact h
theorem srcT_none {srcs : List SrcR} (h : (srcs.map Prod.fst).Nodup) {s : Nm} (hs : s ∉ srcs.map Prod.fst) : lval s (srcT srcs) = none := by
  rw [srcT_eq h, lval_none]
  intro p hp
  obtain ⟨x, hx, rfl⟩ := List.mem_map.1 hp
  exact fun e => hs (List.mem_map.2 ⟨x, hx, e⟩)
theorem names_inj {l : List Nat} (hw : Wov g) (ho : Ordd g l) {i j : Nat} (hi : i ∈ l) (hj : j ∈ l) (h : nameAt g i = nameAt g j) : i = j := hw.inj (ho.lt i hi) (ho.lt j hj) h
/-- A source's value never changes. -/
theorem fold_src (hw : Wov g) {srcs : List SrcR} {l : List Nat} (ho : Ordd g l) {s : Nm} (hs : s ∈ g.srcs) : lval s (foldT F g srcs l) = lval s (srcT srcs) :=
  foldl_other F g l _ s (fun j hj e => hw.apart (ho.lt j hj) (e ▸ hs))
theorem Ordd.left {l : List Nat} {i : Nat} (h : Ordd g (l ++ [i])) : Ordd g l ∧ i ∉ l ∧ i < g.acts.length ∧ ∀ s ∈ insAt g i, s ∈ g.srcs ∨ ∃ j ∈ l, nameAt g j = s := by
  have hn := List.nodup_append.1 h.nd
  refine ⟨⟨hn.1, fun j hj => h.lt j (by simp [hj]), fun k hk s hs => ?_⟩, fun hi => hn.2.2 i hi i (by simp) rfl, h.lt i (by simp), fun s hs => ?_⟩
  · rcases h.sup k (by simp; omega) s (by rw [List.getElem_append_left hk]; exact hs) with h1 | ⟨j, hj, h1⟩
    · exact .inl h1
    · exact .inr ⟨j, hj, by rw [List.getElem_append_left (by omega)] at h1; exact h1⟩
  · rcases h.sup l.length (by simp) s (by rw [List.getElem_append_right (Nat.le_refl _)]; simpa using hs) with h1 | ⟨j, hj, h1⟩
    · exact .inl h1
    · exact .inr ⟨l[j], List.getElem_mem hj, by rw [List.getElem_append_left hj] at h1; exact h1⟩
/-- Each action that has been made is what its code makes of what its inputs came to. -/
theorem fold_made (hw : Wov g) {srcs : List SrcR} : ∀ (n : Nat) (l : List Nat), l.length = n → Ordd g l → ∀ i ∈ l, lval (nameAt g i) (foldT F g srcs l) = some (F (codeAt g i) (insT2 g (foldT F g srcs l) i))
  | 0, l, hl, _, i, hi => by rw [List.length_eq_zero_iff.1 hl] at hi; cases hi
  | n + 1, l, hl, ho, i, hi => by
    obtain ⟨l', k, rfl⟩ : ∃ l' k, l = l' ++ [k] := by
      rcases List.eq_nil_or_concat l with h | ⟨l', k, h⟩
      · rw [h] at hl; cases hl
      · exact ⟨l', k, by rw [h]; simp⟩
    obtain ⟨ho', hk, hkn, hkin⟩ := ho.left
    have hkeep : ∀ s, s ≠ nameAt g k → lval s (foldT F g srcs (l' ++ [k])) = lval s (foldT F g srcs l') := fun s hs => by
      rw [foldT_snoc, stepT_val, if_neg hs]
    have hins : ∀ j, (∀ s ∈ insAt g j, s ∈ g.srcs ∨ ∃ q ∈ l', nameAt g q = s) → insT2 g (foldT F g srcs (l' ++ [k])) j = insT2 g (foldT F g srcs l') j := fun j hj => by
      unfold insT2
      refine List.map_congr_left (fun s hs => ?_)
      unfold valT
      rw [hkeep s]
      intro e
      rcases hj s hs with h1 | ⟨q, hq, h1⟩
      · exact hw.apart hkn (e ▸ h1)
      · exact hk (hw.inj (ho'.lt q hq) hkn (h1.trans e) ▸ hq)
    rcases List.mem_append.1 hi with hi | hi
    · have hne : nameAt g i ≠ nameAt g k := fun e => hk (hw.inj (ho'.lt i hi) hkn e ▸ hi)
      rw [hkeep _ hne, fold_made hw n l' (by simpa using hl) ho' i hi, hins i]
      intro s hs
      obtain ⟨q, hq, rfl⟩ := List.mem_iff_getElem.1 hi
      rcases ho'.sup q hq s hs with h1 | ⟨j, hj, h1⟩
      · exact .inl h1
      · exact .inr ⟨l'[j], List.getElem_mem (by omega), h1⟩
    · simp only [List.mem_singleton] at hi
      subst hi
      rw [hins i hkin, foldT_snoc, stepT_val, if_pos rfl]
/-- What an action of a build that can be comes to. -/
theorem made_at (hc : Can g) (srcs : List SrcR) {i : Nat} (hi : i < g.acts.length) : lval (nameAt g i) (madeT F g srcs) = some (F (codeAt g i) (insT2 g (madeT F g srcs) i)) :=
  fold_made hc.w _ _ rfl (orderR_ordd g) i ((orderR_ordd g).full hc.full i hi)
theorem made_src (hw : Wov g) (srcs : List SrcR) {s : Nm} (hs : s ∈ g.srcs) : lval s (madeT F g srcs) = lval s (srcT srcs) := fold_src hw (orderR_ordd g) hs
/-- What lies under the names of a prefix of the order is there in the end. -/
theorem foldl_keep (hw : Wov g) {l m : List Nat} (ho : Ordd g (l ++ m)) (srcs : List SrcR) {s : Nm} (hs : s ∈ g.srcs ∨ ∃ j ∈ l, nameAt g j = s) : lval s (foldT F g srcs (l ++ m)) = lval s (foldT F g srcs l) := by
  unfold foldT
  rw [List.foldl_append]
  refine foldl_other F g m _ s (fun j hj e => ?_)
  have hj2 := ho.lt j (by simp [hj])
  rcases hs with h | ⟨q, hq, h⟩
  · exact hw.apart hj2 (e ▸ h)
  · have := hw.inj (ho.lt q (by simp [hq])) hj2 (h.trans e.symm)
    subst this
    exact (List.nodup_append.1 ho.nd).2.2 q hq q hj rfl
/-- The same for two ways of naming: whatever f makes of names, so long as it tells them apart. -/
theorem made_unique {g h : GrR} {F : List UInt8 → List ResR → ResR} (hg : Can g) (hh : Can h) (hn : h.acts.length = g.acts.length) (hc : ∀ i, i < g.acts.length → codeAt h i = codeAt g i) (f : Nm → Nm) (hf : ∀ i, i < g.acts.length → nameAt h i = f (nameAt g i)) (hins : ∀ i, i < g.acts.length → insAt h i = (insAt g i).map f)
    (s1 s2 : List SrcR) (hs : ∀ s ∈ g.srcs, f s ∈ h.srcs ∧ valT (srcT s2) (f s) = valT (srcT s1) s) : ∀ i, i < g.acts.length → valT (madeT F h s2) (nameAt h i) = valT (madeT F g s1) (nameAt g i) := by
  have key : ∀ (k : Nat) (hk : k < (orderR g).length), valT (madeT F h s2) (nameAt h (orderR g)[k]) = valT (madeT F g s1) (nameAt g (orderR g)[k]) := by
    intro k
    induction k using Nat.strongRecOn with
    | _ k ih =>
      intro hk
      have hi := (orderR_ordd g).lt _ (List.getElem_mem hk)
      unfold valT
      rw [made_at hh s2 (by omega), made_at hg s1 hi]
      simp only [Option.getD_some]
      rw [hc _ hi]
      congr 1
      unfold insT2
      rw [hins _ hi, List.map_map]
      refine List.map_congr_left (fun s hsm => ?_)
      rcases (orderR_ordd g).sup k hk s hsm with h1 | ⟨j, hj, h1⟩
      · have := hs s h1
        show valT _ (f s) = valT _ s
        unfold valT at this ⊢
        rw [made_src hh.w s2 this.1, made_src hg.w s1 h1]
        exact this.2
      · have := ih j hj (by omega)
        have hj2 := (orderR_ordd g).lt _ (List.getElem_mem (show j < (orderR g).length by omega))
        rw [hf _ hj2, h1] at this
        exact this
  intro i hi
  obtain ⟨k, hk, rfl⟩ := hg.pos hi
  exact key k hk
/-- What isn't dirty by the names whose sources are others comes to the same, of the same. -/
theorem made_clean {g : GrR} {F : List UInt8 → List ResR → ResR} (hg : Can g) (s1 s2 : List SrcR) (names : List Nm) (hs : ∀ s ∈ g.srcs, s ∉ names → valT (srcT s2) s = valT (srcT s1) s) : ∀ i, i < g.acts.length → dirtyB g names i = false →
    insT2 g (madeT F g s2) i = insT2 g (madeT F g s1) i ∧ valT (madeT F g s2) (nameAt g i) = valT (madeT F g s1) (nameAt g i) := by
  have hval : ∀ i, i < g.acts.length → insT2 g (madeT F g s2) i = insT2 g (madeT F g s1) i → valT (madeT F g s2) (nameAt g i) = valT (madeT F g s1) (nameAt g i) := fun i hi h => by
    unfold valT
    rw [made_at hg s2 hi, made_at hg s1 hi, h]
  have key : ∀ (k : Nat) (hk : k < (orderR g).length), dirtyB g names (orderR g)[k] = false → insT2 g (madeT F g s2) (orderR g)[k] = insT2 g (madeT F g s1) (orderR g)[k] := by
    intro k
    induction k using Nat.strongRecOn with
    | _ k ih =>
      intro hk hd
      have hi := (orderR_ordd g).lt _ (List.getElem_mem hk)
      have hnd : ∀ s, Needs g (orderR g)[k] s → s ∉ names := fun s hn hm => by
        have := dirtyB_iff.2 (.inr ⟨s, (hg.mem_needs hi).2 hn, hm⟩)
        rw [hd] at this; cases this
      unfold insT2
      refine List.map_congr_left (fun s hsm => ?_)
      rcases (orderR_ordd g).sup k hk s hsm with h1 | ⟨j, hj, h1⟩
      · have := hs s h1 (hnd s (.base hsm))
        unfold valT at this ⊢
        rw [made_src hg.w s2 h1, made_src hg.w s1 h1]
        exact this
      · have hj2 := (orderR_ordd g).lt _ (List.getElem_mem (show j < (orderR g).length by omega))
        have hdj : dirtyB g names (orderR g)[j] = false := by
          rw [Bool.eq_false_iff]
          intro hdj
          rcases dirtyB_iff.1 hdj with h2 | ⟨u, hu, h2⟩
          · exact hnd _ (.base hsm) (h1 ▸ h2)
          · exact hnd u (Needs.behind hsm (h1 ▸ hg.w.place hj2) ((hg.mem_needs hj2).1 hu)) h2
        rw [← h1]
        exact hval _ hj2 (ih j hj (by omega) hdj)
  intro i hi hd
  obtain ⟨k, hk, rfl⟩ := hg.pos hi
  have h := key k hk hd
  exact ⟨h, hval _ hi h⟩
end
end Go.Proofs.YthglfmacjoecgaaGreatDoor
namespace Go.Proofs.YthglfmacjoecgaaGreatDoor
open Go.RowKit

def WovenPost (w : World) (g : GrR) (e : Ending) (w' : World) : Prop :=
  Chg (fun _ => False) w w' ∧ ((wovenR g = 0 ∧ ∃ b, e = .returned (.tuple #[.pointer (some ⟨b, 0, none⟩), .int .i64 0]) ∧ IsWeb w' b g) ∨ (wovenR g ≠ 0 ∧ e = .returned (.tuple #[.pointer none, .int .i64 (wovenR g)])))
theorem MapL.al {κ ν : Type} {enc : κ → Value} {encv : ν → Value} {l : List (κ × ν)} {w : World} {r : Nat} (h : MapL w r enc encv l) (o : Obj) : MapL (w.alloc o) r enc encv l :=
  h.chg ((Chg.refl (fun _ => False) w).alloc o) (fun h => h)
theorem zeroI (w : World) : (zeroValue 3).run Tryz.prog w = .ok (.int .i64 0) w := by kernel_rfl

set_option maxRecDepth 100000 in
set_option maxHeartbeats 4000000 in
theorem woven_any (g : GrR) (v : Value) (w : World) (hg : GrAt w v g) : Calls Tryz.prog 113 #[v] w (WovenPost w g) := by
  have hpr : ∀ W, Chg (fun _ => False) w W → Calls Tryz.prog 132 #[v] W (Rets (.tuple #[.string (bs ((printR g).getD [])), .int .i64 (if grOK g = true then 0 else 1)]) (Chg (fun _ => False) W)) := fun W hW => print_any g v W (hg.chg hW (fun _ _ h => h))
  obtain ⟨oa, c, ob, d, iv, rfl, hs, ha⟩ := hg.form
  have hC1 : Chg (fun _ => False) w (w.alloc (.cells #[.slice oa g.srcs.length c, .slice ob g.acts.length d] 25)) := (Chg.refl _ w).alloc _
  have h1 := hpr _ hC1
  clear hpr hg
  cases hok : grOK g with
  | false =>
    have hw : wovenR g = 1 := by unfold wovenR; rw [hok]; rfl
    rw [hok] at h1
    have HW := hid hw
    clear hw hs ha
    go_enter Tryz.func113, Tryz.ntmps113
    go_wp2_with (go_at_call 132; refine h1.mono ?_; rintro e w' ⟨rfl, hc⟩)
    go_ret2
    refine ⟨hC1.trans hc (fun _ _ h => h), .inr ?_⟩
    rw [HW.out]
    exact ⟨by decide, rfl⟩
  | true =>
    rw [hok] at h1
    have hgb : (w.alloc (.cells #[.slice oa g.srcs.length c, .slice ob g.acts.length d] 25)).heap[w.heap.size]? = some (.cells #[.slice oa g.srcs.length c, .slice ob g.acts.length d] 25 (0, 0)) := heap_alloc_new' w _
    have hn1 := hs.le
    have hn2 := ha.rows.le
    unfold maxLen at hn1 hn2
    have hn8 : g.srcs.length ≤ 8 := ((grOK_iff g).1 hok).1
    have hn12 : g.acts.length ≤ 12 := ((grOK_iff g).1 hok).2.1
    have HS := hid hs
    have HA := hid ha
    have HG := hid hgb
    have HOK := hid hok
    clear hs ha hgb hok
    have hmm := @run_makeMap Tryz.prog
    go_enter Tryz.func113, Tryz.ntmps113
    go_wp2_with (go_at_call 132; refine h1.mono ?_; rintro e w2 ⟨rfl, hc2⟩; have p0 := cell_of (hc2.obj HG.out (fun h => h)) 0; have p1 := cell_of (hc2.obj HG.out (fun h => h)) 1; simp at p0 p1; have q0 := cell_alloc' (cell_alloc' (cell_of (hc2.obj HG.out (fun h => h)) 0) (.map #[] 0)) (.cells #[.slice oa g.srcs.length c, .slice ob g.acts.length d, .map (some w2.heap.size)] 150); simp at q0)
    have hlt : w.heap.size < w2.heap.size := by have := hc2.size; simp at this; omega
    have hch3 : Chg (fun _ => False) w ((w2.alloc (.map #[] 0)).alloc (.cells #[.slice oa g.srcs.length c, .slice ob g.acts.length d, .map (some w2.heap.size)] 150)) := ((hC1.trans hc2 (fun _ _ h => h)).alloc _).alloc _
    have hgb3 : ((w2.alloc (.map #[] 0)).alloc (.cells #[.slice oa g.srcs.length c, .slice ob g.acts.length d, .map (some w2.heap.size)] 150)).heap[w.heap.size]? = some (.cells #[.slice oa g.srcs.length c, .slice ob g.acts.length d] 25 (0, 0)) := heap_alloc_old' (heap_alloc_old' (hc2.obj HG.out (fun h => h)) _) _
    have hwb3 : ((w2.alloc (.map #[] 0)).alloc (.cells #[.slice oa g.srcs.length c, .slice ob g.acts.length d, .map (some w2.heap.size)] 150)).heap[w2.heap.size + 1]? = some (.cells #[.slice oa g.srcs.length c, .slice ob g.acts.length d, .map (some w2.heap.size)] 150 (0, 0)) := by
      have := heap_alloc_new' (w2.alloc (.map #[] 0)) (.cells #[.slice oa g.srcs.length c, .slice ob g.acts.length d, .map (some w2.heap.size)] 150)
      simpa using this
    have hm3 : MapL ((w2.alloc (.map #[] 0)).alloc (.cells #[.slice oa g.srcs.length c, .slice ob g.acts.length d, .map (some w2.heap.size)] 150)) w2.heap.size nmV intV ([] : List (Nm × Int)) := (MapL.fresh w2).al _
    clear hc2 hC1 HG h1 q0 p0 p1
    generalize ((w2.alloc (.map #[] 0)).alloc (.cells #[.slice oa g.srcs.length c, .slice ob g.acts.length d, .map (some w2.heap.size)] 150)) = W3 at *
    obtain ⟨r, hr⟩ : ∃ r, r = w2.heap.size := ⟨_, rfl⟩
    obtain ⟨bw, hbw⟩ : ∃ bw, bw = w2.heap.size + 1 := ⟨_, rfl⟩
    obtain ⟨bg, hbg⟩ : ∃ bg, bg = w.heap.size := ⟨_, rfl⟩
    rw [← hbw, ← hr] at hwb3
    rw [← hr] at hm3
    rw [← hbg] at hgb3
    rw [← hbw, ← hr, ← hbg]
    have hne1 : ¬ bg = r := by omega
    have hne2 : ¬ bw = r := by omega
    have hwr : w.heap.size ≤ r := by omega
    clear hr hbw hlt
    have hfar : ∀ W, Chg (fun k => k = r) W3 W → Chg (fun _ => False) w W := fun W hW => hch3.trans hW (fun i hi h => by omega)
    have hgc : ∀ W, Chg (fun k => k = r) W3 W → W.cell? ⟨bg, 0, none⟩ = some (.slice oa g.srcs.length c) ∧ W.cell? ⟨bg, 1, none⟩ = some (.slice ob g.acts.length d) := fun W hW => ⟨cell_of (hW.obj hgb3 hne1) 0, cell_of (hW.obj hgb3 hne1) 1⟩
    have hwc : ∀ W, Chg (fun k => k = r) W3 W → W.cell? ⟨bw, 2, none⟩ = some (.map (some r)) := fun W hW => cell_of (hW.obj hwb3 hne2) 2
    have HF := hid hfar
    have HGC := hid hgc
    have HWC := hid hwc
    have HWB := hid hwb3
    have hm3' : MapL W3 r nmV intV (atL ((atPs g).take 0)) := hm3
    have HM3 := hid hm3'
    have HNE := hid (And.intro hne1 hne2)
    clear hfar hgc hwc hch3 hgb3 hwb3 hm3 hm3' hne1 hne2 hbg hwr
    go_loopw [31] (fun i wr => ∃ k : Nat, k ≤ g.srcs.length ∧ i = .int .i64 k ∧ Chg (fun k => k = r) W3 wr ∧ MapL wr r nmV intV (atL ((atPs g).take k))) (fun i _ => g.srcs.length - (intOf i).toNat)
    case atStart => exact ⟨0, Nat.zero_le _, rfl, Chg.refl _ _, HM3.out⟩
    case round =>
      obtain ⟨k, hk, rfl, hch, hm⟩ := hrel
      have HC := hid hch
      have HM := hid hm
      have q2 := HWC.out _ hch
      clear hch hm
      by_cases hkn : k < g.srcs.length
      · have hkn' : (k : Int) < g.srcs.length := by omega
        obtain ⟨ad, hix, hadc, hadb⟩ := (HS.out.chg (HF.out wr HC.out) (fun _ _ h => h)).ix k hkn
        have HP : Hid (∀ W', MapL W' r nmV intV (lput g.srcs[k] (-1) (atL ((atPs g).take k))) → MapL W' r nmV intV (atL ((atPs g).take (k + 1)))) := by
          intro W' h
          rw [atL_take _ k (by rw [atPs_length]; omega), atPs_src g k hkn]
          exact h
        generalize hnm : g.srcs[k] = nm at *
        have HNM := hid hnm
        clear hnm
        go_wp2_with (at_mapUpdate; refine wpList_mapUpdate_l rfl _ _ _ 148 rfl keyNm Tryz.underlying148 HM.out rfl nm rfl (-1 : Int) rfl ?_; intro w1 hm1 hc1)
        go_roundw
        case rel => exact ⟨k + 1, by omega, by go_num, HC.out.trans hc1 (fun _ _ h => h), HP.out _ hm1⟩
        case measure => simp [intOf]; omega
      · obtain rfl : k = g.srcs.length := by omega
        have q3 := (HGC.out _ HC.out).2
        have hlenA := HA.out.len
        have hm4 : MapL wr r nmV intV (atL ((atPs g).take (g.srcs.length + 0))) := HM.out
        have HM4 := hid hm4
        have HC4 := hid HC.out
        clear hm4
        go_wp2_with fail
        clear q2 q3 HM HC
        obtain ⟨wo, hwo⟩ : ∃ wo, wo = wr := ⟨_, rfl⟩
        rw [← hwo] at HM4 HC4 ⊢
        clear hwo
        go_loopw [44] (fun i wr => ∃ k : Nat, k ≤ g.acts.length ∧ i = .int .i64 k ∧ Chg (fun k => k = r) W3 wr ∧ MapL wr r nmV intV (atL ((atPs g).take (g.srcs.length + k)))) (fun i _ => g.acts.length - (intOf i).toNat)
        case atStart => exact ⟨0, Nat.zero_le _, rfl, HC4.out, HM4.out⟩
        case round =>
          obtain ⟨k, hk, rfl, hch, hm⟩ := hrel
          have HC := hid hch
          have HM := hid hm
          clear hch hm HC4 HM4
          by_cases hkn : k < g.acts.length
          · have hkn' : (k : Int) < g.acts.length := by omega
            obtain ⟨bb, oo, hix, hlt, e0, e1, e2, hns, hw1, hw2⟩ := (HA.out.chg (HF.out wr HC.out) (fun _ _ h => h)).at k hkn
            obtain ⟨oi, ci, hiv⟩ := hns.form
            rw [hiv] at e1
            have HP : Hid (∀ W', MapL W' r nmV intV (lput g.acts[k].name (k : Int) (atL ((atPs g).take (g.srcs.length + k)))) → MapL W' r nmV intV (atL ((atPs g).take (g.srcs.length + (k + 1))))) := by
              intro W' h
              rw [show g.srcs.length + (k + 1) = g.srcs.length + k + 1 by omega, atL_take _ _ (by rw [atPs_length]; omega), atPs_act g k hkn]
              show MapL W' r nmV intV (lput (nameAt g k) _ _)
              rw [nameAt_lt g k hkn]
              exact h
            clear hiv hns hw1 hw2
            generalize g.acts[k].ins.length = ni at *
            generalize hnm : g.acts[k].name = nm at *
            generalize bs g.acts[k].code = cd at *
            have hch5 := HC.out.alloc (.cells #[.string (bs nm), .slice oi ni ci, .string cd] 43)
            have q2 := HWC.out _ hch5
            have hm5 := HM.out.al (.cells #[.string (bs nm), .slice oi ni ci, .string cd] 43)
            have k5 := heap_alloc_new' wr (.cells #[.string (bs nm), .slice oi ni ci, .string cd] 43)
            have HC5 := hid hch5
            have HM5 := hid hm5
            have HK5 := hid k5
            have HNM := hid hnm
            clear hnm hch5 hm5 k5
            go_wp2_with fail
            generalize wr.alloc (.cells #[.string (bs nm), .slice oi ni ci, .string cd] 43) = W5 at *
            have c0 : W5.cell? ⟨wr.heap.size, 0, none⟩ = some (.string (bs nm)) := cell_of HK5.out 0
            go_still_tail 8, (by kernel_rfl)
            change wpList _ _ _ _ _ W5.drew
            refine wpList_mapUpdate_l rfl _ _ _ 148 rfl keyNm Tryz.underlying148 (show MapL W5.drew r nmV intV _ from HM5.out) rfl nm rfl (k : Int) rfl ?_
            intro w1 hm1 hc1
            go_wp2_with fail
            go_roundw
            case rel => exact ⟨k + 1, by omega, by go_num, HC5.out.drew.trans hc1 (fun _ _ h => h), HP.out _ hm1⟩
            case measure => simp [intOf]; omega
          · obtain rfl : k = g.acts.length := by omega
            have hm6 : MapL wr r nmV intV (atL (atPs g)) := by
              have := HM.out
              rwa [List.take_of_length_le (by rw [atPs_length]; omega)] at this
            have HM6 := hid hm6
            have q2 := HWC.out _ HC.out
            have g0 := (HGC.out _ HC.out).1
            have g1 := (HGC.out _ HC.out).2
            have hlenS := HS.out.len
            have hlenM : ∀ n ty, (Builtin.len_ #[148] ty #[.map (some r)]).run Tryz.prog (wr.drewN n) = .ok (.int .i64 (atL (atPs g)).length) (wr.drewN n) := fun n ty =>
              MapL.len (show MapL (wr.drewN n) r nmV intV (atL (atPs g)) from hm6) Tryz.underlying148 ty
            have hsum : IntKind.i64.wrap ((g.srcs.length : Int) + (g.acts.length : Int)) = (g.srcs.length : Int) + (g.acts.length : Int) := by rw [IntKind.wrap_i64]; omega
            clear hm6 HM
            cases hdup : dupB g with
            | true =>
              have hL : ¬ ((atL (atPs g)).length : Int) = (g.srcs.length : Int) + (g.acts.length : Int) := fun e => by
                have := (dup_length g).1 (by omega)
                rw [hdup] at this; cases this
              have HW : Hid (wovenR g = 21) := by show wovenR g = 21; unfold wovenR; rw [HOK.out, hdup]; rfl
              generalize (atL (atPs g)).length = L at *
              clear hdup hkn hk
              go_wp2_with fail
              go_quiet (fail)
              go_wp2_with fail
              go_ret2
              exact ⟨HF.out _ (HC.out.drewN _), .inr ⟨by rw [HW.out]; decide, by rw [HW.out]; rfl⟩⟩
            | false =>
              have hL : ((atL (atPs g)).length : Int) = (g.srcs.length : Int) + (g.acts.length : Int) := by
                have := (dup_length g).2 hdup
                omega
              have HD := hid hdup
              rw [hL] at hlenM
              clear hL hdup hkn hk
              go_wp2_with fail
              go_quiet (fail)
              have hC7 := HC.out.drewN nq
              have hm7 : MapL (wr.drewN nq) r nmV intV (atL (atPs g)) := HM6.out
              have g1' := (HGC.out _ hC7).2
              clear hlenM hlenS hsum q2 g0 g1 HM6 HC
              generalize wr.drewN nq = W7 at *
              have HC7 := hid hC7
              have HM7 := hid hm7
              clear hC7 hm7
              go_wp2_with fail
              clear g1'
              go_loopw [74] (fun i wr => ∃ k : Nat, k ≤ g.acts.length ∧ i = .int .i64 k ∧ Chg (fun _ => False) W7 wr ∧ ∀ j, j < k → ∀ s ∈ insAt g j, s ∈ namesL g) (fun i _ => g.acts.length - (intOf i).toNat)
              case atStart => exact ⟨0, Nat.zero_le _, rfl, Chg.refl _ _, fun j h => absurd h (Nat.not_lt_zero _)⟩
              case round =>
                obtain ⟨k, hk, rfl, hch, hall⟩ := hrel
                have HA2 := hid hall
                have HC8 := hid hch
                have hC9 := HC7.out.trans hch (fun _ _ h => h.elim)
                have HC9 := hid hC9
                clear hall hch hC9
                by_cases hkn : k < g.acts.length
                · have hkn' : (k : Int) < g.acts.length := by omega
                  obtain ⟨bb, oo, hix, hlt, e0, e1, e2, hns, hw1, hw2⟩ := (HA.out.chg (HF.out _ HC9.out) (fun _ _ h => h)).at k hkn
                  obtain ⟨oi, ci, hiv⟩ := hns.form
                  rw [hiv] at e1 hns
                  have hli := hns.le
                  unfold maxLen at hli
                  have HI : Hid (insAt g k = g.acts[k].ins) := insAt_lt g k hkn
                  have HMI : Hid (∀ s ∈ g.acts[k].ins, s ∉ namesL g → missB g = true) := by
                    intro s hs hn
                    unfold missB
                    rw [List.any_eq_true]
                    refine ⟨_, List.getElem_mem hkn, ?_⟩
                    rw [List.any_eq_true]
                    exact ⟨s, hs, by simp [hn]⟩
                  generalize bs g.acts[k].name = nm at *
                  generalize bs g.acts[k].code = cd at *
                  generalize g.acts[k].ins = ins at *
                  have hA : Chg (fun _ => False) wr (wr.alloc (.cells #[.string nm, .slice oi ins.length ci, .string cd] 43)) := (Chg.refl _ wr).alloc _
                  have kA := heap_alloc_new' wr (.cells #[.string nm, .slice oi ins.length ci, .string cd] 43)
                  have HNA := hid (hns.chg hA (fun _ _ h => h))
                  have hlenN := hns.len
                  have HA9 := hid hA
                  have HKA := hid kA
                  clear hiv hns hw1 hw2 hA kA
                  go_wp2_with fail
                  generalize wr.alloc (.cells #[.string nm, .slice oi ins.length ci, .string cd] 43) = wa at *
                  clear e0 e1 e2 hix
                  have HCa := hid (HC9.out.trans HA9.out (fun _ _ h => h.elim))
                  have HMa := hid (HM7.out.chg (HC8.out.trans HA9.out (fun _ _ h => h)) (fun h => h))
                  have q2 := HWC.out _ HCa.out
                  go_loopw [81] (fun i wb => ∃ q : Nat, q ≤ ins.length ∧ i = .int .i64 q ∧ wb = wa ∧ ∀ j (h : j < ins.length), j < q → ins[j] ∈ namesL g) (fun i _ => ins.length - (intOf i).toNat)
                  case atStart => exact ⟨0, Nat.zero_le _, rfl, rfl, fun j _ h => absurd h (Nat.not_lt_zero _)⟩
                  case round =>
                    obtain ⟨q, hq, rfl, rfl, hin⟩ := hrel
                    have HIN := hid hin
                    clear hin
                    by_cases hqn : q < ins.length
                    · have hqn' : (q : Int) < ins.length := by omega
                      obtain ⟨ad3, hix3, hadc3, hadb3⟩ := HNA.out.ix q hqn
                      have hsome := at_isSome g ins[q]
                      have HMQ := hid (HMI.out _ (List.getElem_mem hqn))
                      generalize hs3 : ins[q] = s3 at *
                      by_cases hmem : s3 ∈ namesL g
                      · have hb : (lval s3 (atL (atPs g))).isSome = true := by rw [hsome]; simpa using hmem
                        have HB := hid hb
                        have HMEM := hid hmem
                        have HS3 := hid hs3
                        clear hsome hb hmem hs3
                        go_wp2_with (at_lookup; refine wpList_lookup_ok rfl _ _ 148 rfl keyNm Tryz.underlying148 (zeroI _) HMa.out rfl s3 rfl _ rfl true HB.out ?_)
                        go_roundw
                        case rel =>
                          refine ⟨q + 1, by omega, by go_num, by first | rfl | trivial, fun j hj hjq => ?_⟩
                          by_cases e : j = q
                          · subst e; rw [HS3.out]; exact HMEM.out
                          · exact HIN.out j hj (by omega)
                        case measure => simp [intOf]; omega
                      · have hb : (lval s3 (atL (atPs g))).isSome = false := by rw [hsome]; simpa using hmem
                        have HB := hid hb
                        have HW : Hid (wovenR g = 22) := by show wovenR g = 22; unfold wovenR; rw [HOK.out, HD.out, HMQ.out hmem]; rfl
                        clear hsome hb hmem hs3
                        go_wp2_with (at_lookup; refine wpList_lookup_ok rfl _ _ 148 rfl keyNm Tryz.underlying148 (zeroI _) HMa.out rfl s3 rfl _ rfl false HB.out ?_)
                        go_ret2
                        exact ⟨HF.out _ HCa.out, .inr ⟨by rw [HW.out]; decide, by rw [HW.out]; rfl⟩⟩
                    · obtain rfl : q = ins.length := by omega
                      go_wp2_with fail
                      go_roundw
                      case rel =>
                        refine ⟨k + 1, by omega, by go_num, HC8.out.trans HA9.out (fun _ _ h => h), fun j hjk s hs => ?_⟩
                        by_cases e : j = k
                        · subst e
                          rw [HI.out] at hs
                          obtain ⟨q, hq, rfl⟩ := List.mem_iff_getElem.1 hs
                          exact HIN.out q hq hq
                        · exact HA2.out j (by omega) s hs
                      case measure => simp [intOf]; omega
                · obtain rfl : k = g.acts.length := by omega
                  have HW : Hid (Wov g) := by
                    refine ⟨HOK.out, ?_, ?_⟩
                    · have := HD.out; unfold dupB at this; simpa using this
                    · intro a ha s hs
                      obtain ⟨j, hj, rfl⟩ := List.mem_iff_getElem.1 ha
                      exact HA2.out j hj s (by rw [insAt_lt g j hj]; exact hs)
                  go_wp2_with fail
                  go_ret2
                  refine ⟨HF.out _ HC9.out, .inl ⟨wovenR_zero.2 HW.out, bw, rfl, .slice oa g.srcs.length c, .slice ob g.acts.length d, iv, r, atL (atPs g), ?_⟩⟩
                  exact ⟨HC9.out.obj HWB.out HNE.out.2, HS.out.chg (HF.out _ HC9.out) (fun _ _ h => h), HA.out.chg (HF.out _ HC9.out) (fun _ _ h => h), HM7.out.chg HC8.out (fun h => h), fun s => HW.out.at s⟩
end Go.Proofs.YthglfmacjoecgaaGreatDoor
namespace Go.Proofs.YthglfmacjoecgaaGreatDoor
open Go.RowKit

/-- What has been made: the names of these places. -/
def doneL (g : GrR) (l : List Nat) : List (Nm × Bool) := atL (l.map fun i => (nameAt g i, true))
theorem doneL_snoc (g : GrR) (l : List Nat) (i : Nat) : doneL g (l ++ [i]) = lput (nameAt g i) true (doneL g l) := by
  unfold doneL
  rw [List.map_append, List.map_cons, List.map_nil, atL_snoc]
theorem lval_trues {s : Nm} : ∀ (ps : List (Nm × Bool)) (l : List (Nm × Bool)), (∀ p ∈ ps, p.2 = true) → lval s (ps.foldl (fun l p => lput p.1 p.2 l) l) = if s ∈ ps.map Prod.fst then some true else lval s l
  | [], l, _ => by simp
  | p :: ps, l, h => by
    rw [List.foldl_cons, lval_trues ps _ (fun q hq => h q (List.mem_cons_of_mem _ hq)), lval_put, h p List.mem_cons_self]
    simp only [List.map_cons, List.mem_cons]
    by_cases h1 : s = p.1
    · simp [h1]
    · simp [h1]
theorem doneL_val (g : GrR) (l : List Nat) (s : Nm) : (lval s (doneL g l)).getD false = (l.map (nameAt g)).contains s := by
  unfold doneL atL
  rw [lval_trues _ _ (fun p hp => by obtain ⟨i, _, rfl⟩ := List.mem_map.1 hp; rfl)]
  have e : (l.map fun i => (nameAt g i, true)).map Prod.fst = l.map (nameAt g) := by
    rw [List.map_map]; rfl
  rw [e, lval_nil]
  by_cases h : s ∈ l.map (nameAt g)
  · simp [h]
  · rw [if_neg h]
    have : (l.map (nameAt g)).contains s = false := by simpa using h
    rw [this]; rfl
/-- Whether a name is still waited for. -/
def waitsB (g : GrR) (l : List Nat) (s : Nm) : Bool := (placeOf g s).isSome && !(l.map (nameAt g)).contains s
theorem ready_waits {g : GrR} (hw : Wov g) (l : List Nat) (a : ActR) (ha : a ∈ g.acts) : readyB g l a = (!(l.map (nameAt g)).contains a.name && !(a.ins.any (waitsB g l))) := by
  unfold readyB
  congr 1
  rw [List.all_eq_not_any_not]
  congr 1
  have : ∀ s ∈ a.ins, (!(g.srcs.contains s || (l.map (nameAt g)).contains s)) = waitsB g l s := by
    intro s hs
    unfold waitsB
    rcases hw.src_or (hw.ins a ha s hs) with ⟨h1, h2⟩ | ⟨i, hi, h1, h2, h3⟩
    · rw [h2]; simp [h1]
    · rw [h2]; simp [h3]
  rw [Bool.eq_iff_iff, List.any_eq_true, List.any_eq_true]
  constructor
  · rintro ⟨s, hs, h⟩; exact ⟨s, hs, by rw [← this s hs]; exact h⟩
  · rintro ⟨s, hs, h⟩; exact ⟨s, hs, by rw [this s hs]; exact h⟩
theorem zeroB (w : World) : (zeroValue 4).run Tryz.prog w = .ok (.bool false) w := by kernel_rfl

set_option maxRecDepth 100000 in
set_option maxHeartbeats 1000000 in
theorem waits_any (g : GrR) (hw : Wov g) (l : List Nat) (s : Nm) (hs : s ∈ namesL g) (w : World) (bp bd b rd : Nat) (hp : w.cell? ⟨bp, 0, none⟩ = some (.pointer (some ⟨b, 0, none⟩))) (hb : IsWeb w b g)
    (hd : w.cell? ⟨bd, 0, none⟩ = some (.map (some rd))) (hm : MapL w rd nmV boolV (doneL g l)) :
    Calls Tryz.prog 133 #[.string (bs s), .pointer (some ⟨bp, 0, none⟩), .pointer (some ⟨bd, 0, none⟩)] w (Rets (.bool (waitsB g l s)) (fun w' => w = w')) := by
  obtain ⟨sv, av, iv, r, lm, hb⟩ := hb
  have c2 := cell_of hb.blk 2
  simp at c2
  have hv := hb.look s
  have hd1 := doneL_val g l s
  have HM := hid hm
  have HB := hid hb.map
  rcases hw.src_or hs with ⟨h1, h2⟩ | ⟨i, hi, h1, h2, h3⟩
  · have hv1 : ((lval s lm).map intV).getD (.int .i64 0) = .int .i64 (-1) := by rw [hv]; unfold atV; rw [h2]; simp [h1]
    have hr : waitsB g l s = false := by unfold waitsB; rw [h2]; rfl
    rw [hr]
    have HV := hid hv1
    clear hv1 hr hd1 hv hb h1 h2 hw hs hm
    go_enter Tryz.func133, Tryz.ntmps133
    go_wp2_with (at_lookup; refine wpList_lookup_v rfl _ _ 148 rfl keyNm Tryz.underlying148 (zeroI _) HB.out rfl s rfl _ HV.out ?_)
    go_ret
    exact ⟨rfl, rfl⟩
  · have hv1 : ((lval s lm).map intV).getD (.int .i64 0) = .int .i64 i := by rw [hv]; unfold atV; rw [h2]; rfl
    have hr : waitsB g l s = !(l.map (nameAt g)).contains s := by unfold waitsB; rw [h2]; rfl
    have hv2 : ((lval s (doneL g l)).map boolV).getD (.bool false) = .bool ((l.map (nameAt g)).contains s) := by
      rw [← hd1]; cases lval s (doneL g l) <;> rfl
    rw [hr]
    generalize (l.map (nameAt g)).contains s = B at *
    have HV := hid hv1
    have HV2 := hid hv2
    have hi0 : (0 : Int) ≤ (i : Int) := by omega
    clear hv1 hv2 hr hd1 hv hb h1 h2 hw hs hm h3
    go_enter Tryz.func133, Tryz.ntmps133
    go_wp2_with (first | (at_lookup; refine wpList_lookup_v rfl _ _ 148 rfl keyNm Tryz.underlying148 (zeroI _) HB.out rfl s rfl _ HV.out ?_) | (at_lookup; refine wpList_lookup_w rfl _ _ 139 rfl keyNm Tryz.underlying139 (zeroB _) HM.out rfl s rfl _ HV2.out ?_))
    all_goals go_ret
    all_goals exact ⟨rfl, rfl⟩

set_option maxRecDepth 100000 in
set_option maxHeartbeats 1000000 in
theorem ready_any (g : GrR) (hw : Wov g) (l : List Nat) (a : ActR) (iva : Value) (ha : a ∈ g.acts) (w : World) (bp bd b rd bf : Nat) (hp : w.cell? ⟨bp, 0, none⟩ = some (.pointer (some ⟨b, 0, none⟩))) (hb : IsWeb w b g)
    (hd : w.cell? ⟨bd, 0, none⟩ = some (.map (some rd))) (hm : MapL w rd nmV boolV (doneL g l)) (hf : w.cell? ⟨bf, 0, none⟩ = some (.func (.func 133) #[] #[.pointer (some ⟨bp, 0, none⟩), .pointer (some ⟨bd, 0, none⟩)]))
    (hi : NamesAt w iva a.ins) :
    Calls Tryz.prog 134 #[actV a iva, .pointer (some ⟨bd, 0, none⟩), .pointer (some ⟨bf, 0, none⟩)] w (Rets (.bool (readyB g l a)) (Chg (fun _ => False) w)) := by
  have hrw := ready_waits hw l a ha
  have hC1 : Chg (fun _ => False) w (w.alloc (.cells #[.string (bs a.name), iva, .string (bs a.code)] 43)) := (Chg.refl _ w).alloc _
  have k1 := heap_alloc_new' w (.cells #[.string (bs a.name), iva, .string (bs a.code)] 43)
  have d1 := hC1.cell hd (fun h => h)
  have f1 := hC1.cell hf (fun h => h)
  have m1 := hm.chg hC1 (fun h => h)
  have hcf := cfs_waits (some ⟨bp, 0, none⟩) (some ⟨bd, 0, none⟩) (waitsB g l) iva a.ins _ (hi.chg hC1 (fun _ _ h => h)) (fun s hs W hW =>
    (waits_any g hw l s (hw.ins a ha s hs) W bp bd b rd ((hC1.trans hW (fun _ _ h => h)).cell hp (fun h => h)) (hb.chg (hC1.trans hW (fun _ _ h => h)) (fun _ _ h => h)) ((hC1.trans hW (fun _ _ h => h)).cell hd (fun h => h)) (hm.chg (hC1.trans hW (fun _ _ h => h)) (fun h => h))).mono
      (fun e w' ⟨h1, h2⟩ => ⟨h1, h2 ▸ Chg.refl _ _⟩))
  have hd1 := doneL_val g l a.name
  have hv2 : ((lval a.name (doneL g l)).map boolV).getD (.bool false) = .bool ((l.map (nameAt g)).contains a.name) := by
    rw [← hd1]; cases lval a.name (doneL g l) <;> rfl
  rw [hrw]
  unfold actV
  have HM := hid m1
  have HV := hid hv2
  have HC1 := hid hC1
  have HK := hid k1
  have HCF := hid hcf
  clear hd1 hv2 hcf m1 hrw hC1 k1 hp hb hd hm hf hi
  generalize (l.map (nameAt g)).contains a.name = D at *
  generalize a.ins.any (waitsB g l) = B at *
  generalize hnm : a.name = nm at *
  generalize bs a.code = cd at *
  have HNM := hid hnm
  clear hnm
  have c0 : (w.alloc (.cells #[.string (bs nm), iva, .string cd] 43)).cell? ⟨w.heap.size, 1, none⟩ = some iva := cell_of HK.out 1
  cases D with
  | true =>
    clear HCF
    go_enter Tryz.func134, Tryz.ntmps134
    go_wp2_with (at_lookup; refine wpList_lookup_v rfl _ _ 139 rfl keyNm Tryz.underlying139 (zeroB _) HM.out rfl nm rfl _ HV.out ?_)
    go_ret
    exact ⟨rfl, HC1.out⟩
  | false =>
    go_enter Tryz.func134, Tryz.ntmps134
    go_wp2_with (first | (at_lookup; refine wpList_lookup_v rfl _ _ 139 rfl keyNm Tryz.underlying139 (zeroB _) HM.out rfl nm rfl _ HV.out ?_) | (go_at_call 57; refine HCF.out.mono ?_; rintro e w' ⟨rfl, hc⟩))
    go_ret
    exact ⟨rfl, HC1.out.trans hc (fun _ _ h => h)⟩
end Go.Proofs.YthglfmacjoecgaaGreatDoor
namespace Go.Proofs.YthglfmacjoecgaaGreatDoor
open Go.RowKit

abbrev natV : Nat → Value := fun n => .int .i64 (n : Int)
def IntsPost (w : World) (l : List Nat) (e : Ending) (w' : World) : Prop := Chg (fun _ => False) w w' ∧ ∃ v, e = .returned v ∧ w'.ownsRow 0 3 1 v l.length (l.map natV)
theorem elInt : ElT Tryz.prog 75 3 1 8 := .mk' (z := .int .i64 0) Tryz.underlying75 (by kernel_rfl) rfl (by decide) rfl
def lenOf : Value → Nat
  | .slice _ n _ => n
  | _ => 0
theorem owns_lenOf {w : World} {base : Nat} {e : TypeId} {size : Nat} {v : Value} {n : Nat} {xs : List Value} (h : w.ownsRow base e size v n xs) : lenOf v = n := by
  rcases h.2 with ⟨rfl, rfl⟩ | ⟨g, cap, cur, rfl, _⟩ <;> rfl
theorem owns_form {w : World} {base : Nat} {e : TypeId} {size : Nat} {v : Value} {n : Nat} {xs : List Value} (h : w.ownsRow base e size v n xs) : ∃ o cap, v = .slice o n cap := by
  rcases h.2 with ⟨rfl, rfl⟩ | ⟨g, cap, cur, rfl, _⟩
  · exact ⟨_, _, rfl⟩
  · exact ⟨_, _, rfl⟩
theorem stepR_place {g : GrR} (l : List Nat) : placeI (readyB g l) g.acts = match stepR g l with
    | some i => (i : Int)
    | none => -1 := rfl

set_option maxRecDepth 100000 in
set_option maxHeartbeats 4000000 in
theorem order_any (g : GrR) (hw : Wov g) (w : World) (b : Nat) (hb : IsWeb w b g) :
    Calls Tryz.prog 114 #[.pointer (some ⟨b, 0, none⟩)] w (IntsPost w (orderR g)) := by
  have hmm := @run_makeMap Tryz.prog
  have hn12 := hw.acts12
  have HB := hid hb
  have HW := hid hw
  clear hb hw
  go_enter Tryz.func114, Tryz.ntmps114
  go_wp2_with fail
  obtain ⟨W1, hW1⟩ : ∃ W1, W1 = w.alloc (.cells #[.pointer (some ⟨b, 0, none⟩)] 136) := ⟨_, rfl⟩
  obtain ⟨W2, hW2⟩ : ∃ W2, W2 = W1.alloc (.map #[] 0) := ⟨_, rfl⟩
  obtain ⟨W3, hW3⟩ : ∃ W3, W3 = W2.alloc (.cells #[.map (some (w.heap.size + 1))] 139) := ⟨_, rfl⟩
  obtain ⟨W4, hW4⟩ : ∃ W4, W4 = W3.alloc (.cells #[.func (.func 133) #[] #[.pointer (some ⟨w.heap.size, 0, none⟩), .pointer (some ⟨w.heap.size + 1 + 1, 0, none⟩)]] 116) := ⟨_, rfl⟩
  have z1 : W1.heap.size = w.heap.size + 1 := by rw [hW1]; simp
  have z2 : W2.heap.size = w.heap.size + 1 + 1 := by rw [hW2]; simp [z1]
  have z3 : W3.heap.size = w.heap.size + 1 + 1 + 1 := by rw [hW3]; simp [z2]
  have z4 : W4.heap.size = w.heap.size + 1 + 1 + 1 + 1 := by rw [hW4]; simp [z3]
  have hch4 : Chg (fun _ => False) w W4 := by rw [hW4, hW3, hW2, hW1]; exact ((((Chg.refl _ w).alloc _).alloc _).alloc _).alloc _
  have p4 : W4.cell? ⟨w.heap.size, 0, none⟩ = some (.pointer (some ⟨b, 0, none⟩)) := by
    rw [hW4, hW3, hW2]
    exact cell_alloc' (cell_alloc' (cell_alloc' (by rw [hW1]; exact cell_of (heap_alloc_new' w _) 0) _) _) _
  have m4 : MapL W4 (w.heap.size + 1) nmV boolV (doneL g []) := by
    have h : MapL W2 W1.heap.size nmV boolV (doneL g []) := hW2 ▸ MapL.fresh W1
    rw [z1] at h
    rw [hW4, hW3]
    exact (h.al _).al _
  have d4 : W4.cell? ⟨w.heap.size + 1 + 1, 0, none⟩ = some (.map (some (w.heap.size + 1))) := by
    rw [hW4, hW3, ← z2]
    exact cell_alloc' (cell_of (heap_alloc_new' W2 _) 0) _
  have f4 : W4.cell? ⟨w.heap.size + 1 + 1 + 1, 0, none⟩ = some (.func (.func 133) #[] #[.pointer (some ⟨w.heap.size, 0, none⟩), .pointer (some ⟨w.heap.size + 1 + 1, 0, none⟩)]) := by
    rw [hW4, ← z3]
    exact cell_of (heap_alloc_new' W3 _) 0
  rw [← hW1, ← hW2, ← hW3, ← hW4]
  obtain ⟨bp, hbp⟩ : ∃ bp, bp = w.heap.size := ⟨_, rfl⟩
  obtain ⟨rd, hrd⟩ : ∃ rd, rd = w.heap.size + 1 := ⟨_, rfl⟩
  obtain ⟨bd, hbd⟩ : ∃ bd, bd = w.heap.size + 1 + 1 := ⟨_, rfl⟩
  obtain ⟨bf, hbf⟩ : ∃ bf, bf = w.heap.size + 1 + 1 + 1 := ⟨_, rfl⟩
  rw [← hbf, ← hbd, ← hrd, ← hbp]
  rw [← hbp] at p4
  rw [← hrd] at m4
  rw [← hbd, ← hrd] at d4
  rw [← hbf, ← hbd, ← hbp] at f4
  clear hW1 hW2 hW3 hW4 W1 W2 W3 z1 z2 z3 hmm
  have hfar : ∀ W, Chg (fun k => k = rd) W4 W → Chg (fun _ => False) w W := fun W hW => hch4.trans hW (fun i hi h => by omega)
  have hcp : ∀ W, Chg (fun k => k = rd) W4 W → W.cell? ⟨bp, 0, none⟩ = some (.pointer (some ⟨b, 0, none⟩)) := fun W hW => hW.cell p4 (by show ¬ bp = rd; omega)
  have hcd : ∀ W, Chg (fun k => k = rd) W4 W → W.cell? ⟨bd, 0, none⟩ = some (.map (some rd)) := fun W hW => hW.cell d4 (by show ¬ bd = rd; omega)
  have hcf : ∀ W, Chg (fun k => k = rd) W4 W → W.cell? ⟨bf, 0, none⟩ = some (.func (.func 133) #[] #[.pointer (some ⟨bp, 0, none⟩), .pointer (some ⟨bd, 0, none⟩)]) := fun W hW => hW.cell f4 (by show ¬ bf = rd; omega)
  obtain ⟨sv, av, iv, r, lm, hb⟩ := HB.out
  have hca : ∀ W, Chg (fun k => k = rd) W4 W → W.cell? ⟨b, 1, none⟩ = some av := fun W hW => cell_of ((hfar W hW).obj hb.blk (fun h => h)) 1
  have HF := hid hfar
  have HCP := hid hcp
  have HCD := hid hcd
  have HCF := hid hcf
  have HCA := hid hca
  have HBA := hid hb
  have HM4 := hid m4
  have HZ : Hid (rd < W4.heap.size) := by show rd < W4.heap.size; omega
  clear hfar hcp hcd hcf hca hb m4 p4 d4 f4 hch4 z4 hbp hrd hbd hbf
  go_loopw [2] (fun v wr => ∃ (l : List Nat) (x : Value), x = v ∧ Ordd g l ∧ orderR g = orderGo g (g.acts.length - l.length) l ∧ wr.ownsRow 0 3 1 v l.length (l.map natV) ∧ (∀ k, v.ownBlock = some k → W4.heap.size ≤ k) ∧ MapL wr rd nmV boolV (doneL g l) ∧ Chg (fun k => k = rd) W4 wr) (fun v _ => g.acts.length - lenOf v)
  case atStart => exact ⟨[], _, rfl, Ordd.nil g, rfl, World.ownsRow_nil _ _ _ _, (fun k h => by cases h), HM4.out, Chg.refl _ _⟩
  case round =>
    obtain ⟨l, v, hv, ho, hgo, hown, hbl, hm, hch⟩ := hrel
    subst hv
    have HO := hid ho
    have HGO := hid hgo
    have HOWN := hid hown
    have HBL := hid hbl
    have HM := hid hm
    have HC := hid hch
    clear ho hgo hown hbl hm hch
    have q1 := HCP.out _ HC.out
    have q2 := HCA.out _ HC.out
    have hix := ixa_ready (some ⟨bd, 0, none⟩) (some ⟨bf, 0, none⟩) (readyB g l) av g.acts iv wr (HBA.out.acts.chg (HF.out _ HC.out) (fun _ _ h => h)) (fun k hk W hW =>
      ready_any g HW.out l g.acts[k] (iv k) (List.getElem_mem hk) W bp bd b rd bf (hW.cell q1 (fun h => h)) ((HB.out.chg (HF.out _ HC.out) (fun _ _ h => h)).chg hW (fun _ _ h => h)) (hW.cell (HCD.out _ HC.out) (fun h => h)) (HM.out.chg hW (fun h => h)) (hW.cell (HCF.out _ HC.out) (fun h => h))
        (by
          have := (HBA.out.acts.ins k hk)
          rw [getD_of_lt _ _ _ hk] at this
          exact (this.chg (HF.out _ HC.out) (fun _ _ h => h)).chg hW (fun _ _ h => h)))
    rw [stepR_place] at hix
    cases hs : stepR g l with
    | none =>
      rw [hs] at hix
      have HE : Hid (orderR g = l) := by
        show orderR g = l
        rw [HGO.out]
        cases g.acts.length - l.length with
        | zero => rfl
        | succ n => unfold orderGo; rw [hs]
      clear hs
      go_wp2_with (go_at_call 135; refine hix.mono ?_; rintro e w5 ⟨rfl, hc5⟩)
      go_ret
      refine ⟨(HF.out _ HC.out).trans hc5 (fun _ _ h => h), _, rfl, ?_⟩
      rw [HE.out]
      exact hc5.owns HOWN.out (fun _ _ h => h)
    | some i =>
      rw [hs] at hix
      have hix2 : Calls Tryz.prog 135 #[av, .func (.func 134) #[] #[.pointer (some ⟨bd, 0, none⟩), .pointer (some ⟨bf, 0, none⟩)]] wr (Rets (.int .i64 (i : Int)) (Chg (fun _ => False) wr)) := hix
      have hi := (stepR_some hs).1
      have ho2 := HO.out.snoc hs
      have hle := ho2.le
      simp at hle
      have HO2 := hid ho2
      have HGO2 : Hid (orderR g = orderGo g (g.acts.length - (l ++ [i]).length) (l ++ [i])) := by
        show orderR g = _
        rw [HGO.out]
        obtain ⟨n, hn⟩ : ∃ n, g.acts.length - l.length = n + 1 := ⟨g.acts.length - l.length - 1, by omega⟩
        rw [hn]
        have : g.acts.length - (l ++ [i]).length = n := by simp; omega
        rw [this]
        conv => lhs; unfold orderGo
        rw [hs]
      have hi0 : ¬ ((i : Int) < 0) := by omega
      clear hs hix ho2
      go_wp2_with (first | (go_at_call 135; refine hix2.mono ?_; rintro e w5 ⟨rfl, hc5⟩; have hown5 := hc5.owns HOWN.out (fun _ _ h => h)) | (refine wpList_append_new rfl _ _ 75 rfl elInt hown5 rfl _ 1 1 rfl rfl rfl (by unfold maxLen; omega) (by omega) (by decide) ?_; intro g6 cap6 w6 hown6 hch6 hg6))
      have hC6 : Chg (fun k => k = rd) W4 w6 := ((HC.out.trans hc5 (fun _ _ h => h.elim)).trans hch6 (fun j hj h => absurd (HBL.out j h) (by omega)))
      have hC56 : Chg (fun k => v.ownBlock = some k) wr w6 := (hc5.mono (fun _ _ h => h.elim)).trans hch6 (fun _ _ h => h)
      have hM6 : MapL w6 rd nmV boolV (doneL g l) := HM.out.chg hC56 (fun h => by have := HBL.out _ h; have := HZ.out; omega)
      obtain ⟨bb, oo, hiy, hlt, e0, _, _, _, _, _⟩ := (HBA.out.acts.chg (HF.out _ hC6) (fun _ _ h => h)).at i hi
      have y1 := HCP.out _ hC6
      have y2 := HCA.out _ hC6
      have y3 := HCD.out _ hC6
      have HC6 := hid hC6
      have HM6 := hid hM6
      have HNM := hid (nameAt_lt g i hi)
      have HOW6 := hid hown6
      have HG6 : Hid (W4.heap.size ≤ g6) := by
        show W4.heap.size ≤ g6
        rcases hg6 with h | h
        · exact HBL.out _ h
        · have h1 := HC.out.size; have h2 := hc5.size; omega
      clear hC6 hC56 hM6 hown6 hch6 hg6 hown5 hc5 hix2
      generalize hnm : g.acts[i].name = nm at *
      have HN2 := hid hnm
      clear hnm
      go_still_tail 11, (by kernel_rfl)
      change wpList _ _ _ _ _ w6.drew
      refine wpList_mapUpdate_l rfl _ _ _ 139 rfl keyNm Tryz.underlying139 (show MapL w6.drew rd nmV boolV _ from HM6.out) rfl nm rfl true rfl ?_
      intro w7 hm7 hc7
      go_frame
      go_wp2_with fail
      go_roundw
      case rel =>
        refine ⟨l ++ [i], _, rfl, HO2.out, HGO2.out, ?_, ?_, ?_, HC6.out.drew.trans hc7 (fun _ _ h => h)⟩
        · have h1 := hc7.owns (show w6.drew.ownsRow _ _ _ _ _ _ from HOW6.out) (fun k hk => by
            simp [Value.ownBlock] at hk; have := HG6.out; have := HZ.out; omega)
          simpa using h1
        · intro k hk
          simp [Value.ownBlock] at hk
          have := HG6.out
          omega
        · rw [doneL_snoc, HNM.out]
          exact hm7
      case measure =>
        have h1 := owns_lenOf HOWN.out
        simp [lenOf] at h1 ⊢
        omega

def CheckedPost (w : World) (g : GrR) (e : Ending) (w' : World) : Prop :=
  Chg (fun _ => False) w w' ∧ ((checkR g = 0 ∧ ∃ b, e = .returned (.tuple #[.pointer (some ⟨b, 0, none⟩), .int .i64 0]) ∧ IsWeb w' b g) ∨ (checkR g ≠ 0 ∧ e = .returned (.tuple #[.pointer none, .int .i64 (checkR g)])))
set_option maxRecDepth 100000 in
set_option maxHeartbeats 4000000 in
theorem checked_any (g : GrR) (v : Value) (w : World) (hg : GrAt w v g) : Calls Tryz.prog 73 #[v] w (CheckedPost w g) := by
  obtain ⟨oa, c, ob, d, iv, rfl, hs, ha⟩ := hg.form
  have hC1 : Chg (fun _ => False) w (w.alloc (.cells #[.slice oa g.srcs.length c, .slice ob g.acts.length d] 25)) := (Chg.refl _ w).alloc _
  have k1 := heap_alloc_new' w (.cells #[.slice oa g.srcs.length c, .slice ob g.acts.length d] 25)
  have hwv := woven_any g _ _ (hg.chg hC1 (fun _ _ h => h))
  have hmx := ha.rows.le
  unfold maxLen at hmx
  have HC1 := hid hC1
  have HK := hid k1
  clear hs ha hg hC1 k1
  unfold WovenPost at hwv
  by_cases hwz : wovenR g = 0
  · have HW := hid (wovenR_zero.1 hwz)
    have HWZ := hid hwz
    have HR : Hid (checkR g = if (orderR g).length ≠ g.acts.length then 23 else 0) := by show checkR g = _; unfold checkR; rw [if_neg (by simp [hwz])]
    have hwv2 : Calls Tryz.prog 113 #[.agg #[.slice oa g.srcs.length c, .slice ob g.acts.length d]] (w.alloc (.cells #[.slice oa g.srcs.length c, .slice ob g.acts.length d] 25)) (fun e w' => ∃ b, e = .returned (.tuple #[.pointer (some ⟨b, 0, none⟩), .int .i64 0]) ∧ Chg (fun _ => False) (w.alloc (.cells #[.slice oa g.srcs.length c, .slice ob g.acts.length d] 25)) w' ∧ IsWeb w' b g) :=
      hwv.mono (fun e w' ⟨h1, h2⟩ => by
        rcases h2 with ⟨_, b, h3, h4⟩ | ⟨h3, _⟩
        · exact ⟨b, h3, h1, h4⟩
        · exact absurd hwz h3)
    have HLN := hid (orderR_ordd g).le
    clear hwv hwz
    by_cases hfull : (orderR g).length = g.acts.length
    · go_enter Tryz.func73, Tryz.ntmps73
      go_wp2_with (go_at_call 113; refine hwv2.mono ?_; rintro e w2 ⟨b, rfl, hc2, hb2⟩; have HC2 := hid hc2; have HB2 := hid hb2; clear hc2 hb2)
      have k2 := cell_of (HC2.out.obj HK.out (fun h => h)) 1
      simp at k2
      have hord := order_any g HW.out w2.drew b (HB2.out.chg ((Chg.refl (fun _ => False) w2).drew) (fun _ _ h => h))
      have k2d : w2.drew.cell? ⟨w.heap.size, 1, none⟩ = some (.slice ob g.acts.length d) := k2
      unfold IntsPost at hord
      rw [hfull] at hord
      clear hwv2
      go_region_held3 (fun W => W.cell? ⟨w.heap.size, 1, none⟩ = some (.slice ob g.acts.length d)) (first | exact k2 | exact k2d | exact hc3.cell k2d (fun h => h) | go_keep) (first | (go_at_call 114; refine hord.mono ?_; rintro e w3 ⟨hc3, v3, rfl, hown3⟩; obtain ⟨o3, cap3, rfl⟩ := owns_form hown3; have HC3 := hid hc3))
      go_wp2_with fail
      go_ret2
      have hz : checkR g = 0 := by rw [HR.out, if_neg (by simp [hfull])]
      exact ⟨(HC1.out.trans HC2.out (fun _ _ h => h)).drew.trans HC3.out (fun _ _ h => h), .inl ⟨hz, b, rfl, HB2.out.chg (((Chg.refl (fun _ => False) w2).drew).trans HC3.out (fun _ _ h => h)) (fun _ _ h => h)⟩⟩
    · have hne : ¬ ((orderR g).length : Int) = (g.acts.length : Int) := by omega
      go_enter Tryz.func73, Tryz.ntmps73
      go_wp2_with (go_at_call 113; refine hwv2.mono ?_; rintro e w2 ⟨b, rfl, hc2, hb2⟩; have HC2 := hid hc2; have HB2 := hid hb2; clear hc2 hb2)
      have k2 := cell_of (HC2.out.obj HK.out (fun h => h)) 1
      simp at k2
      have hord := order_any g HW.out w2.drew b (HB2.out.chg ((Chg.refl (fun _ => False) w2).drew) (fun _ _ h => h))
      have k2d : w2.drew.cell? ⟨w.heap.size, 1, none⟩ = some (.slice ob g.acts.length d) := k2
      unfold IntsPost at hord
      have hz : checkR g = 23 := by rw [HR.out, if_pos hfull]
      have HZ := hid hz
      clear hwv2 hz hfull
      generalize orderR g = ol at *
      generalize ol.length = on at *
      go_region_held3 (fun W => W.cell? ⟨w.heap.size, 1, none⟩ = some (.slice ob g.acts.length d)) (first | exact k2 | exact k2d | exact hc3.cell k2d (fun h => h) | go_keep) (first | (go_at_call 114; refine hord.mono ?_; rintro e w3 ⟨hc3, v3, rfl, hown3⟩; obtain ⟨o3, cap3, rfl⟩ := owns_form hown3; have HC3 := hid hc3))
      go_wp2_with fail
      go_ret2
      exact ⟨(HC1.out.trans HC2.out (fun _ _ h => h)).drew.trans HC3.out (fun _ _ h => h), .inr ⟨by rw [HZ.out]; decide, by rw [HZ.out]; rfl⟩⟩
  · have hwv2 : Calls Tryz.prog 113 #[.agg #[.slice oa g.srcs.length c, .slice ob g.acts.length d]] (w.alloc (.cells #[.slice oa g.srcs.length c, .slice ob g.acts.length d] 25)) (Rets (.tuple #[.pointer none, .int .i64 (wovenR g)]) (Chg (fun _ => False) (w.alloc (.cells #[.slice oa g.srcs.length c, .slice ob g.acts.length d] 25)))) :=
      hwv.mono (fun e w' ⟨h1, h2⟩ => by
        rcases h2 with ⟨h3, _⟩ | ⟨_, h3⟩
        · exact absurd h3 hwz
        · exact ⟨h3, h1⟩)
    have HR : Hid (checkR g = wovenR g) := by show checkR g = _; unfold checkR; rw [if_pos hwz]
    have HN := hid hwz
    have hne : ((wovenR g : Int) == 0) = false := by simp; omega
    clear hwv hwz
    generalize wovenR g = n at *
    go_enter Tryz.func73, Tryz.ntmps73
    go_wp2_with (go_at_call 113; refine hwv2.mono ?_; rintro e w2 ⟨rfl, hc2⟩; have HC2 := hid hc2; clear hc2)
    all_goals go_region
    all_goals go_wp2_with fail
    all_goals go_ret2
    all_goals exact ⟨(HC1.out.trans HC2.out (fun _ _ h => h)).drew, .inr ⟨by rw [HR.out]; exact HN.out, by rw [HR.out]; rfl⟩⟩
end Go.Proofs.YthglfmacjoecgaaGreatDoor
namespace Go.Proofs.YthglfmacjoecgaaGreatDoor
open Go.RowKit

/-- Order's answer. -/
def ordR (g : GrR) : List Nat := if checkR g = 0 then orderR g else []
set_option maxRecDepth 100000 in
set_option maxHeartbeats 1000000 in
theorem tcheck_any (g : GrR) (v : Value) (w : World) (hg : GrAt w v g) : Calls Tryz.prog 88 #[v] w (Rets (.int .i64 (checkR g)) (Chg (fun _ => False) w)) := by
  obtain ⟨oa, c, ob, d, iv, rfl, hs, ha⟩ := hg.form
  have hC1 : Chg (fun _ => False) w (w.alloc (.cells #[.slice oa g.srcs.length c, .slice ob g.acts.length d] 25)) := (Chg.refl _ w).alloc _
  have hwv : Calls Tryz.prog 73 #[.agg #[.slice oa g.srcs.length c, .slice ob g.acts.length d]] (w.alloc (.cells #[.slice oa g.srcs.length c, .slice ob g.acts.length d] 25)) (fun e w' => ∃ p, e = .returned (.tuple #[.pointer p, .int .i64 (checkR g)]) ∧ Chg (fun _ => False) (w.alloc (.cells #[.slice oa g.srcs.length c, .slice ob g.acts.length d] 25)) w') :=
    (checked_any g _ _ (hg.chg hC1 (fun _ _ h => h))).mono (fun e w' ⟨h1, h2⟩ => by
      rcases h2 with ⟨h0, b, h3, _⟩ | ⟨_, h3⟩
      · exact ⟨some ⟨b, 0, none⟩, by rw [h3, h0]; rfl, h1⟩
      · exact ⟨none, h3, h1⟩)
  clear hs ha hg
  generalize checkR g = n at *
  go_enter Tryz.func88, Tryz.ntmps88
  go_wp2_with (go_at_call 73; refine hwv.mono ?_; rintro e w2 ⟨p, rfl, hc2⟩)
  go_ret
  exact ⟨rfl, hC1.trans hc2 (fun _ _ h => h)⟩
set_option maxRecDepth 100000 in
set_option maxHeartbeats 1000000 in
theorem torder_any (g : GrR) (v : Value) (w : World) (hg : GrAt w v g) : Calls Tryz.prog 78 #[v] w (IntsPost w (ordR g)) := by
  obtain ⟨oa, c, ob, d, iv, rfl, hs, ha⟩ := hg.form
  have hC1 : Chg (fun _ => False) w (w.alloc (.cells #[.slice oa g.srcs.length c, .slice ob g.acts.length d] 25)) := (Chg.refl _ w).alloc _
  have hwv := checked_any g _ _ (hg.chg hC1 (fun _ _ h => h))
  unfold CheckedPost at hwv
  clear hs ha hg
  by_cases hz : checkR g = 0
  · have hw := (can_iff.1 hz).w
    have hr : ordR g = orderR g := by unfold ordR; rw [if_pos hz]
    have hwv2 : Calls Tryz.prog 73 #[.agg #[.slice oa g.srcs.length c, .slice ob g.acts.length d]] (w.alloc (.cells #[.slice oa g.srcs.length c, .slice ob g.acts.length d] 25)) (fun e w' => ∃ b, e = .returned (.tuple #[.pointer (some ⟨b, 0, none⟩), .int .i64 0]) ∧ Chg (fun _ => False) (w.alloc (.cells #[.slice oa g.srcs.length c, .slice ob g.acts.length d] 25)) w' ∧ IsWeb w' b g) :=
      hwv.mono (fun e w' ⟨h1, h2⟩ => by
        rcases h2 with ⟨_, b, h3, h4⟩ | ⟨h3, _⟩
        · exact ⟨b, h3, h1, h4⟩
        · exact absurd hz h3)
    have HW := hid hw
    rw [hr]
    clear hz hr hwv hw
    go_enter Tryz.func78, Tryz.ntmps78
    go_wp2_with (first | (go_at_call 73; refine hwv2.mono ?_; rintro e w2 ⟨b, rfl, hc2, hb2⟩; have HB2 := hid hb2; clear hb2) | (go_at_call 114; refine (order_any g HW.out _ _ HB2.out).mono ?_; rintro e w3 ⟨hc3, v3, rfl, hown3⟩))
    go_ret
    exact ⟨(hC1.trans hc2 (fun _ _ h => h)).trans hc3 (fun _ _ h => h), v3, rfl, hown3⟩
  · have hr : ordR g = [] := by unfold ordR; rw [if_neg hz]
    have hwv2 : Calls Tryz.prog 73 #[.agg #[.slice oa g.srcs.length c, .slice ob g.acts.length d]] (w.alloc (.cells #[.slice oa g.srcs.length c, .slice ob g.acts.length d] 25)) (Rets (.tuple #[.pointer none, .int .i64 (checkR g)]) (Chg (fun _ => False) (w.alloc (.cells #[.slice oa g.srcs.length c, .slice ob g.acts.length d] 25)))) :=
      hwv.mono (fun e w' ⟨h1, h2⟩ => by
        rcases h2 with ⟨h3, _⟩ | ⟨_, h3⟩
        · exact absurd h3 hz
        · exact ⟨h3, h1⟩)
    have hne : ((checkR g : Int) == 0) = false := by simp; omega
    have hne2 : ¬ (checkR g : Int) = 0 := by omega
    rw [hr]
    clear hz hr hwv
    generalize checkR g = n at *
    go_enter Tryz.func78, Tryz.ntmps78
    go_wp2_with (go_at_call 73; refine hwv2.mono ?_; rintro e w2 ⟨rfl, hc2⟩)
    go_ret
    exact ⟨hC1.trans hc2 (fun _ _ h => h), _, rfl, World.ownsRow_nil _ _ _ _⟩
end Go.Proofs.YthglfmacjoecgaaGreatDoor
namespace Go.Proofs.YthglfmacjoecgaaGreatDoor
open Go.RowKit

/-- v is a slice of the values xs; they lie in a block that may be written. -/
def QRow (w : World) (e : TypeId) (v : Value) (xs : List Value) : Prop :=
  (v = .slice none 0 0 ∧ xs = []) ∨ ∃ g o cap cur, v = .slice (some ⟨g, o, none⟩) xs.length cap ∧ w.heap[g]? = some (.cells cur e (0, 0)) ∧ xs.length ≤ cap ∧ cap ≤ maxLen ∧ o + cap ≤ cur.size ∧ (cur.toList.drop o).take xs.length = xs
section
variable {P : Program} {w w' : World} {e : TypeId} {v : Value} {xs : List Value}
theorem QRow.of_owns {n : Nat} (h : w.ownsRow 0 e 1 v n xs) : QRow w e v xs := by
  obtain ⟨hl, h⟩ := h
  rcases h with ⟨rfl, rfl⟩ | ⟨g, cap, cur, rfl, _, hg, hnc, hcm, hcs, ht⟩
  · exact .inl ⟨rfl, List.length_eq_zero_iff.1 (by simpa using hl)⟩
  · have hl : xs.length = n := by simpa using hl
    subst hl
    exact .inr ⟨g, 0, cap, cur, rfl, hg, hnc, hcm, by rw [hcs]; omega, by simpa using ht⟩
theorem QRow.chg {F : Nat → Prop} (h : QRow w e v xs) (hc : Chg F w w') (hn : ∀ k, v.ownBlock = some k → ¬ F k) : QRow w' e v xs := by
  rcases h with h | ⟨g, o, cap, cur, rfl, hg, r⟩
  · exact .inl h
  · exact .inr ⟨g, o, cap, cur, rfl, hc.obj hg (hn g rfl), r⟩
theorem QRow.lt (h : QRow w e v xs) : ∀ k, v.ownBlock = some k → k < w.heap.size := by
  rcases h with ⟨rfl, _⟩ | ⟨g, o, cap, cur, rfl, hg, _⟩
  · intro k hk; cases hk
  · intro k hk
    simp [Value.ownBlock] at hk
    subst hk
    exact heap_lt hg
/-- One that is not empty: its first element, and what is left behind it. -/
theorem QRow.uncons {x : Value} {ys : List Value} (h : QRow w e v (x :: ys)) : ∃ g o cap, v = .slice (some ⟨g, o, none⟩) (ys.length + 1) cap ∧ ys.length + 1 ≤ cap ∧ cap ≤ maxLen ∧ w.cell? ⟨g, o, none⟩ = some x ∧ g < w.heap.size ∧
    QRow w e (.slice (some ⟨g, if cap = 1 then o else o + 1, none⟩) ys.length (cap - 1)) ys := by
  rcases h with ⟨_, h⟩ | ⟨g, o, cap, cur, hv, hg, hl, hm, hcs, ht⟩
  · cases h
  · simp only [List.length_cons] at hv hl ht
    have ho : o < cur.toList.length := by rw [Array.length_toList]; omega
    rw [List.drop_eq_getElem_cons ho, List.take_succ_cons, List.cons.injEq] at ht
    refine ⟨g, o, cap, hv, hl, hm, ?_, heap_lt hg, .inr ?_⟩
    · rw [cell_of hg o, ← ht.1]
      simp only [Array.getElem_toList]
      exact Array.getElem?_eq_getElem (by simpa using ho)
    · by_cases hc : cap = 1
      · have hy : ys = [] := List.length_eq_zero_iff.1 (by omega)
        subst hy hc
        exact ⟨g, o, 0, cur, rfl, hg, Nat.zero_le _, Nat.zero_le _, by omega, by simp⟩
      · refine ⟨g, o + 1, cap - 1, cur, by rw [if_neg hc], hg, by omega, by omega, by omega, ht.2⟩

theorem run_tail {t : TypeId} (ht : P.underlying t = some (.slice e)) (hs : ∀ w, (sizeOf e).run P w = .ok 1 w) (g o n cap : Nat) (hn : n + 1 ≤ cap) (hc : cap ≤ maxLen) (W : World) :
    (Instr.slice t (.slice (some ⟨g, o, none⟩) (n + 1) cap) (some (.int .i64 1)) none none).run P W = .ok (.slice (some ⟨g, if cap = 1 then o else o + 1, none⟩) n (cap - 1)) W := by
  unfold maxLen at hc
  have hb : (Instr.sliceBound (.int .i64 1) (n + 1) .sliceB).run P W = .ok 1 W := by
    have h1 : (1 : Int) ≤ ((n + 1 : Nat) : Int) := by omega
    simp [Instr.sliceBound, asIntOf, -Int.natCast_add, h1]
  by_cases h : cap = 1
  · subst h
    have : n = 0 := by omega
    subst this
    simp [Instr.slice, run_underlying ht, Instr.sliceBounds, hs, hb]
  · have hadd : (⟨g, o, none⟩ : Addr).add 1 = ⟨g, o + 1, none⟩ := by unfold Addr.add; simp
    simp [Instr.slice, run_underlying ht, Instr.sliceBounds, hs, hb, h, hadd]
theorem run_append_at (t ty : TypeId) (i : TypeInfo) (ht : P.underlying t = some (.slice e)) (hi : P.info? e = some i) (h1s : i.size = 1)
    (g o n cap : Nat) (cur : Array Value) (hg : w.heap[g]? = some (.cells cur e (0, 0)))
    (a : Addr) (m c : Nat) (news : List Value) (hl : news.length = m) (hnews : ∀ j u, news[j]? = some u → w.cell? (a.add j) = some u) (h1 : ∀ u ∈ news, u.oneCell' = true)
    (hroom : n + m ≤ cap) (hfit : o + n + news.length ≤ cur.size) :
    (Builtin.append_ #[t, t] ty #[.slice (some ⟨g, o, none⟩) n cap, .slice (some a) m c]).run P w =
      .ok (.slice (some ⟨g, o, none⟩) (n + m) cap) (w.setRow g (cur.toList.take (o + n) ++ news ++ cur.toList.drop (o + n + news.length)).toArray) := by
  have hf := run_firstCells_some (P := P) w i.size m a m c news (by rw [hl, h1s]; omega) hnews
  have hst := run_storeCells_at P g (o + n) e news 0 cur w hg (by simpa using hfit) h1
  simp only [Nat.add_zero] at hst
  rw [h1s] at hf
  have hadd : (⟨g, o, none⟩ : Addr).add n = ⟨g, o + n, none⟩ := by unfold Addr.add; split <;> simp_all
  simp [Builtin.append_, run_underlying ht, sizeOf, typeInfo, hi, Builtin.lenOf, hroom, h1s, hf, hadd, hst]

theorem QRow.append {t : TypeId} {bytes : Nat} (T : ElT P t e 1 bytes) (h : QRow w e v xs) (ty : TypeId)
    (a : Addr) (m c : Nat) (news : List Value) (hl : news.length = m) (hnews : ∀ j u, news[j]? = some u → w.cell? (a.add j) = some u) (h1 : ∀ u ∈ news, u.oneCell' = true)
    (h63 : xs.length + m ≤ maxLen) (hbytes : (xs.length + m) * bytes ≤ 140737488355328) :
    ∃ v' w', (Builtin.append_ #[t, t] ty #[v, .slice (some a) m c]).run P w = .ok v' w' ∧ QRow w' e v' (xs ++ news) ∧ Chg (fun k => v.ownBlock = some k) w w' ∧ (∀ k, v'.ownBlock = some k → v.ownBlock = some k ∨ w.heap.size ≤ k) := by
  obtain ⟨i, z, hi, hz, h2, h3, h4, _⟩ := T.info
  have T2 := T.ht
  rcases h with ⟨rfl, rfl⟩ | ⟨g, o, cap, cur, rfl, hg, hlc, hm, hcs, ht⟩
  · obtain ⟨v', w', hr, r1, r2, r3, r4⟩ := run_append_chg (P := P) w t ty e i z 1 bytes T2 hi hz h2 h3 h4 T.pos (.slice none 0 0) 0 [] (World.ownsRow_nil _ _ _ _) a m c news (by rw [hl]; omega) hnews h1 (by simpa using h63) (by simpa using hbytes)
    exact ⟨v', w', hr, QRow.of_owns r1, r2, r3⟩
  · by_cases hroom : xs.length + m ≤ cap
    · refine ⟨_, _, run_append_at t ty i T2 hi h2 g o xs.length cap cur hg a m c news hl hnews h1 hroom (by rw [hl]; omega), .inr ⟨g, o, cap, _, by rw [List.length_append, hl], setRow_heap w g cur _ e _ hg, by rw [List.length_append, hl]; exact hroom, hm, ?_, ?_⟩, ?_, fun k hk => .inl hk⟩
      · have hcl : cur.toList.length = cur.size := Array.length_toList
        simp only [List.size_toArray, List.length_append, List.length_take, List.length_drop]
        omega
      · have hcl : cur.toList.length = cur.size := Array.length_toList
        rw [List.append_assoc, List.take_add, List.append_assoc]
        have hA : (cur.toList.take o).length = o := by simp; omega
        rw [List.drop_append_of_le_length (by omega), List.drop_of_length_le (by omega), List.nil_append, ht, ← List.append_assoc]
        exact List.take_left
      · exact (Chg.refl (fun k => (Value.slice (some ⟨g, o, none⟩) xs.length cap).ownBlock = some k) w).setRow (g := g) (fun _ => rfl) _
    · obtain ⟨hlo, hh⟩ : xs.length = xs.length * i.size ∧ ∀ j u, xs[j]? = some u → w.cell? ((⟨g, o, none⟩ : Addr).add j) = some u := by
        refine ⟨by rw [h2]; omega, fun j u hj => ?_⟩
        have hadd : (⟨g, o, none⟩ : Addr).add j = ⟨g, o + j, none⟩ := by unfold Addr.add; split <;> simp_all
        rw [hadd, cell_of hg, ← Array.getElem?_toList]
        have hj2 := hj
        rw [← ht, List.getElem?_take] at hj2
        split at hj2
        · rw [List.getElem?_drop] at hj2; exact hj2
        · cases hj2
      have hgr := run_append_grow (P := P) w t ty e i z T2 hi hz ⟨g, o, none⟩ xs.length cap xs hlo hh a m c news (by rw [h2, hl]; omega) hnews (by omega) (by simp only [maxLen] at h63; omega) (growslice_fits (by omega) (by rw [h3]; exact hbytes))
      refine ⟨_, _, hgr, ?_, ((Chg.refl _ w).drew).alloc _, fun k hk => ?_⟩
      · refine .inr ⟨w.heap.size, 0, grownCap w (xs.length + m) cap e, _, by rw [List.length_append, hl], heap_alloc_new w.drew _, ?_, ?_, ?_, ?_⟩
        · rw [List.length_append, hl]; exact grownCap_ge _ _ _ _
        · exact grownCap_le_maxLen w _ _ e h63
        · have hge := grownCap_ge w (xs.length + m) cap e
          simp only [Array.size_append, List.size_toArray, size_zeroCells, h4, hl]
          omega
        · simp only [Array.toList_append, List.append_assoc, List.drop_zero]
          rw [← List.append_assoc]
          exact List.take_left
      · simp [Value.ownBlock] at hk
        exact .inr (by omega)
theorem QRow.append_none {t : TypeId} {bytes : Nat} (T : ElT P t e 1 bytes) (h : QRow w e v xs) (ty : TypeId) :
    (Builtin.append_ #[t, t] ty #[v, .slice none 0 0]).run P w = .ok v w := by
  obtain ⟨i, z, hi, hz, h2, h3, h4, _⟩ := T.info
  rcases h with ⟨rfl, rfl⟩ | ⟨g, o, cap, cur, rfl, hg, hlc, hm, hcs, ht⟩
  · simp [Builtin.append_, run_underlying T.ht, sizeOf, typeInfo, hi, Builtin.lenOf, Builtin.firstCells]
  · simp [Builtin.append_, run_underlying T.ht, sizeOf, typeInfo, hi, Builtin.lenOf, Builtin.firstCells, hlc, storeCells]
/-- A slice of strings laid behind it. -/
theorem QRow.append_strs {t : TypeId} {bytes : Nat} (T : ElT P t e 1 bytes) (h : QRow w e v xs) (ty : TypeId) {sv : Value} {ss : List ByteArray} (hs : StrsAt w sv ss)
    (h63 : xs.length + ss.length ≤ maxLen) (hbytes : (xs.length + ss.length) * bytes ≤ 140737488355328) :
    ∃ v' w', (Builtin.append_ #[t, t] ty #[v, sv]).run P w = .ok v' w' ∧ QRow w' e v' (xs ++ ss.map .string) ∧ Chg (fun k => v.ownBlock = some k) w w' ∧ (∀ k, v'.ownBlock = some k → v.ownBlock = some k ∨ w.heap.size ≤ k) := by
  rcases hs.1 with ⟨rfl, rfl⟩ | ⟨a, cap, rfl, hc⟩
  · exact ⟨v, w, h.append_none T ty, by simpa using h, Chg.refl _ _, fun k hk => .inl hk⟩
  · refine h.append T ty a ss.length cap (ss.map .string) (by simp) (fun j u hj => ?_) (fun u hu => ?_) h63 hbytes
    · rw [List.getElem?_map] at hj
      obtain ⟨y, hy, rfl⟩ := Option.map_eq_some_iff.1 hj
      obtain ⟨hlt, rfl⟩ := List.getElem?_eq_some_iff.1 hy
      exact hc j hlt
    · obtain ⟨y, _, rfl⟩ := List.mem_map.1 hu
      rfl
theorem wpList_append_q {ops : Array Oper} {rest : List Oper} {o : Oper} {a : Act} {Q : Exit → Act → World → Prop} (hgd : o.guard = none) (s x : Operand) (t : TypeId)
    (ho : o.op = .call { callee := .builtin .append, args := #[s, x], argTypes := #[t, t] }) {bytes : Nat} (T : ElT P t e 1 bytes)
    (hq : QRow w e v xs) (hs : a.eval s = v) {sv : Value} {ss : List ByteArray} (hx : a.eval x = sv) (hsrc : StrsAt w sv ss)
    (h63 : xs.length + ss.length ≤ maxLen) (hbytes : (xs.length + ss.length) * bytes ≤ 140737488355328)
    (h : ∀ v' w', QRow w' e v' (xs ++ ss.map .string) → Chg (fun k => v.ownBlock = some k) w w' → (∀ k, v'.ownBlock = some k → v.ownBlock = some k ∨ w.heap.size ≤ k) → wpList P ops Q rest (a.put o.dst v') w') :
    wpList P ops Q (o :: rest) a w :=
  wpList_plain hgd fun _ hK => by
    obtain ⟨v', w', hr, h2, h3, h4⟩ := hq.append_strs T o.type hsrc h63 hbytes
    unfold Oper.wp execOp
    simp only [ho, resolve, invoke, builtin, Sem.run_bind, Sem.run_pure, Result.andThen_ok, List.map_toArray, List.map_cons, List.map_nil, hs, hx, hr]
    exact hK _ _ (h v' w' h2 h3 h4)
end
end Go.Proofs.YthglfmacjoecgaaGreatDoor
namespace Go.Proofs.YthglfmacjoecgaaGreatDoor
open Go.RowKit Go.Maps Go.Sort Go.Shelf

def setL (K : List Nm) : List (Nm × Bool) := K.map fun s => (s, true)
theorem setL_put {K : List Nm} {s : Nm} (h : s ∉ K) : lput s true (setL K) = setL (K ++ [s]) := by
  rw [lput_new]
  · unfold setL; simp
  · unfold setL
    rw [List.map_map]
    intro hm
    obtain ⟨t, ht, e⟩ := List.mem_map.1 hm
    simp at e
    exact h (e ▸ ht)
theorem setL_val (s : Nm) : ∀ K : List Nm, (lval s (setL K)).getD false = K.contains s
  | [] => rfl
  | t :: K => by
    show (lval s ((t, true) :: setL K)).getD false = _
    rw [lval_cons]
    by_cases h : s = t
    · subst h; simp
    · rw [if_neg h, setL_val s K]
      simp [h]
/-- Block r is a map that holds the names K, each once. -/
def SetAt (w : World) (r : Nat) (K : List Nm) : Prop :=
  ∃ es clock, w.heap[r]? = some (.map es clock) ∧ es.toList.map (fun e => (e.key, e.val)) = (setL K).map (fun p => (nmV p.1, boolV p.2)) ∧ MapKept.Stamped es clock
section
variable {w w' : World} {r : Nat} {K : List Nm}
theorem SetAt.map (h : SetAt w r K) : MapL w r nmV boolV (setL K) := by obtain ⟨es, clock, h1, h2, _⟩ := h; exact ⟨es, clock, h1, h2⟩
theorem SetAt.lt (h : SetAt w r K) : r < w.heap.size := h.map.lt
theorem SetAt.chg {F : Nat → Prop} (h : SetAt w r K) (hc : Chg F w w') (hF : ¬ F r) : SetAt w' r K := by
  obtain ⟨es, clock, h1, h2⟩ := h
  exact ⟨es, clock, hc.obj h1 hF, h2⟩
theorem SetAt.fresh (w : World) : SetAt (w.alloc (.map #[] 0)) w.heap.size [] := ⟨#[], 0, heap_alloc_new w _, rfl, by simp [MapKept.Stamped]⟩
def mapLen (w : World) (r : Nat) : Nat := match w.heap[r]? with
  | some (.map es _) => es.size
  | _ => 0
theorem SetAt.len (h : SetAt w r K) : mapLen w r = K.length := by
  obtain ⟨es, clock, h1, h2, _⟩ := h
  unfold mapLen
  rw [h1]
  have := congrArg List.length h2
  simpa [setL] using this
theorem SetAt.put (h : SetAt w r K) {P : Program} {kt t e : TypeId} (KT : KeyT P kt nmV) (ht : P.underlying t = some (.map kt e)) {s : Nm} (hs : s ∉ K) :
    ∃ w', (Instr.mapUpdate t (.map (some r)) (nmV s) (boolV true)).run P w = .ok () w' ∧ SetAt w' r (K ++ [s]) ∧ Chg (fun i => i = r) w w' := by
  obtain ⟨es, clock, h1, h2, h3⟩ := h
  have hf := KT.find boolV es.toList (setL K) s w h2
  have hl : lfind s (setL K) 0 = none := by
    rw [lfind_none]
    intro p hp e
    unfold setL at hp
    obtain ⟨t, ht, rfl⟩ := List.mem_map.1 hp
    exact hs (e ▸ ht)
  rw [hl] at hf
  refine ⟨Go.ChangeMaps.setBlock w r (.map (es.push { key := nmV s, val := boolV true, born := clock }) (clock + 1)), ?_, ⟨es.push { key := nmV s, val := boolV true, born := clock }, clock + 1, ?_, ?_, ?_⟩, setBlock_chg _ _ _⟩
  · simp [Instr.mapUpdate, run_underlying ht, MapKept.run_getObj_map h1, KT.check, hf, MapKept.run_setObj_map _ h1, Go.ChangeMaps.setBlock]
  · simp only [Go.ChangeMaps.setBlock]; rw [Array.getElem?_setIfInBounds_self_of_lt (heap_lt h1)]
  · rw [show setL (K ++ [s]) = setL K ++ [(s, true)] by unfold setL; simp, List.map_append, ← h2]
    simp
  · refine MapKept.stamped_push h3 (fun x hx e => ?_)
    have hx2 : (x.key, x.val) ∈ es.toList.map (fun e => (e.key, e.val)) := List.mem_map.2 ⟨x, hx, rfl⟩
    rw [h2] at hx2
    obtain ⟨p, hp, e2⟩ := List.mem_map.1 hx2
    unfold setL at hp
    obtain ⟨t, ht, rfl⟩ := List.mem_map.1 hp
    simp only [Prod.mk.injEq] at e2
    rw [e] at e2
    have : bs t = bs s := by simpa using e2.1
    exact hs (bs_inj this ▸ ht)
theorem wpList_put_set {P : Program} {ops : Array Oper} {rest : List Oper} {o : Oper} {a : Act} {Q : Exit → Act → World → Prop} (hg : o.guard = none) (m x v : Operand) (t : TypeId) (hop : o.op = Op.mapUpdate t m x v) {kt e : TypeId} (KT : KeyT P kt nmV) (ht : P.underlying t = some (.map kt e))
    (hown : SetAt w r K) (hm : a.eval m = .map (some r)) (s : Nm) (hs : s ∉ K) (hx : a.eval x = nmV s) (hv : a.eval v = .bool true)
    (hK : ∀ w', SetAt w' r (K ++ [s]) → Chg (fun i => i = r) w w' → wpList P ops Q rest (a.put o.dst undef) w') : wpList P ops Q (o :: rest) a w := by
  refine wpList_plain hg fun K' hK' => ?_
  obtain ⟨w', hrun, r1, r2⟩ := hown.put KT ht hs
  have hrun2 : (Instr.mapUpdate t (.map (some r)) (.string (bs s)) (.bool true)).run P w = .ok () w' := hrun
  unfold Oper.wp
  simp [execOp, hop, hm, hx, hv, hrun2, Result.andThen]
  exact hK' _ _ (hK w' r1 r2)

theorem SetAt.owns (h : SetAt w r K) (hl : ∀ s ∈ K, s.length ≤ maxLen) (hn : K.length ≤ maxLen) :
    ∃ D : DataW Unit, w.ownsMap Tryz.prog 9 (plainElem Tryz.prog 4) r K.length D ∧ (strKeys D).Perm K ∧ Maps.size D = K.length := by
  obtain ⟨es, clock, h1, h2, h3⟩ := h
  have hlen : es.size = K.length := by have := congrArg List.length h2; simpa [setL] using this
  have hx : ∀ x ∈ es.toList, ∃ s ∈ K, x.key = nmV s ∧ x.val = .bool true := by
    intro x hx
    have hx2 : (x.key, x.val) ∈ es.toList.map (fun e => (e.key, e.val)) := List.mem_map.2 ⟨x, hx, rfl⟩
    rw [h2] at hx2
    obtain ⟨p, hp, e2⟩ := List.mem_map.1 hx2
    unfold setL at hp
    obtain ⟨t, ht, rfl⟩ := List.mem_map.1 hp
    simp only [Prod.mk.injEq] at e2
    exact ⟨t, ht, e2.1.symm, e2.2.symm⟩
  have hrd : ∀ x ∈ es.toList, ∃ s ∈ K, x.key = nmV s ∧ Go.WideElems.rd Tryz.prog 9 (plainElem (H := Unit) Tryz.prog 4) x = some (.string s, .lit (.bool true)) := by
    intro x hxm
    obtain ⟨s, hs, e1, e2⟩ := hx x hxm
    refine ⟨s, hs, e1, ?_⟩
    obtain ⟨key, val, born⟩ := x
    simp only at e1 e2
    subst e1 e2
    have hk : keyOf Tryz.prog 9 (nmV s) = some (.string (bs s).data.toList) := Go.WideMaps.keyOf_string_mk Tryz.underlying9 (by rw [bs_size]; exact hl s hs)
    rw [bs_data] at hk
    exact Go.WideElems.rd_mk hk (plainElem_bool Tryz.underlying4 true)
  refine ⟨_, ⟨es, clock, h1, ⟨by rw [hlen]; exact hn, h3, fun x hx => by obtain ⟨s, _, _, h⟩ := hrd x hx; exact ⟨_, h⟩⟩, by omega, rfl⟩, ?_, ?_⟩
  · have hp := Go.WideShapes.sorted_perm (es.toList.map (Go.WideElems.rg Tryz.prog 9 (plainElem (H := Unit) Tryz.prog 4)))
    have hp2 := hp.map (fun p : Lit × DataW Unit => strOf p.1)
    refine List.Perm.trans hp2 ?_
    rw [List.map_map]
    have e1 : es.toList.map ((fun p : Lit × DataW Unit => strOf p.1) ∘ Go.WideElems.rg Tryz.prog 9 (plainElem (H := Unit) Tryz.prog 4)) = es.toList.map ((fun q : Value × Value => match q.1 with | .string b => b.data.toList | _ => []) ∘ fun e => (e.key, e.val)) := by
      refine List.map_congr_left (fun x hx => ?_)
      obtain ⟨s, _, e1, e2⟩ := hrd x hx
      simp only [Function.comp, Go.WideElems.rg_of e2, e1, bs_data]
      rfl
    rw [e1, ← List.map_map, h2, List.map_map]
    unfold setL
    rw [List.map_map]
    have e3 : K.map (((fun q : Value × Value => match q.1 with | .string b => b.data.toList | _ => []) ∘ fun p : Nm × Bool => (nmV p.1, boolV p.2)) ∘ fun s => (s, true)) = K.map id := List.map_congr_left (fun s _ => by simp [bs_data])
    rw [e3, List.map_id]
  · show ((es.toList.map (Go.WideElems.rg Tryz.prog 9 (plainElem (H := Unit) Tryz.prog 4))).foldr DataW.insert []).length = _
    rw [length_sorted]
    simpa using hlen
theorem sort_rise {K l : List Nm} (hK : K.Nodup) (hl : Rise l) (hm : ∀ s, s ∈ K ↔ s ∈ l) : K.mergeSort (fun x y => decide (x ≤ y)) = l := by
  have tr : ∀ a b c : Nm, leB a b = true → leB b c = true → leB a c = true := fun a b c h1 h2 => by simp only [leB, decide_eq_true_eq] at *; exact List.le_trans h1 h2
  have tot : ∀ a b : Nm, (leB a b || leB b a) = true := fun a b => by simp only [leB, Bool.or_eq_true, decide_eq_true_eq]; exact List.le_total a b
  have hp := List.mergeSort_perm K leB
  have h1 := List.pairwise_mergeSort tr tot K
  have h2 : (K.mergeSort leB).Nodup := hp.nodup_iff.2 hK
  refine rise_ext ?_ hl (fun x => by rw [hp.mem_iff]; exact hm x)
  unfold Rise
  refine (h1.and h2).imp ?_
  rintro a b ⟨h3, h4⟩
  simp only [leB, decide_eq_true_eq] at h3
  exact nm_lt_of_le_ne h3 h4
end
theorem keys_any (mb : Option Nat) (W : World) : Calls Tryz.prog 87 #[.map mb] W fun e w' => e = .returned (.func (.func 119) #[] #[.pointer (some ⟨W.heap.size, 0, none⟩)]) ∧ w' = W.alloc (.cells #[.map mb] 139) :=
  callsIn_wide.1 (AnyZ.keys_in Tryz.keys87 Fence.wide 5 trivial rfl mb W)
theorem sorts_any (m : Nat) : AnyZ.SortsIn Tryz.prog Tryz.sorted86_ren Fence.wide m :=
  ⟨fun blk off cap ss W hH hblk hsz => callsIn_wide.2 (AnyM.slices_Sort_string Tryz.sort118 blk off cap ss W hH hblk hsz),
   fun p cap W => callsIn_wide.2 (AnyM.slices_Sort_string_none Tryz.sort118 p cap W)⟩
set_option maxHeartbeats 1000000 in
/-- slices.Sorted at what maps.Keys hands back for a set of names: the names, sorted. -/
theorem sorted_any (r : Nat) (K l : List Nm) (w : World) (h : SetAt w r K) (hlen : ∀ s ∈ K, s.length ≤ maxLen) (hn : K.length ≤ 1000000) (hK : K.Nodup) (hl : Rise l) (hm : ∀ s, s ∈ K ↔ s ∈ l) :
    Calls Tryz.prog 86 #[.func (.func 119) #[] #[.pointer (some ⟨w.heap.size, 0, none⟩)]] (w.alloc (.cells #[.map (some r)] 139)) fun e w' => ∃ v, e = .returned v ∧
      w'.ownsRow 0 9 1 v l.length (l.map nmV) ∧ Chg (fun _ => False) w w' := by
  obtain ⟨D0, hown, hD, hsz⟩ := h.owns hlen (by unfold maxLen; omega)
  have hbl := hown.lt
  have hseq : SeqGives Fence.wide 2 Tryz.prog 119 #[.pointer (some ⟨w.heap.size, 0, none⟩)] encStr (fun ss => ss.Perm (strKeys D0)) (Maps.size D0) (w.alloc (.cells #[.map (some r)] 139)) :=
    AnyZ.keys_gives (ρ := Tryz.keys87_ren) { Tryz.keys87 with } Fence.wide _ trivial rfl (by omega) w.heap.size r K.length D0 _ (by simp) (by simp) (by
      obtain ⟨es, clock, hb, Ft, hs, hD⟩ := hown
      exact ⟨es, clock, (Below.heap_alloc _ _ r hbl).trans hb, Ft, hs, hD⟩)
  have hs := AnyZ.sorted_in Tryz.sorted86 Fence.wide 5 trivial trivial trivial trivial rfl (by omega) (sorts_any _) (enters_of Tryz.func118 (by kernel_rfl) rfl) 119 #[.pointer (some ⟨w.heap.size, 0, none⟩)] trivial (enters_of Tryz.func119 (by kernel_rfl) rfl) _ _ (by rw [hsz]; unfold maxLen; omega) (by rw [hsz]; omega) _ hseq
  refine (callsIn_wide.1 hs).mono ?_
  rintro e w' ⟨v, ss, rfl, hS, hrow, _, hb⟩
  have hperm : ss.Perm K := hS.trans hD
  have hsort := sort_rise (hperm.nodup_iff.2 hK) hl (fun s => by rw [hperm.mem_iff]; exact hm s)
  have hll : ss.length = l.length := by rw [← hsort]; exact (List.mergeSort_perm ss _).length_eq.symm
  refine ⟨v, rfl, ?_, ?_⟩
  · rw [hsort, hll] at hrow
    exact ownsRow_base_a hrow (Nat.zero_le _)
  · exact (((Chg.refl (fun _ => False) w).alloc _)).trans (Chg.of_below hb) (fun i hi h => by simp at h; omega)
end Go.Proofs.YthglfmacjoecgaaGreatDoor
namespace Go.Proofs.YthglfmacjoecgaaGreatDoor
open Go.RowKit

set_option maxRecDepth 100000 in
theorem clone_any (v : Value) (ss : List Nm) (w : World) (hin : NamesAt w v ss) (hl : ss.length ≤ 1000000) :
    Calls Tryz.prog 77 #[v] w fun e w' => ∃ v', e = .returned v' ∧ QRow w' 9 v' (ss.map nmV) ∧ Chg (fun _ => False) w w' ∧ ∀ k, v'.ownBlock = some k → w.heap.size ≤ k := by
  have hs : StrsAt w v (ss.map bs) := hin
  have hm : (ss.map bs).map Value.string = ss.map nmV := by rw [List.map_map]; rfl
  rcases hs.1 with ⟨rfl, h0⟩ | ⟨a, cap, rfl, hc⟩
  · have hss : ss = [] := by simpa using h0
    subst hss
    have heq := fun W => Lib.run_eql_slice_nil_nil (P := Tryz.prog) W 0 0 Tryz.underlying22
    clear hs hin h0 hm
    go_enter Tryz.func77, Tryz.ntmps77
    go_wp2_with fail
    go_ret
    exact ⟨_, rfl, .inl ⟨rfl, rfl⟩, Chg.refl _ _, fun k h => by cases h⟩
  · have heq := fun W n => Lib.run_eql_slice_some_nil (P := Tryz.prog) W a n cap Tryz.underlying22
    have hq : QRow (w.alloc (.cells #[] 9)) 9 (.slice (some ⟨w.heap.size, 0, none⟩) 0 0) [] := .inr ⟨w.heap.size, 0, 0, #[], rfl, heap_alloc_new' w _, Nat.zero_le _, Nat.zero_le _, Nat.zero_le _, rfl⟩
    have hA : Chg (fun _ => False) w (w.alloc (.cells #[] 9)) := (Chg.refl _ w).alloc _
    have hs2 := hs.chg hA (fun _ _ h => h)
    have HS := hid hs2
    have HQ := hid hq
    have HM := hid hm
    have HL : Hid ((ss.map bs).length ≤ 1000000) := by show (ss.map bs).length ≤ 1000000; simpa using hl
    have HA := hid hA
    clear hin hs hs2 hq hm hc hA hl
    generalize ss.map bs = ssb at *
    go_enter Tryz.func77, Tryz.ntmps77
    go_wp2_with (at_builtin; refine wpList_append_q rfl _ _ 22 rfl elStr HQ.out rfl rfl HS.out (by have := HL.out; unfold maxLen; simp; omega) (by have := HL.out; simp; omega) ?_; intro v1 w1 hq1 hc1 hb1)
    go_ret
    refine ⟨v1, rfl, by rw [← HM.out]; simpa using hq1, HA.out.trans hc1 (fun i hi h => by simp [Value.ownBlock] at h; omega), fun k hk => ?_⟩
    rcases hb1 k hk with h | h
    · simp [Value.ownBlock] at h; omega
    · simp at h; omega

theorem QRow.lenOf {w : World} {e : TypeId} {v : Value} {xs : List Value} (h : QRow w e v xs) : Go.Proofs.YthglfmacjoecgaaGreatDoor.lenOf v = xs.length := by
  rcases h with ⟨rfl, rfl⟩ | ⟨g, o, cap, cur, rfl, _⟩ <;> rfl
/-- The state of the search: what has been taken up, what is still to be. -/
structure NSt (g : GrR) (i : Nat) (K todo : List Nm) : Prop where
  nd : K.Nodup
  a : ∀ s ∈ insAt g i, s ∈ K ∨ s ∈ todo
  b : ∀ t ∈ K, ∀ s ∈ actIns g t, s ∈ K ∨ s ∈ todo
  c : ∀ s, s ∈ K ∨ s ∈ todo → Needs g i s
theorem NSt.start (g : GrR) (i : Nat) : NSt g i [] (insAt g i) := ⟨List.nodup_nil, fun s h => .inr h, (fun t h => absurd h (by simp)), fun s h => by rcases h with h | h; exact absurd h (by simp); exact .base h⟩
theorem NSt.seen {g : GrR} {i : Nat} {K rest : List Nm} {s : Nm} (h : NSt g i K (s :: rest)) (hs : s ∈ K) : NSt g i K rest := by
  have key : ∀ u, u ∈ K ∨ u ∈ s :: rest → u ∈ K ∨ u ∈ rest := by
    intro u hu
    rcases hu with hu | hu
    · exact .inl hu
    · rcases List.mem_cons.1 hu with rfl | hu
      · exact .inl hs
      · exact .inr hu
  exact ⟨h.nd, fun u hu => key u (h.a u hu), fun t ht u hu => key u (h.b t ht u hu), fun u hu => h.c u (hu.imp id (List.mem_cons_of_mem _))⟩
theorem NSt.take {g : GrR} {i : Nat} {K rest : List Nm} {s : Nm} (h : NSt g i K (s :: rest)) (hs : s ∉ K) : NSt g i (K ++ [s]) (rest ++ actIns g s) := by
  have key : ∀ u, u ∈ K ∨ u ∈ s :: rest → u ∈ K ++ [s] ∨ u ∈ rest ++ actIns g s := by
    intro u hu
    rcases hu with hu | hu
    · exact .inl (List.mem_append_left _ hu)
    · rcases List.mem_cons.1 hu with rfl | hu
      · exact .inl (by simp)
      · exact .inr (List.mem_append_left _ hu)
  have hsn : Needs g i s := h.c s (.inr (by simp))
  refine ⟨?_, fun u hu => key u (h.a u hu), fun t ht u hu => ?_, fun u hu => ?_⟩
  · rw [List.nodup_append]
    exact ⟨h.nd, by simp, fun a ha b hb => by simp at hb; subst hb; intro e; exact hs (e ▸ ha)⟩
  · rcases List.mem_append.1 ht with ht | ht
    · exact key u (h.b t ht u hu)
    · simp at ht; subst ht
      exact .inr (List.mem_append_right _ hu)
  · rcases hu with hu | hu
    · rcases List.mem_append.1 hu with hu | hu
      · exact h.c u (.inl hu)
      · simp at hu; subst hu; exact hsn
    · rcases List.mem_append.1 hu with hu | hu
      · exact h.c u (.inr (List.mem_cons_of_mem _ hu))
      · exact .step hsn hu
theorem NSt.le {g : GrR} (hw : Wov g) {i : Nat} (hi : i < g.acts.length) {K todo : List Nm} (h : NSt g i K todo) : K.length ≤ 20 := by
  have h1 := sub_length K (namesL g) h.nd (fun s hs => (h.c s (.inl hs)).names hw hi)
  have h2 := hw.srcs8
  have h3 := hw.acts12
  unfold namesL at h1
  simp at h1
  omega
theorem NSt.done {g : GrR} {i : Nat} {K : List Nm} (h : NSt g i K []) (s : Nm) : s ∈ K ↔ Needs g i s :=
  needs_closed (fun s hs => (h.a s hs).resolve_right (by simp)) (fun t ht s hs => (h.b t ht s hs).resolve_right (by simp)) (fun s hs => h.c s (.inl hs)) s
theorem ins4_le {g : GrR} (hw : Wov g) (i : Nat) : (insAt g i).length ≤ 4 := by
  by_cases hi : i < g.acts.length
  · rw [insAt_lt g i hi]
    exact ((actOK_iff _).1 (((grOK_iff g).1 hw.ok).2.2.2 _ (List.getElem_mem hi))).2.2.1
  · rw [insAt_ge g i hi]; simp
def NeedsPost (g : GrR) (i : Nat) (w : World) (e : Ending) (w' : World) : Prop :=
  Chg (fun _ => False) w w' ∧ ∃ r K, e = .returned (.map (some r)) ∧ w.heap.size ≤ r ∧ SetAt w' r K ∧ K.Nodup ∧ K.length ≤ 20 ∧ ∀ s, s ∈ K ↔ Needs g i s

set_option maxRecDepth 100000 in
set_option maxHeartbeats 4000000 in
theorem needs_any (g : GrR) (hw : Wov g) (i : Nat) (hi : i < g.acts.length) (w : World) (b : Nat) (hb : IsWeb w b g) :
    Calls Tryz.prog 74 #[.pointer (some ⟨b, 0, none⟩), .int .i64 i] w (NeedsPost g i w) := by
  have hmm := @run_makeMap Tryz.prog
  obtain ⟨sv, av, iv, r, lm, hb⟩ := hb
  have hn12 := hw.acts12
  have hA : Chg (fun _ => False) w (w.alloc (.map #[] 0)) := (Chg.refl _ w).alloc _
  have k1 := cell_of (hA.obj hb.blk (fun h => h)) 1
  simp at k1
  obtain ⟨bb, oo, hix, hlt, e0, e1, e2, hns, _, _⟩ := (hb.acts.chg hA (fun _ _ h => h)).at i hi
  have hin := insAt_lt g i hi
  have hcl := clone_any (iv i) g.acts[i].ins _ hns (by have := ins4_le hw i; rw [hin] at this; omega)
  rw [← hin] at hcl
  have hset := SetAt.fresh w
  have HB := hid hb
  have HW := hid hw
  have HA := hid hA
  have HSET := hid hset
  clear hb hw hns hset hin hA e0 e2
  go_enter Tryz.func74, Tryz.ntmps74
  go_wp2_with (go_at_call 77; refine hcl.mono ?_; rintro e w2 ⟨v2, rfl, hq2, hc2, hv2⟩)
  generalize hW1 : w.alloc (.map #[] 0) = W1 at *
  have z1 : W1.heap.size = w.heap.size + 1 := by rw [← hW1]; simp
  obtain ⟨r0, hr0⟩ : ∃ r0, r0 = w.heap.size := ⟨_, rfl⟩
  rw [← hr0] at HSET z1 ⊢
  have hset2 := HSET.out.chg hc2 (fun h => h)
  have HQ2 := hid hq2
  have HC2 := hid hc2
  have HV2 : Hid (∀ k, v2.ownBlock = some k → r0 < k) := hid (fun k hk => by have := hv2 k hk; omega)
  have HS2 := hid hset2
  have HI4 := hid (ins4_le HW.out i)
  have HZ1 := hid z1
  have HR0 := hid hr0
  clear hmm hcl hq2 hc2 hv2 hset2 hW1 z1 hr0 hix e1 k1 HSET hlt
  go_loopw [6] (fun v wr => ∃ (K todo : List Nm) (x : Value), x = v ∧ NSt g i K todo ∧ (20 - K.length) * 5 + todo.length ≤ 200 ∧ QRow wr 9 x (todo.map nmV) ∧ (∀ k, x.ownBlock = some k → r0 < k) ∧ SetAt wr r0 K ∧ Chg (fun k => k = r0) W1 wr) (fun v wr => (20 - mapLen wr r0) * 5 + lenOf v)
  case atStart => exact ⟨[], insAt g i, _, rfl, NSt.start g i, (by have := HI4.out; simp; omega), HQ2.out, HV2.out, HS2.out, HC2.out.mono (fun _ _ h => h.elim)⟩
  case round =>
    obtain ⟨K, todo, v, hv, hst, hbd, hq, hbl, hset, hch⟩ := hrel
    subst hv
    have HST := hid hst
    have HBD := hid hbd
    have HBL := hid hbl
    have HSET := hid hset
    have HC := hid hch
    have HFAR : Hid (∀ W, Chg (fun k => k = r0) W1 W → Chg (fun _ => False) w W) := hid (fun W hW => HA.out.trans hW (fun i hi h => by have := HR0.out; omega))
    have k1 := cell_of ((HFAR.out _ hch).obj HB.out.blk (fun h => h)) 1
    have k2 := cell_of ((HFAR.out _ hch).obj HB.out.blk (fun h => h)) 2
    simp at k1 k2
    clear hst hbd hbl hset hch HQ2 HC2 HV2 HS2
    cases todo with
    | nil =>
      obtain ⟨oo2, c2, rfl⟩ : ∃ o c, v = .slice o 0 c := by
        rcases hq with ⟨rfl, _⟩ | ⟨g1, o1, cap1, cur1, rfl, _⟩
        · exact ⟨_, _, rfl⟩
        · exact ⟨_, _, rfl⟩
      clear hq
      go_wp2_with fail
      go_ret
      exact ⟨HFAR.out _ HC.out, r0, K, rfl, (by have := HR0.out; omega), HSET.out, HST.out.nd, HST.out.le HW.out hi, HST.out.done⟩
    | cons s rest =>
      rw [List.map_cons] at hq
      have hu := hq.uncons
      rw [List.length_map] at hu
      obtain ⟨g1, o1, cap1, rfl, hc1, hcm, hhd, hg1, hq2⟩ := hu
      have hsl := run_tail (P := Tryz.prog) Tryz.underlying22 Tryz.sizeOf9 g1 o1 rest.length cap1 hc1 hcm
      have hlenq : ∀ W ty, (Builtin.len_ #[22] ty #[.slice (some ⟨g1, o1, none⟩) (rest.length + 1) cap1]).run Tryz.prog W = .ok (.int .i64 ((rest.length : Int) + 1)) W := fun W ty => by
        simp [Builtin.len_, run_underlying Tryz.underlying22]; rfl
      generalize (if cap1 = 1 then o1 else o1 + 1) = o2 at hsl hq2
      have hpos : (0 : Int) < (rest.length : Int) + 1 := by omega
      have hixq : ∀ W, (Instr.indexAt 22 (.slice (some ⟨g1, o1, none⟩) (rest.length + 1) cap1) (.int .i64 0)).run Tryz.prog W = .ok (.pointer (some ⟨g1, o1, none⟩)) W := fun W => by
        simp [Instr.indexAt, run_underlying Tryz.underlying22, asIntOf, Tryz.sizeOf9, Addr.add]
      have HQ2 := hid hq2
      have hval := setL_val s K
      have hv2 : ((lval s (setL K)).map boolV).getD (.bool false) = .bool (K.contains s) := by
        rw [← hval]; cases lval s (setL K) <;> rfl
      have hmp := HSET.out.map
      have HMP := hid hmp
      have HO1 : Hid (r0 < g1) := by have := HBL.out g1 rfl; exact hid this
      generalize hn0 : rest.length = n0 at *
      have HN0 := hid hn0
      generalize hvv : Value.slice (some ⟨g1, o1, none⟩) (n0 + 1) cap1 = vq at *
      have HVV := hid hvv
      clear hq hq2 hval hmp hcm hn0 hvv
      by_cases hK : s ∈ K
      · have hct : K.contains s = true := by simpa using hK
        rw [hct] at hv2
        have HV := hid hv2
        have HK := hid hK
        clear hv2 hct hK
        go_wp2_with (at_lookup; refine wpList_lookup_v rfl _ _ 139 rfl keyNm Tryz.underlying139 (zeroB _) HMP.out rfl s rfl _ HV.out ?_; go_frame)
        go_roundw
        case rel =>
          exact ⟨K, rest, _, rfl, HST.out.seen HK.out, (by have := HBD.out; simp at this; omega), HQ2.out, (fun k hk => by simp [Value.ownBlock] at hk; have := HO1.out; omega), HSET.out, HC.out⟩
        case measure => rw [← HVV.out]; simp [lenOf]
      · have hct : K.contains s = false := by simpa using hK
        rw [hct] at hv2
        have HV := hid hv2
        have HK := hid hK
        have hle := HST.out.take hK |>.le HW.out hi
        simp at hle
        have hsn := HST.out.c s (.inr (by simp)) |>.names HW.out hi
        have HLE := hid hle
        have hST2 := HST.out.take hK
        clear hv2 hct hK hle
        rcases HW.out.src_or hsn with ⟨h1, h2⟩ | ⟨j, hj, h1, h2, h3⟩
        · have hai : actIns g s = [] := by unfold actIns; rw [h2]
          rw [hai, List.append_nil] at hST2
          have hv3 : ((lval s lm).map intV).getD (.int .i64 0) = .int .i64 (-1) := by rw [HB.out.look]; unfold atV; rw [h2]; simp [h1]
          have HV3 := hid hv3
          have HST2 := hid hST2
          clear hv3 hST2 hai h1 h2 hsn
          go_wp2_with (first | (at_lookup; refine wpList_lookup_v rfl _ _ 139 rfl keyNm Tryz.underlying139 (zeroB _) HMP.out rfl s rfl _ HV.out ?_) | (at_mapUpdate; refine wpList_put_set rfl _ _ _ 139 rfl keyNm Tryz.underlying139 HSET.out rfl s HK.out rfl rfl ?_; intro w5 hset5 hc5; have HC5 := hid (HC.out.trans hc5 (fun _ _ h => h)); have d2 := cell_of ((HFAR.out _ HC5.out).obj HB.out.blk (fun h => h)) 2; simp at d2) | (at_lookup; refine wpList_lookup_v rfl _ _ 148 rfl keyNm Tryz.underlying148 (zeroI _) (HB.out.map.chg (HFAR.out _ HC5.out) (fun h => h)) rfl s rfl _ HV3.out ?_))
          go_roundw
          case rel =>
            exact ⟨K ++ [s], rest, _, rfl, HST2.out, (by have := HBD.out; have := HLE.out; simp at *; omega), HQ2.out.chg hc5 (fun k hk h => by simp [Value.ownBlock] at hk; have := HO1.out; omega), (fun k hk => by simp [Value.ownBlock] at hk; have := HO1.out; omega), hset5, HC5.out⟩
          case measure =>
            rw [← HVV.out, hset5.len, HSET.out.len]
            have := HLE.out
            simp [lenOf]
            omega
        · have hai : actIns g s = insAt g j := by unfold actIns; rw [h2]
          rw [hai] at hST2
          have hv3 : ((lval s lm).map intV).getD (.int .i64 0) = .int .i64 j := by rw [HB.out.look]; unfold atV; rw [h2]; rfl
          have HV3 := hid hv3
          have HST2 := hid hST2
          have HJ := hid hj
          have hj0 : (0 : Int) ≤ (j : Int) := by omega
          have HB4 : Hid ((rest.map nmV).length + (g.acts[j].ins.map bs).length ≤ 1000) := by
            show (rest.map nmV).length + (g.acts[j].ins.map bs).length ≤ 1000
            have h4 := ins4_le HW.out j
            rw [insAt_lt g j hj] at h4
            have := HBD.out
            simp at this ⊢
            omega
          have HEQ : Hid (rest.map nmV ++ (g.acts[j].ins.map bs).map .string = (rest ++ insAt g j).map nmV) := by
            show _ = _
            rw [insAt_lt g j hj, List.map_append, List.map_map]
            rfl
          clear hv3 hST2 hai h1 h2 h3 hsn hj
          go_wp2_with (first | (at_lookup; refine wpList_lookup_v rfl _ _ 139 rfl keyNm Tryz.underlying139 (zeroB _) HMP.out rfl s rfl _ HV.out ?_) | (at_mapUpdate; refine wpList_put_set rfl _ _ _ 139 rfl keyNm Tryz.underlying139 HSET.out rfl s HK.out rfl rfl ?_; intro w5 hset5 hc5; have HC5 := hid (HC.out.trans hc5 (fun _ _ h => h)); have d1 := cell_of ((HFAR.out _ HC5.out).obj HB.out.blk (fun h => h)) 1; have d2 := cell_of ((HFAR.out _ HC5.out).obj HB.out.blk (fun h => h)) 2; simp at d1 d2; obtain ⟨b3, o3, hi3, hlt3, _, p1, _, hn3, _, _⟩ := (HB.out.acts.chg (HFAR.out _ HC5.out) (fun _ _ h => h)).at j HJ.out; have HN3 := hid hn3; clear hn3 hlt3) | (at_lookup; refine wpList_lookup_v rfl _ _ 148 rfl keyNm Tryz.underlying148 (zeroI _) (HB.out.map.chg (HFAR.out _ HC5.out) (fun h => h)) rfl s rfl _ HV3.out ?_) | (at_builtin; refine wpList_append_q rfl _ _ 22 rfl elStr (HQ2.out.chg hc5 (fun k hk h => by simp [Value.ownBlock] at hk; have := HO1.out; omega)) rfl rfl HN3.out (by have := HB4.out; unfold maxLen; omega) (by have := HB4.out; omega) ?_; intro v6 w6 hq6 hc6 hb6))
          go_roundw
          case rel =>
            refine ⟨K ++ [s], rest ++ insAt g j, _, rfl, HST2.out, ?_, Eq.mp (congrArg (QRow w6 9 v6) HEQ.out) hq6, fun k hk => ?_, hset5.chg hc6 (fun h => by simp [Value.ownBlock] at h; have := HO1.out; omega), HC5.out.trans hc6 (fun k hk h => by simp [Value.ownBlock] at h; have := HO1.out; have := HZ1.out; omega)⟩
            · have := HBD.out; have := HLE.out; have := ins4_le HW.out j; simp at *; omega
            · rcases hb6 k hk with h | h
              · simp [Value.ownBlock] at h; have := HO1.out; omega
              · have := hset5.lt; omega
          case measure =>
            have hs6 : SetAt w6 r0 (K ++ [s]) := hset5.chg hc6 (fun h => by simp [Value.ownBlock] at h; have := HO1.out; omega)
            have hl6 := hq6.lenOf
            have := HLE.out
            have := HB4.out
            have h4 := ins4_le HW.out j
            rw [insAt_lt g j HJ.out] at h4
            have := HN0.out
            rw [← HVV.out, hs6.len, HSET.out.len, hl6]
            simp [Go.Proofs.YthglfmacjoecgaaGreatDoor.lenOf]
            omega
end Go.Proofs.YthglfmacjoecgaaGreatDoor
