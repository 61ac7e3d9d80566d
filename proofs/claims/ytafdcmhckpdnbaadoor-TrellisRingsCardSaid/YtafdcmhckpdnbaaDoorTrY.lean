/- An action laid behind those that came in. -/
import Derived.Test.YtafdcmhckpdnbaaDoorTrZ
import Derived.Deep.DeepCutAuto
namespace Go.Proofs.YtafdcmhckpdnbaaDoor
open Go.RowKit

/-- The actions of a build with their inputs' values. -/
def psOf (xs : List ActR) (iv : Nat → Value) : List (ActR × Value) := (List.range xs.length).map fun i => (xs.getD i noAct, iv i)
theorem psOf_len (xs : List ActR) (iv : Nat → Value) : (psOf xs iv).length = xs.length := by simp [psOf]
theorem psOf_fst (xs : List ActR) (iv : Nat → Value) : (psOf xs iv).map Prod.fst = xs := by
  unfold psOf
  rw [List.map_map]
  apply List.ext_getElem
  · simp
  · intro i h1 h2
    simp [h2]
theorem psOf_mem {xs : List ActR} {iv : Nat → Value} {p : ActR × Value} (h : p ∈ psOf xs iv) : ∃ i, i < xs.length ∧ p = (xs.getD i noAct, iv i) := by
  obtain ⟨i, hi, rfl⟩ := List.mem_map.1 h
  exact ⟨i, List.mem_range.1 hi, rfl⟩
theorem flatA_at (ps : List (ActR × Value)) (j : Nat) : (flatA ps)[j]? = (ps[j / 3]?).bind (fun p => [strV p.1.name, p.2, strV p.1.code][j % 3]?) := by
  have := flatA_get ps (j / 3) (j % 3) (Nat.mod_lt _ (by decide))
  rwa [show j / 3 * 3 + j % 3 = j by omega] at this
/-- The cells of a row of actions that came in. -/
theorem ActsAt.src {w : World} {ad : Addr} {n c : Nat} {xs : List ActR} {iv : Nat → Value} (h : ActsAt w (.slice (some ad) n c) xs iv) : ∀ j u, (flatA (psOf xs iv))[j]? = some u → w.cell? (ad.add j) = some u := by
  intro j u hj
  rw [flatA_at] at hj
  rcases h.rows.form with ⟨h1, _⟩ | ⟨a, cap, h1, h2⟩
  · cases h1
  · simp only [Value.slice.injEq, Option.some.injEq] at h1
    obtain ⟨rfl, _, _⟩ := h1
    have hlt : j / 3 < xs.length := by
      by_cases hl : j / 3 < xs.length
      · exact hl
      · rw [List.getElem?_eq_none (by rw [psOf_len]; omega)] at hj
        cases hj
    have := h2 (j / 3) hlt (j % 3) (Nat.mod_lt _ (by decide))
    rw [show j / 3 * 3 + j % 3 = j by omega] at this
    rw [this]
    unfold psOf at hj
    simp [hlt] at hj
    simpa [hlt, strV] using hj
theorem ActsAt.one {w : World} {v : Value} {xs : List ActR} {iv : Nat → Value} (h : ActsAt w v xs iv) : ∀ u ∈ flatA (psOf xs iv), u.oneCell' = true := by
  intro u hu
  unfold flatA at hu
  obtain ⟨p, hp, hu⟩ := List.mem_flatMap.1 hu
  obtain ⟨i, hi, rfl⟩ := psOf_mem hp
  obtain ⟨o, c, hiv⟩ := (h.ins i hi).form
  simp only [List.mem_cons, List.not_mem_nil, or_false] at hu
  rcases hu with rfl | rfl | rfl
  · rfl
  · rw [hiv]; rfl
  · rfl
theorem ActsAt.names {w : World} {v : Value} {xs : List ActR} {iv : Nat → Value} (h : ActsAt w v xs iv) : ∀ p ∈ psOf xs iv, NamesAt w p.2 p.1.ins ∧ p.1.name.length ≤ maxLen ∧ p.1.code.length ≤ maxLen := by
  intro p hp
  obtain ⟨i, hi, rfl⟩ := psOf_mem hp
  refine ⟨h.ins i hi, ?_⟩
  rw [getD_of_lt _ _ _ hi]
  exact h.wide _ (List.getElem_mem hi)
/-- 'append(s, x ..)', the elements lying anywhere. -/
theorem wpList_append_src {P : Program} {w : World} {ops : Array Oper} {rest : List Oper} {o : Oper} {a : Act} {Q : Exit → Act → World → Prop} (hgd : o.guard = none) (s x : Operand) (t : TypeId)
    (ho : o.op = .call { callee := .builtin .append, args := #[s, x], argTypes := #[t, t] })
    {e : TypeId} {size bytes : Nat} (T : ElT P t e size bytes)
    {v : Value} {n : Nat} {xs : List Value} (hown : w.ownsRow 0 e size v n xs) (hs : a.eval s = v)
    (ad : Addr) (m c : Nat) (news : List Value) (hx : a.eval x = .slice (some ad) m c) (hl : news.length = m * size) (hnews : ∀ j u, news[j]? = some u → w.cell? (ad.add j) = some u) (h1 : ∀ u ∈ news, u.oneCell' = true)
    (h63 : n + m ≤ maxLen) (hbytes : (n + m) * bytes ≤ 140737488355328) (hm : m ≠ 0)
    (h : ∀ g cap w', w'.ownsRow 0 e size (.slice (some ⟨g, 0, none⟩) (n + m) cap) (n + m) (xs ++ news) → Chg (fun k => v.ownBlock = some k) w w' → (v.ownBlock = some g ∨ w.heap.size ≤ g) →
      wpList P ops Q rest (a.put o.dst (.slice (some ⟨g, 0, none⟩) (n + m) cap)) w') : wpList P ops Q (o :: rest) a w := by
  obtain ⟨i, z, hi, hz, h2, h3, h4, _⟩ := T.info
  exact wpList_append_chg hgd s x t ho e i z size bytes T.ht hi hz h2 h3 h4 T.pos v n xs hs hown ad m c news hx hl hnews h1 h63 hbytes hm h
theorem acts_empty (w : World) : (w.alloc (.cells #[] 41)).ownsRow 0 41 3 (.slice (some ⟨w.heap.size, 0, none⟩) 0 0) 0 (flatA []) := owns_new w [] 41 3 0 rfl (Nat.zero_le _)
/-- The build with the action more, at the block of a copy. -/
theorem gr_more {w : World} {sv av : Value} {g : GrR} {iv : Nat → Value} {a : ActR} {iva : Value} (hs : NamesAt w sv g.srcs) (ha : ∀ p ∈ psOf g.acts iv, NamesAt w p.2 p.1.ins ∧ p.1.name.length ≤ maxLen ∧ p.1.code.length ≤ maxLen)
    (hown : w.ownsRow 0 41 3 av (g.acts.length + 1) (flatA (psOf g.acts iv) ++ [strV a.name, iva, strV a.code])) (hn : NamesAt w iva a.ins) (hl : a.name.length ≤ maxLen ∧ a.code.length ≤ maxLen) (hm : g.acts.length ≤ 1000) :
    GrAt w (.agg #[sv, av]) (more g a) := by
  have h1 := ActsAt.of_owns (w := w) (v := av) (ps := psOf g.acts iv ++ [(a, iva)]) (by
    rw [flatA_append]
    have : (psOf g.acts iv ++ [(a, iva)]).length = g.acts.length + 1 := by simp [psOf_len]
    rw [this]
    exact hown) (by simp [psOf_len]; unfold maxLen; omega) (fun p hp => by
      rcases List.mem_append.1 hp with hp | hp
      · exact (ha p hp).1
      · simp at hp; subst hp; exact hn) (fun p hp => by
      rcases List.mem_append.1 hp with hp | hp
      · exact (ha p hp).2
      · simp at hp; subst hp; exact hl)
  have e : (psOf g.acts iv ++ [(a, iva)]).map Prod.fst = (more g a).acts := by
    rw [List.map_append, psOf_fst]; rfl
  rw [e] at h1
  exact ⟨sv, av, _, rfl, hs, h1⟩
end Go.Proofs.YtafdcmhckpdnbaaDoor
