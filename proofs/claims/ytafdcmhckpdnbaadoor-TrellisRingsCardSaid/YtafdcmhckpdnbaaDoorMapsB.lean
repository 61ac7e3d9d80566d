/- What is read of a map behind a store and a delete. -/
import Derived.Test.YtafdcmhckpdnbaaDoorMaps
import Derived.Deep.QuietTactic
namespace Go.Proofs.YtafdcmhckpdnbaaDoor
open Go.RowKit

section
variable {κ ν : Type} [DecidableEq κ]
def lval (k : κ) (l : List (κ × ν)) : Option ν := (lfind k l 0).map (·.2)
theorem lfind_shift (k : κ) : ∀ (l : List (κ × ν)) (i : Nat), lfind k l i = (lfind k l 0).map fun x => (x.1 + i, x.2)
  | [], _ => rfl
  | p :: l, i => by
    unfold lfind
    by_cases h : k = p.1
    · simp [h]
    · rw [if_neg h, if_neg h, lfind_shift k l (i + 1), lfind_shift k l 1]
      cases lfind k l 0 <;> simp; omega
theorem lval_nil (k : κ) : lval k ([] : List (κ × ν)) = none := rfl
theorem lval_cons (k : κ) (p : κ × ν) (l : List (κ × ν)) : lval k (p :: l) = if k = p.1 then some p.2 else lval k l := by
  unfold lval
  rw [lfind]
  by_cases h : k = p.1
  · simp [h]
  · rw [if_neg h, if_neg h, lfind_shift k l 1]
    cases lfind k l 0 <;> rfl
theorem lval_none {k : κ} {l : List (κ × ν)} : lval k l = none ↔ ∀ p ∈ l, p.1 ≠ k := by
  unfold lval
  rw [Option.map_eq_none_iff]
  exact lfind_none
theorem lput_cons (k : κ) (x : ν) (p : κ × ν) (l : List (κ × ν)) : lput k x (p :: l) = if k = p.1 then (k, x) :: l else p :: lput k x l := by
  unfold lput
  rw [lfind]
  by_cases h : k = p.1
  · simp [h]
  · rw [if_neg h, if_neg h, lfind_shift k l 1]
    cases lfind k l 0 <;> rfl
theorem ldel_cons (k : κ) (p : κ × ν) (l : List (κ × ν)) : ldel k (p :: l) = if k = p.1 then l else p :: ldel k l := by
  unfold ldel
  rw [lfind]
  by_cases h : k = p.1
  · simp [h]
  · rw [if_neg h, if_neg h, lfind_shift k l 1]
    cases lfind k l 0 <;> rfl
theorem lval_put (k k' : κ) (x : ν) : ∀ (l : List (κ × ν)), lval k (lput k' x l) = if k = k' then some x else lval k l
  | [] => by
    have : lput k' x ([] : List (κ × ν)) = [(k', x)] := rfl
    rw [this, lval_cons]
  | p :: l => by
    rw [lput_cons]
    by_cases h : k' = p.1
    · rw [if_pos h, lval_cons, lval_cons]
      by_cases h2 : k = k'
      · rw [if_pos h2, if_pos h2]
      · rw [if_neg h2, if_neg h2, if_neg (by rw [← h]; exact h2)]
    · rw [if_neg h, lval_cons, lval_cons, lval_put k k' x l]
      by_cases h2 : k = k'
      · subst h2; simp [h]
      · simp [h2]
theorem keys_put (k' : κ) (x : ν) : ∀ (l : List (κ × ν)) (k : κ), k ∈ (lput k' x l).map Prod.fst ↔ k = k' ∨ k ∈ l.map Prod.fst
  | [], k => by
    have : lput k' x ([] : List (κ × ν)) = [(k', x)] := rfl
    rw [this]; simp
  | p :: l, k => by
    rw [lput_cons]
    by_cases h : k' = p.1
    · rw [if_pos h]
      simp only [List.map_cons, List.mem_cons]
      rw [← h]
      constructor
      · rintro (h | h)
        · exact .inl h
        · exact .inr (.inr h)
      · rintro (h | h | h)
        · exact .inl h
        · exact .inl h
        · exact .inr h
    · rw [if_neg h]
      simp only [List.map_cons, List.mem_cons]
      rw [keys_put k' x l k]
      constructor
      · rintro (h | h | h)
        · exact .inr (.inl h)
        · exact .inl h
        · exact .inr (.inr h)
      · rintro (h | h | h)
        · exact .inr (.inl h)
        · exact .inl h
        · exact .inr (.inr h)
theorem nodup_put (k' : κ) (x : ν) : ∀ (l : List (κ × ν)), (l.map Prod.fst).Nodup → ((lput k' x l).map Prod.fst).Nodup
  | [], _ => by
    have : lput k' x ([] : List (κ × ν)) = [(k', x)] := rfl
    rw [this]; simp
  | p :: l, h => by
    rw [lput_cons]
    simp only [List.map_cons, List.nodup_cons] at h
    by_cases hk : k' = p.1
    · rw [if_pos hk]
      simp only [List.map_cons, List.nodup_cons]
      rw [hk]
      exact h
    · rw [if_neg hk]
      simp only [List.map_cons, List.nodup_cons]
      refine ⟨fun hm => ?_, nodup_put k' x l h.2⟩
      rcases (keys_put k' x l p.1).1 hm with h1 | h1
      · exact hk h1.symm
      · exact h.1 h1
theorem ldel_sub (k' : κ) : ∀ (l : List (κ × ν)) (k : κ), k ∈ (ldel k' l).map Prod.fst → k ∈ l.map Prod.fst
  | [], _, h => h
  | p :: l, k, h => by
    rw [ldel_cons] at h
    by_cases hk : k' = p.1
    · rw [if_pos hk] at h
      exact List.mem_cons_of_mem _ h
    · rw [if_neg hk] at h
      simp only [List.map_cons, List.mem_cons] at h ⊢
      exact h.imp id (ldel_sub k' l k)
theorem nodup_del (k' : κ) : ∀ (l : List (κ × ν)), (l.map Prod.fst).Nodup → ((ldel k' l).map Prod.fst).Nodup
  | [], h => h
  | p :: l, h => by
    simp only [List.map_cons, List.nodup_cons] at h
    rw [ldel_cons]
    by_cases hk : k' = p.1
    · rw [if_pos hk]; exact h.2
    · rw [if_neg hk]
      simp only [List.map_cons, List.nodup_cons]
      exact ⟨fun hm => h.1 (ldel_sub k' l p.1 hm), nodup_del k' l h.2⟩
theorem lval_del (k k' : κ) : ∀ (l : List (κ × ν)), (l.map Prod.fst).Nodup → lval k (ldel k' l) = if k = k' then none else lval k l
  | [], _ => by
    have : ldel k' ([] : List (κ × ν)) = [] := rfl
    rw [this, lval_nil]; split <;> rfl
  | p :: l, h => by
    simp only [List.map_cons, List.nodup_cons] at h
    rw [ldel_cons]
    by_cases hk : k' = p.1
    · rw [if_pos hk, lval_cons]
      by_cases h2 : k = k'
      · rw [if_pos h2, lval_none]
        intro q hq e
        exact h.1 (List.mem_map.2 ⟨q, hq, by rw [e, h2, hk]⟩)
      · rw [if_neg h2, if_neg (by rw [← hk]; exact h2)]
    · rw [if_neg hk, lval_cons, lval_cons, lval_del k k' l h.2]
      by_cases h2 : k = k'
      · subst h2; simp [hk]
      · simp [h2]
end

/-- A callee that leaves the world alone, inside a region that only reads. -/
theorem quietR {P : Program} {f : FuncId} {args : Array Value} {w : World} {n : Nat} {v : Value}
    (h : Calls P f args (w.drewN n) (Rets v (fun w' => w.drewN n = w'))) : Calls P f args (w.drewN n) fun e w'' => e = .returned v ∧ ∃ m, w'' = w.drewN m :=
  h.mono fun _ _ ⟨he, hm⟩ => ⟨he, n, hm.symm⟩
end Go.Proofs.YtafdcmhckpdnbaaDoor
