/- An action's words, in plain words: when they are an action's, and when they are none's. No program in sight. -/
import Derived.Test.YtbaipdhgjalgoaaDoorRfH
namespace Go.Proofs.YtbaipdhgjalgoaaDoor
open Go.RowKit

theorem act_eq_of (ws : List (List UInt8)) (N : Nat) (hN : ws.length = N + 2) (h2 : 2 ≤ N) : actionL ws =
    if ws[0]'(by omega) ≠ wMake ∨ ws[N]'(by omega) ≠ wBy then none else
    match codeL (ws[N + 1]'(by omega)) with
    | none => none
    | some c => if N ≠ 2 ∧ (ws[2]'(by omega) ≠ wFrom ∨ N - 2 < 2) then none else
      if actOK ⟨ws[1]'(by omega), (ws.take N).drop 3, c⟩ then some ⟨ws[1]'(by omega), (ws.take N).drop 3, c⟩ else none := by
  have g : ∀ i (h : i < ws.length), ws.getD i [] = ws[i] := fun i h => by simp [List.getD_eq_getElem?_getD, List.getElem?_eq_getElem h]
  have hdN : ws.getD (ws.length - 2) [] = ws[N]'(by omega) := by rw [show ws.length - 2 = N by omega]; exact g N (by omega)
  have hdC : ws.getD (ws.length - 1) [] = ws[N + 1]'(by omega) := by rw [show ws.length - 1 = N + 1 by omega]; exact g (N + 1) (by omega)
  have hins : ((ws.take N).drop 2).drop 1 = (ws.take N).drop 3 := by simp
  have hlen : ((ws.take N).drop 2).length = N - 2 := by simp; omega
  have hg2 : ((ws.take N).drop 2).getD 0 [] = if N = 2 then [] else ws[2]'(by omega) := by
    by_cases e : N = 2
    · subst e; simp
    · rw [if_neg e]
      simp [List.getD_eq_getElem?_getD, show 2 < N by omega, List.getElem?_eq_getElem (show 2 < ws.length by omega)]
  have hne : ((ws.take N).drop 2 ≠ []) ↔ N ≠ 2 := by
    constructor
    · intro h e; subst e; exact h (by simp)
    · intro h e; have := congrArg List.length e; rw [hlen] at this; simp at this; omega
  unfold actionL
  rw [g 0 (by omega), hdN, hdC, g 1 (by omega)]
  by_cases hb : ws[0]'(by omega) ≠ wMake ∨ ws[N]'(by omega) ≠ wBy
  · rw [if_pos (.inr hb), if_pos hb]
  · rw [if_neg (by intro h; rcases h with h | h; omega; exact hb h), if_neg hb]
    cases hc : codeL (ws[N + 1]'(by omega)) with
    | none => rfl
    | some c =>
      show (if _ then _ else _) = (if _ then _ else _)
      rw [show ws.length - 2 = N by omega, hins, hlen, hg2]
      by_cases e : N = 2
      · rw [if_neg (fun h => (hne.1 h.1) e)]
        conv => rhs; rw [if_neg (fun h => h.1 e)]
      · rw [if_neg e]
        by_cases hx : ws[2]'(by omega) ≠ wFrom ∨ N - 2 < 2
        · rw [if_pos ⟨hne.2 e, hx⟩, if_pos ⟨e, hx⟩]
        · rw [if_neg (fun h => hx h.2)]
          conv => rhs; rw [if_neg (fun h => hx h.2)]
theorem act_short (ws : List (List UInt8)) (h : ws.length < 4) : actionL ws = none := by unfold actionL; rw [if_pos (.inl h)]
theorem act_bad (ws : List (List UInt8)) (N : Nat) (hN : ws.length = N + 2) (h2 : 2 ≤ N) (h : ws[0]'(by omega) ≠ wMake ∨ ws[N]'(by omega) ≠ wBy ∨ codeL (ws[N + 1]'(by omega)) = none ∨ nameL (ws[1]'(by omega)) = false ∨ (N ≠ 2 ∧ ws[2]'(by omega) ≠ wFrom) ∨ N = 3 ∨ 7 < N ∨ ∃ s ∈ (ws.take N).drop 3, nameL s = false) : actionL ws = none := by
  rw [act_eq_of ws N hN h2]
  by_cases hb : ws[0]'(by omega) ≠ wMake ∨ ws[N]'(by omega) ≠ wBy
  · rw [if_pos hb]
  rw [if_neg hb]
  cases hc : codeL (ws[N + 1]'(by omega)) with
  | none => rfl
  | some c =>
    show (if _ then _ else _) = _
    by_cases hx : N ≠ 2 ∧ (ws[2]'(by omega) ≠ wFrom ∨ N - 2 < 2)
    · rw [if_pos hx]
    rw [if_neg hx, if_neg]
    intro hok
    obtain ⟨o1, o2, o3, o4⟩ := (actOK_iff _).1 hok
    simp only at o1 o2 o3
    rcases h with h | h | h | h | h | h | h | ⟨s, hs, h⟩
    · exact hb (.inl h)
    · exact hb (.inr h)
    · rw [hc] at h; cases h
    · rw [o1] at h; cases h
    · exact hx ⟨h.1, .inl h.2⟩
    · exact hx ⟨by omega, .inr (by omega)⟩
    · simp at o3; omega
    · rw [o2 s hs] at h; cases h
theorem act_good (ws : List (List UInt8)) (N : Nat) (hN : ws.length = N + 2) (h2 : 2 ≤ N) (c : List UInt8) (h0 : ws[0]'(by omega) = wMake) (hb : ws[N]'(by omega) = wBy) (hc : codeL (ws[N + 1]'(by omega)) = some c) (h1 : nameL (ws[1]'(by omega)) = true)
    (h3 : N ≠ 2 → ws[2]'(by omega) = wFrom ∧ 4 ≤ N) (h7 : N ≤ 7) (hall : ∀ s ∈ (ws.take N).drop 3, nameL s = true) : actionL ws = some ⟨ws[1]'(by omega), (ws.take N).drop 3, c⟩ := by
  rw [act_eq_of ws N hN h2, if_neg (by intro h; rcases h with h | h; exact h h0; exact h hb), hc]
  show (if _ then _ else _) = _
  rw [if_neg, if_pos]
  · exact (actOK_iff _).2 ⟨h1, hall, by simp; omega, (word_codeL _ c hc).2⟩
  · rintro ⟨hn, h | h⟩
    · exact h (h3 hn).1
    · have := (h3 hn).2; omega
end Go.Proofs.YtbaipdhgjalgoaaDoor
