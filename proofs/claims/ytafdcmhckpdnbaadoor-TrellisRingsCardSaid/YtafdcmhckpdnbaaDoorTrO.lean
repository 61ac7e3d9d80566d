/- Actions in a row of the call's own, names in such a row: read as a build's. -/
import Derived.Test.YtafdcmhckpdnbaaDoorTrN
namespace Go.Proofs.YtafdcmhckpdnbaaDoor
open Go.RowKit

theorem elAct : ElT Tryd.prog 23 41 3 56 := .mk' (z := .agg #[.string ByteArray.empty, .slice none 0 0, .string ByteArray.empty]) Tryd.underlying23 (by kernel_rfl) rfl (by decide) rfl
def flatA (ps : List (ActR × Value)) : List Value := ps.flatMap fun p => [strV p.1.name, p.2, strV p.1.code]
theorem flatA_append (ps : List (ActR × Value)) (p : ActR × Value) : flatA (ps ++ [p]) = flatA ps ++ [strV p.1.name, p.2, strV p.1.code] := by simp [flatA]
theorem flatA_len (ps : List (ActR × Value)) : (flatA ps).length = ps.length * 3 := by
  induction ps with
  | nil => rfl
  | cons p ps ih => show (_ ++ flatA ps).length = _; rw [List.length_append, ih]; simp; omega
theorem own_eq {g2 n cap k : Nat} (h : (Value.slice (some ⟨g2, 0, none⟩) n cap).ownBlock = some k) : k = g2 := by cases h; rfl
def slBlk : Value → Option Nat
  | .slice (some a) _ _ => some a.block
  | _ => none
theorem add_block (a : Addr) (i : Nat) : (a.add i).block = a.block := by unfold Addr.add; split <;> rfl
theorem NamesAt.chg' {F : Nat → Prop} {w w' : World} {v : Value} {ss : List (List UInt8)} (h : NamesAt w v ss) (hc : Chg F w w') (hF : ss ≠ [] → ∀ k, slBlk v = some k → ¬ F k) : NamesAt w' v ss := by
  refine ⟨?_, h.2⟩
  rcases h.1 with h1 | ⟨a, cap, hv, h1⟩
  · exact .inl h1
  · refine .inr ⟨a, cap, hv, fun i hi => hc.cell (h1 i hi) ?_⟩
    rw [add_block]
    exact hF (fun e => by subst e; simp at hi) a.block (by rw [hv]; rfl)
theorem NamesAt.lt {w : World} {v : Value} {ss : List (List UInt8)} (h : NamesAt w v ss) (hn : ss ≠ []) : ∀ k, slBlk v = some k → k < w.heap.size := by
  intro k hk
  rcases h.1 with ⟨_, h1⟩ | ⟨a, cap, rfl, h1⟩
  · exact absurd (List.map_eq_nil_iff.1 h1) hn
  · have h0 := h1 0 (by simpa using List.length_pos_iff.2 hn)
    have := World.block_lt_of_cell? w _ h0
    rw [add_block] at this
    cases hk
    exact this

theorem flatA_get : ∀ (ps : List (ActR × Value)) (i j : Nat), j < 3 → (flatA ps)[i * 3 + j]? = (ps[i]?).bind (fun p => [strV p.1.name, p.2, strV p.1.code][j]?)
  | [], i, j, _ => by simp [flatA]
  | p :: ps, i, j, hj => by
    have e : flatA (p :: ps) = [strV p.1.name, p.2, strV p.1.code] ++ flatA ps := rfl
    rw [e]
    cases i with
    | zero =>
      rw [Nat.zero_mul, Nat.zero_add, List.getElem?_append_left (by simpa using hj)]
      rfl
    | succ i =>
      rw [List.getElem?_append_right (by simp; omega), show (i + 1) * 3 + j - [strV p.1.name, p.2, strV p.1.code].length = i * 3 + j by simp; omega, flatA_get ps i j hj]
      rfl
theorem NamesAt.of_owns {w : World} {v : Value} {ss : List Nm} (h : w.ownsRow 0 9 1 v ss.length (ss.map nmV)) (hl : ss.length ≤ maxLen) (hw : ∀ s ∈ ss, s.length ≤ maxLen) : NamesAt w v ss := by
  refine ⟨?_, by simpa using hl, fun s hs => by obtain ⟨y, hy, rfl⟩ := List.mem_map.1 hs; rw [bs_size]; exact hw y hy⟩
  rcases h.2 with ⟨rfl, h0⟩ | ⟨g, cap, cur, rfl, _⟩
  · left; exact ⟨rfl, by rw [List.length_eq_zero_iff.1 h0]; rfl⟩
  · right
    refine ⟨⟨g, 0, none⟩, cap, by simp, fun i hi => ?_⟩
    have hi' : i < ss.length := by simpa using hi
    have h3 := h.cellAt i (by simpa using hi')
    have e3 : (⟨g, 0, none⟩ : Addr).add i = ⟨g, i, none⟩ := by unfold Addr.add; split <;> simp_all
    rw [e3, h3]
    simp [hi']
theorem ActsAt.of_owns {w : World} {v : Value} {ps : List (ActR × Value)} (h : w.ownsRow 0 41 3 v ps.length (flatA ps)) (hl : ps.length ≤ maxLen) (hi : ∀ p ∈ ps, NamesAt w p.2 p.1.ins)
    (hw : ∀ p ∈ ps, p.1.name.length ≤ maxLen ∧ p.1.code.length ≤ maxLen) : ActsAt w v (ps.map Prod.fst) (fun i => (ps.map (·.2)).getD i (.bool true)) := by
  refine ⟨⟨?_, by simpa using hl, fun i _ => rfl⟩, ?_, ?_⟩
  · rcases h.2 with ⟨rfl, h0⟩ | ⟨g, cap, cur, rfl, _⟩
    · left; exact ⟨rfl, by simpa using h0⟩
    · right
      refine ⟨⟨g, 0, none⟩, cap, by simp, fun i hi j hj => ?_⟩
      have hi' : i < ps.length := by simpa using hi
      have h3 := h.cellAt (i * 3 + j) (by omega)
      have e3 : (⟨g, 0, none⟩ : Addr).add (i * 3 + j) = ⟨g, i * 3 + j, none⟩ := by unfold Addr.add; split <;> simp_all
      rw [e3, h3, flatA_get ps i j hj]
      simp [hi', strV]
  · intro i hi2
    have hi' : i < ps.length := by simpa using hi2
    have := hi ps[i] (List.getElem_mem hi')
    simpa [List.getD_eq_getElem?_getD, hi'] using this
  · intro a ha
    obtain ⟨p, hp, rfl⟩ := List.mem_map.1 ha
    exact hw p hp
/-- A slice just laid, of names. -/
theorem names_new (w : World) (ss : List Nm) (n : Nat) (hn : n = ss.length) (hl : n ≤ 1000) (hw : ∀ s ∈ ss, s.length ≤ 1000) : NamesAt (w.alloc (.cells (ss.map nmV).toArray 9)) (.slice (some ⟨w.heap.size, 0, none⟩) n n) ss := by
  subst hn
  exact NamesAt.of_owns (owns_new w (ss.map nmV) 9 1 ss.length (by simp) (by unfold maxLen; omega)) (by unfold maxLen; omega) (fun s hs => by have := hw s hs; unfold maxLen; omega)
end Go.Proofs.YtafdcmhckpdnbaaDoor
