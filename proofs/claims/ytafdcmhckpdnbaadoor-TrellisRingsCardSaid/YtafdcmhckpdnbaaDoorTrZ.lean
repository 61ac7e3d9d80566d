/- What needs' answer says, in the laws' words. -/
import Derived.Test.YtafdcmhckpdnbaaDoorTrQ
import Derived.Test.YtafdcmhckpdnbaaDoorTrR
namespace Go.Proofs.YtafdcmhckpdnbaaDoor
open Go.RowKit

/-- What needs' answer says, in the law's words. -/
structure NeedFacts (g : GrR) (i : Nat) (n : List Nm) : Prop where
  rise : ∀ q (h : q < n.length), 0 < q → n[q - 1]'(by omega) < n[q]
  from_ : ∀ s ∈ n, s ∈ insAt g i ∨ ∃ t ∈ insAt g i, s ∈ needsOf g t
  ins : ∀ s ∈ insAt g i, s ∈ n
  self : nameAt g i ∉ n
  le8 : ∀ s ∈ n, s.length ≤ 8
  le20 : n.length ≤ 20
theorem rise_nodup : ∀ {l : List Nm}, Rise l → l.Nodup := fun h => h.imp (fun hlt e => by subst e; exact List.lt_irrefl _ hlt)
theorem Can.needFacts {g : GrR} (hc : Can g) {i : Nat} (hi : i < g.acts.length) : NeedFacts g i (needsR g i) := by
  refine ⟨fun q h hq => ?_, fun s hs => ?_, fun s hs => ?_, fun h => hc.irrefl hi ((hc.mem_needs hi).1 h), fun s hs => name_le hc.w (((hc.mem_needs hi).1 hs).names hc.w hi), ?_⟩
  · exact (List.pairwise_iff_getElem.1 (needsR_rise g i)) (q - 1) q (by omega) h (by omega)
  · rcases ((hc.mem_needs hi).1 hs).front with h | ⟨t, ht, j, hj, h⟩
    · exact .inl h
    · refine .inr ⟨t, ht, ?_⟩
      unfold needsOf
      rw [if_pos (can_iff.2 hc), hj]
      exact (hc.mem_needs (placeOf_some hj).1).2 h
  · exact (hc.mem_needs hi).2 (.base hs)
  · have h1 := sub_length (needsR g i) (namesL g) (rise_nodup (needsR_rise g i)) (fun s hs => ((hc.mem_needs hi).1 hs).names hc.w hi)
    have h2 := hc.w.srcs8
    have h3 := hc.w.acts12
    unfold namesL at h1
    simp at h1
    omega
theorem needsOf_at {g : GrR} (hc : Can g) {i : Nat} (hi : i < g.acts.length) : needsOf g (nameAt g i) = needsR g i := by
  unfold needsOf
  rw [if_pos (can_iff.2 hc), hc.w.place hi]
theorem less_bs {a b : Nm} (h : a < b) : Op.bytesLess (bs a).toList (bs b).toList = true := by
  rw [Lib.toList_data, Lib.toList_data, bs_data, bs_data, bytesLess_eq]
  simpa using h
theorem names_own {w : World} {v : Value} {l : List Nm} (h : w.ownsRow 0 9 1 v l.length (l.map nmV)) (h1 : l.length ≤ 100) (h2 : ∀ s ∈ l, s.length ≤ 1000) : NamesAt w v l :=
  NamesAt.of_owns h (by unfold maxLen; omega) (fun s hs => by have := h2 s hs; unfold maxLen; omega)

theorem needsOf_small {g : GrR} (hc : Can g) (t : Nm) : (needsOf g t).length ≤ 20 ∧ ∀ s ∈ needsOf g t, s.length ≤ 8 := by
  unfold needsOf
  rw [if_pos (can_iff.2 hc)]
  cases hp : placeOf g t with
  | none => simp
  | some i => exact ⟨(hc.needFacts (placeOf_some hp).1).le20, (hc.needFacts (placeOf_some hp).1).le8⟩
end Go.Proofs.YtafdcmhckpdnbaaDoor
