/- What an action more does to a build, in plain words. No program in sight. -/
import Derived.Test.YtafdcmhckpdnbaaDoorTrL
namespace Go.Proofs.YtafdcmhckpdnbaaDoor
open Go

/-- The build with an action more. -/
def more (g : GrR) (a : ActR) : GrR := ⟨g.srcs, g.acts ++ [a]⟩
theorem grOK_more {g : GrR} {a : ActR} (h : grOK g = true) (hl : g.acts.length < 12) (ha : actOK a = true) : grOK (more g a) = true := by
  obtain ⟨h1, h2, h3, h4⟩ := (grOK_iff g).1 h
  refine (grOK_iff _).2 ⟨h1, by simp [more]; omega, h3, fun b hb => ?_⟩
  rcases List.mem_append.1 hb with hb | hb
  · exact h4 b hb
  · simp at hb; subst hb; exact ha
theorem names_more (g : GrR) (a : ActR) : namesL (more g a) = namesL g ++ [a.name] := by unfold namesL more; simp
theorem more_len (g : GrR) (a : ActR) : (more g a).acts.length = g.acts.length + 1 := by simp [more]
theorem nameAt_more (g : GrR) (a : ActR) {i : Nat} (h : i < g.acts.length) : nameAt (more g a) i = nameAt g i := by
  rw [nameAt_lt _ i (by rw [more_len]; omega), nameAt_lt _ i h]
  simp [more, List.getElem_append_left h]
theorem insAt_more (g : GrR) (a : ActR) {i : Nat} (h : i < g.acts.length) : insAt (more g a) i = insAt g i := by
  rw [insAt_lt _ i (by rw [more_len]; omega), insAt_lt _ i h]
  simp [more, List.getElem_append_left h]
theorem nameAt_new (g : GrR) (a : ActR) : nameAt (more g a) g.acts.length = a.name := by
  rw [nameAt_lt _ _ (by rw [more_len]; omega)]
  simp [more]
theorem check_twice {g : GrR} (hc : Can g) (hl : g.acts.length < 12) {k : Nat} (hk : k < g.acts.length) : checkR (more g ⟨nameAt g k, [], []⟩) = 21 := by
  have hn : nameL (nameAt g k) = true := by
    rw [nameAt_lt g k hk]
    exact ((actOK_iff _).1 (((grOK_iff g).1 hc.w.ok).2.2.2 _ (List.getElem_mem hk))).1
  have hok : grOK (more g ⟨nameAt g k, [], []⟩) = true := grOK_more hc.w.ok hl ((actOK_iff _).2 ⟨hn, by simp, by simp, by simp⟩)
  have hd : dupB (more g ⟨nameAt g k, [], []⟩) = true := by
    unfold dupB
    rw [names_more]
    have : ¬ (namesL g ++ [nameAt g k]).Nodup := by
      rw [List.nodup_append]
      rintro ⟨_, _, h⟩
      exact h _ (mem_names.2 (.inr ⟨k, hk, rfl⟩)) (nameAt g k) (by simp) rfl
    simp [this]
  unfold checkR wovenR
  rw [hok, hd]
  rfl
theorem check_miss {g : GrR} (hc : Can g) (hl : g.acts.length < 12) {f y : Nm} (hf : nameL f = true) (hy : nameL y = true) (h1 : f ∉ namesL g) (h2 : y ∉ namesL g) (h3 : y ≠ f) : checkR (more g ⟨f, [y, f], []⟩) = 22 := by
  have hok : grOK (more g ⟨f, [y, f], []⟩) = true := grOK_more hc.w.ok hl ((actOK_iff _).2 ⟨hf, by intro s hs; simp at hs; rcases hs with rfl | rfl <;> assumption, by simp, by simp⟩)
  have hd : dupB (more g ⟨f, [y, f], []⟩) = false := by
    unfold dupB
    rw [names_more]
    have : (namesL g ++ [f]).Nodup := by
      rw [List.nodup_append]
      exact ⟨hc.w.nd, by simp, fun a ha b hb => by simp at hb; subst hb; intro e; exact h1 (e ▸ ha)⟩
    simp [this]
  have hm : missB (more g ⟨f, [y, f], []⟩) = true := by
    unfold missB
    rw [List.any_eq_true]
    refine ⟨⟨f, [y, f], []⟩, by simp [more], ?_⟩
    rw [List.any_eq_true]
    refine ⟨y, by simp, ?_⟩
    rw [names_more]
    simp [h2, h3]
  unfold checkR wovenR
  rw [hok, hd, hm]
  rfl

section
variable {g : GrR} {a : ActR}
theorem ready_more {l : List Nat} (hl : ∀ i ∈ l, i < g.acts.length) (b : ActR) : readyB (more g a) l b = readyB g l b := by
  unfold readyB
  have e : l.map (nameAt (more g a)) = l.map (nameAt g) := List.map_congr_left (fun i hi => nameAt_more g a (hl i hi))
  rw [e]
  rfl
theorem step_more {l : List Nat} (hl : ∀ i ∈ l, i < g.acts.length) : stepR (more g a) l = match stepR g l with
    | some i => some i
    | none => if readyB g l a then some g.acts.length else none := by
  unfold stepR
  show (g.acts ++ [a]).findIdx? (readyB (more g a) l) = _
  rw [List.findIdx?_append]
  have e : readyB (more g a) l = readyB g l := funext (ready_more hl)
  rw [e]
  cases g.acts.findIdx? (readyB g l) with
  | some i => rfl
  | none =>
    cases h : readyB g l a <;> simp [List.findIdx?_cons, h]
theorem order_more : ∀ (m : Nat) (l : List Nat), Ordd g l → m + l.length = g.acts.length → (orderGo g m l).length = g.acts.length →
    orderGo (more g a) (m + 1) l = orderGo g m l ∨ orderGo (more g a) (m + 1) l = orderGo g m l ++ [g.acts.length]
  | 0, l, ho, hm, hl => by
    have hs := ho.stop (by omega)
    have hst := step_more (a := a) ho.lt
    rw [hs] at hst
    show (match stepR (more g a) l with | none => l | some i => l ++ [i]) = l ∨ (match stepR (more g a) l with | none => l | some i => l ++ [i]) = l ++ [g.acts.length]
    rw [hst]
    cases readyB g l a
    · exact .inl rfl
    · exact .inr rfl
  | m + 1, l, ho, hm, hl => by
    have hst := step_more (a := a) ho.lt
    cases hs : stepR g l with
    | none =>
      have e : orderGo g (m + 1) l = l := by unfold orderGo; rw [hs]
      rw [e] at hl
      omega
    | some i =>
      rw [hs] at hst
      have e : orderGo g (m + 1) l = orderGo g m (l ++ [i]) := by conv => lhs; unfold orderGo; rw [hs]
      have e2 : orderGo (more g a) (m + 1 + 1) l = orderGo (more g a) (m + 1) (l ++ [i]) := by
        conv => lhs; unfold orderGo; rw [hst]
      rw [e] at hl ⊢
      rw [e2]
      exact order_more m (l ++ [i]) (ho.snoc hs) (by simp; omega) hl
theorem orderR_more (hg : Can g) (hh : Can (more g a)) : orderR (more g a) = orderR g ++ [g.acts.length] := by
  have h := order_more (a := a) g.acts.length [] (Ordd.nil g) (by simp) hg.full
  have hf := hh.full
  unfold orderR at *
  rw [more_len] at *
  rcases h with h | h
  · rw [h] at hf
    have := hg.full
    unfold orderR at this
    omega
  · exact h
theorem place_more (hh : Wov (more g a)) {s : Nm} (hs : s ∈ namesL g) : placeOf (more g a) s = placeOf g s := by
  unfold placeOf
  show (g.acts ++ [a]).findIdx? _ = _
  rw [List.findIdx?_append]
  cases h : g.acts.findIdx? (fun b => b.name == s) with
  | some i => rfl
  | none =>
    have hne : (a.name == s) = false := by
      have := hh.nd
      rw [names_more, List.nodup_append] at this
      have h2 := this.2.2 s hs a.name (by simp)
      simpa using fun e : a.name = s => h2 e.symm
    simp [List.findIdx?_cons, hne]
theorem actIns_more (_ : Wov g) (hh : Wov (more g a)) {s : Nm} (hs : s ∈ namesL g) : actIns (more g a) s = actIns g s := by
  unfold actIns
  rw [place_more hh hs]
  cases hp : placeOf g s with
  | none => rfl
  | some i => exact insAt_more g a (placeOf_some hp).1
theorem needs_more (hg : Wov g) (hh : Wov (more g a)) {i : Nat} (hi : i < g.acts.length) (s : Nm) : Needs (more g a) i s ↔ Needs g i s := by
  constructor
  · intro h
    induction h with
    | base h => exact .base (by rw [insAt_more g a hi] at h; exact h)
    | step _ h ih => exact .step ih (by rw [actIns_more hg hh (ih.names hg hi)] at h; exact h)
  · intro h
    induction h with
    | base h => exact .base (by rw [insAt_more g a hi]; exact h)
    | step ht h ih => exact .step ih (by rw [actIns_more hg hh (ht.names hg hi)]; exact h)
theorem needsR_more (hg : Can g) (hh : Can (more g a)) {i : Nat} (hi : i < g.acts.length) : needsR (more g a) i = needsR g i :=
  rise_ext (needsR_rise _ _) (needsR_rise _ _) (fun s => by
    rw [hh.mem_needs (by rw [more_len]; omega), hg.mem_needs hi, needs_more hg.w hh.w hi])
theorem dirtyB_more (hg : Can g) (hh : Can (more g a)) (names : List Nm) {i : Nat} (hi : i < g.acts.length) : dirtyB (more g a) names i = dirtyB g names i := by
  unfold dirtyB
  rw [nameAt_more g a hi, needsR_more hg hh hi]
theorem dirtyR_more (hg : Can g) (hh : Can (more g a)) (names : List Nm) : dirtyR (more g a) names = dirtyR g names ++ (if dirtyB (more g a) names g.acts.length then [g.acts.length] else []) := by
  unfold dirtyR
  rw [more_len, List.range_succ, List.filter_append]
  have e : (List.range g.acts.length).filter (dirtyB (more g a) names) = (List.range g.acts.length).filter (dirtyB g names) := by
    apply List.filter_congr
    intro i hi
    exact dirtyB_more hg hh names (List.mem_range.1 hi)
  rw [e]
  congr 1
  cases h : dirtyB (more g a) names g.acts.length <;> simp [h]
theorem needsOf_more (hg : Can g) (hh : Can (more g a)) {i : Nat} (hi : i < g.acts.length) : needsOf (more g a) (nameAt g i) = needsOf g (nameAt g i) := by
  have hs : nameAt g i ∈ namesL g := mem_names.2 (.inr ⟨i, hi, rfl⟩)
  unfold needsOf
  rw [if_pos (can_iff.2 hh), if_pos (can_iff.2 hg), place_more hh.w hs, hg.w.place hi]
  exact needsR_more hg hh hi
end
/-- How many are dirty ahead of a place; whether it stands next. -/
theorem dirty_at (g : GrR) (names : List Nm) (i : Nat) (hi : i < g.acts.length) :
    ((dirtyR g names)[((List.range i).filter (dirtyB g names)).length]? = some i ↔ dirtyB g names i = true) := by
  have e : dirtyR g names = (List.range i).filter (dirtyB g names) ++ ((List.range g.acts.length).drop i).filter (dirtyB g names) := by
    unfold dirtyR
    conv => lhs; rw [← List.take_append_drop i (List.range g.acts.length), List.filter_append]
    rw [List.take_range, Nat.min_eq_left (by omega)]
  have e2 : (List.range g.acts.length).drop i = i :: (List.range g.acts.length).drop (i + 1) := by
    rw [List.drop_eq_getElem_cons (by simpa using hi)]
    simp
  rw [e, List.getElem?_append_right (Nat.le_refl _), Nat.sub_self, e2, List.filter_cons]
  by_cases h : dirtyB g names i = true
  · simp [h]
  · rw [if_neg h]
    constructor
    · intro hs
      exfalso
      have hm : i ∈ ((List.range g.acts.length).drop (i + 1)).filter (dirtyB g names) := List.mem_of_getElem? hs
      exact h (List.mem_filter.1 hm).2
    · intro hd; exact absurd hd h
end Go.Proofs.YtafdcmhckpdnbaaDoor
