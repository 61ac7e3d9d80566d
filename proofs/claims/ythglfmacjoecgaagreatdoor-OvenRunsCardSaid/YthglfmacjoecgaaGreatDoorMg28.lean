/- Texts of the proof, one behind the other: apiarylaw08: action, in; apiaryref08.Ints walked; Actions in a row of the call's own, names in such a row: read as a build's; What an action more does to a build, in plain words. No program in sight; What needs' answer says, in the laws' words; A slice of results that came in, or was made: its cells, read only. A key's texts, in plain words. -/
import Derived.Test.YthglfmacjoecgaaGreatDoorMg25
import Derived.Test.YthglfmacjoecgaaGreatDoorMg27
import Derived.Test.YthglfmacjoecgaaGreatDoorMg21
import Derived.Test.YthglfmacjoecgaaGreatDoorMg23
namespace Go.Proofs.YthglfmacjoecgaaGreatDoor
open Go.RowKit

/-- v is a slice of the numbers l (read only). -/
def IntsAt (w : World) (v : Value) (l : List Nat) : Prop := RowsAt w v 1 l.length (fun i => [natV (l.getD i 0)])
theorem IntsAt.of_owns {w : World} {v : Value} {l : List Nat} (h : w.ownsRow 0 3 1 v l.length (l.map natV)) : IntsAt w v l := by
  rcases h.2 with ⟨rfl, h0⟩ | ⟨g, cap, cur, rfl, _, hg, hnc, hcm, hcs, ht⟩
  · exact ⟨.inl ⟨rfl, h0⟩, by rw [h0]; exact Nat.zero_le _, fun i hi => rfl⟩
  · refine ⟨.inr ⟨_, cap, rfl, fun i hi j hj => ?_⟩, by omega, fun i hi => rfl⟩
    obtain rfl : j = 0 := by omega
    have := h.cellAt i (by simpa using hi)
    have hadd : (⟨g, 0, none⟩ : Addr).add (i * 1 + 0) = ⟨g, i, none⟩ := by unfold Addr.add; split <;> simp_all
    rw [hadd, this]
    simp [hi]
theorem IntsAt.chg {F : Nat → Prop} {w w' : World} {v : Value} {l : List Nat} (h : IntsAt w v l) (hc : Chg F w w') (hF : ∀ k, k < w.heap.size → ¬ F k) : IntsAt w' v l := RowsAt.chg h hc hF
theorem IntsAt.len {w0 : World} {v : Value} {l : List Nat} (h : IntsAt w0 v l) (w : World) (ty : TypeId) : (Builtin.len_ #[75] ty #[v]).run Tryz.prog w = .ok (.int .i64 l.length) w :=
  RowsAt.len (P := Tryz.prog) h Tryz.underlying75 w ty
theorem IntsAt.ix {w : World} {v : Value} {l : List Nat} (h : IntsAt w v l) (k : Nat) (hk : k < l.length) :
    ∃ bb oo, (∀ w, (Instr.indexAt 75 v (.int .i64 k)).run Tryz.prog w = .ok (.pointer (some ⟨bb, oo, none⟩)) w) ∧ w.cell? ⟨bb, oo, none⟩ = some (.int .i64 l[k]) ∧ bb < w.heap.size := by
  obtain ⟨bb, oo, h1, h2, h3⟩ := RowsAt.ix (P := Tryz.prog) h Tryz.underlying75 (fun w => by kernel_rfl) (by decide) k hk
  refine ⟨bb, oo, h1, ?_, h3⟩
  have := h2 0 (by decide)
  exact this.trans (by simp [hk])
theorem IntsAt.form {w : World} {v : Value} {l : List Nat} (h : IntsAt w v l) : ∃ oa c, v = .slice oa l.length c := by
  rcases RowsAt.form h with ⟨h1, h2⟩ | ⟨a, cap, h1, _⟩
  · exact ⟨none, 0, by rw [h1, h2]⟩
  · exact ⟨some a, cap, h1⟩

theorem al_chg (w : World) (o : Obj) : Chg (fun _ => False) w (w.alloc o) := (Chg.refl _ w).alloc _
end Go.Proofs.YthglfmacjoecgaaGreatDoor
namespace Go.Proofs.YthglfmacjoecgaaGreatDoor
open Go.RowKit

theorem elAct : ElT Tryz.prog 23 43 3 56 := .mk' (z := .agg #[.string ByteArray.empty, .slice none 0 0, .string ByteArray.empty]) Tryz.underlying23 (by kernel_rfl) rfl (by decide) rfl
def flatA (ps : List (ActR × Value)) : List Value := ps.flatMap fun p => [strV p.1.name, p.2, strV p.1.code]
theorem flatA_append (ps : List (ActR × Value)) (p : ActR × Value) : flatA (ps ++ [p]) = flatA ps ++ [strV p.1.name, p.2, strV p.1.code] := by simp [flatA]
theorem flatA_len (ps : List (ActR × Value)) : (flatA ps).length = ps.length * 3 := by
  induction ps with
  | nil => rfl
  | cons p ps ih => show (_ ++ flatA ps).length = _; rw [List.length_append, ih]; simp; omega
theorem own_eq {g2 n cap k : Nat} (h : (Value.slice (some ⟨g2, 0, none⟩) n cap).ownBlock = some k) : k = g2 := by cases h; rfl
def slBlk : Value → Option Nat
  | .slice (some a) _ _ => some a.block
  | _ => none
theorem add_block (a : Addr) (i : Nat) : (a.add i).block = a.block := by unfold Addr.add; split <;> rfl
theorem NamesAt.chg' {F : Nat → Prop} {w w' : World} {v : Value} {ss : List (List UInt8)} (h : NamesAt w v ss) (hc : Chg F w w') (hF : ss ≠ [] → ∀ k, slBlk v = some k → ¬ F k) : NamesAt w' v ss := by
  refine ⟨?_, h.2⟩
  rcases h.1 with h1 | ⟨a, cap, hv, h1⟩
  · exact .inl h1
  · refine .inr ⟨a, cap, hv, fun i hi => hc.cell (h1 i hi) ?_⟩
    rw [add_block]
    exact hF (fun e => by subst e; simp at hi) a.block (by rw [hv]; rfl)
theorem NamesAt.lt {w : World} {v : Value} {ss : List (List UInt8)} (h : NamesAt w v ss) (hn : ss ≠ []) : ∀ k, slBlk v = some k → k < w.heap.size := by
  intro k hk
  rcases h.1 with ⟨_, h1⟩ | ⟨a, cap, rfl, h1⟩
  · exact absurd (List.map_eq_nil_iff.1 h1) hn
  · have h0 := h1 0 (by simpa using List.length_pos_iff.2 hn)
    have := World.block_lt_of_cell? w _ h0
    rw [add_block] at this
    cases hk
    exact this

theorem flatA_get : ∀ (ps : List (ActR × Value)) (i j : Nat), j < 3 → (flatA ps)[i * 3 + j]? = (ps[i]?).bind (fun p => [strV p.1.name, p.2, strV p.1.code][j]?)
  | [], i, j, _ => by simp [flatA]
  | p :: ps, i, j, hj => by
    have e : flatA (p :: ps) = [strV p.1.name, p.2, strV p.1.code] ++ flatA ps := rfl
    rw [e]
    cases i with
    | zero =>
      rw [Nat.zero_mul, Nat.zero_add, List.getElem?_append_left (by simpa using hj)]
      rfl
    | succ i =>
      rw [List.getElem?_append_right (by simp; omega), show (i + 1) * 3 + j - [strV p.1.name, p.2, strV p.1.code].length = i * 3 + j by simp; omega, flatA_get ps i j hj]
      rfl
theorem NamesAt.of_owns {w : World} {v : Value} {ss : List Nm} (h : w.ownsRow 0 9 1 v ss.length (ss.map nmV)) (hl : ss.length ≤ maxLen) (hw : ∀ s ∈ ss, s.length ≤ maxLen) : NamesAt w v ss := by
  refine ⟨?_, by simpa using hl, fun s hs => by obtain ⟨y, hy, rfl⟩ := List.mem_map.1 hs; rw [bs_size]; exact hw y hy⟩
  rcases h.2 with ⟨rfl, h0⟩ | ⟨g, cap, cur, rfl, _⟩
  · left; exact ⟨rfl, by rw [List.length_eq_zero_iff.1 h0]; rfl⟩
  · right
    refine ⟨⟨g, 0, none⟩, cap, by simp, fun i hi => ?_⟩
    have hi' : i < ss.length := by simpa using hi
    have h3 := h.cellAt i (by simpa using hi')
    have e3 : (⟨g, 0, none⟩ : Addr).add i = ⟨g, i, none⟩ := by unfold Addr.add; split <;> simp_all
    rw [e3, h3]
    simp [hi']
theorem ActsAt.of_owns {w : World} {v : Value} {ps : List (ActR × Value)} (h : w.ownsRow 0 43 3 v ps.length (flatA ps)) (hl : ps.length ≤ maxLen) (hi : ∀ p ∈ ps, NamesAt w p.2 p.1.ins)
    (hw : ∀ p ∈ ps, p.1.name.length ≤ maxLen ∧ p.1.code.length ≤ maxLen) : ActsAt w v (ps.map Prod.fst) (fun i => (ps.map (·.2)).getD i (.bool true)) := by
  refine ⟨⟨?_, by simpa using hl, fun i _ => rfl⟩, ?_, ?_⟩
  · rcases h.2 with ⟨rfl, h0⟩ | ⟨g, cap, cur, rfl, _⟩
    · left; exact ⟨rfl, by simpa using h0⟩
    · right
      refine ⟨⟨g, 0, none⟩, cap, by simp, fun i hi j hj => ?_⟩
      have hi' : i < ps.length := by simpa using hi
      have h3 := h.cellAt (i * 3 + j) (by omega)
      have e3 : (⟨g, 0, none⟩ : Addr).add (i * 3 + j) = ⟨g, i * 3 + j, none⟩ := by unfold Addr.add; split <;> simp_all
      rw [e3, h3, flatA_get ps i j hj]
      simp [hi', strV]
  · intro i hi2
    have hi' : i < ps.length := by simpa using hi2
    have := hi ps[i] (List.getElem_mem hi')
    simpa [List.getD_eq_getElem?_getD, hi'] using this
  · intro a ha
    obtain ⟨p, hp, rfl⟩ := List.mem_map.1 ha
    exact hw p hp
/-- A slice just laid, of names. -/
theorem names_new (w : World) (ss : List Nm) (n : Nat) (hn : n = ss.length) (hl : n ≤ 1000) (hw : ∀ s ∈ ss, s.length ≤ 1000) : NamesAt (w.alloc (.cells (ss.map nmV).toArray 9)) (.slice (some ⟨w.heap.size, 0, none⟩) n n) ss := by
  subst hn
  exact NamesAt.of_owns (owns_new w (ss.map nmV) 9 1 ss.length (by simp) (by unfold maxLen; omega)) (by unfold maxLen; omega) (fun s hs => by have := hw s hs; unfold maxLen; omega)
end Go.Proofs.YthglfmacjoecgaaGreatDoor
namespace Go.Proofs.YthglfmacjoecgaaGreatDoor
open Go

/-- The build with an action more. -/
def more (g : GrR) (a : ActR) : GrR := ⟨g.srcs, g.acts ++ [a]⟩
theorem grOK_more {g : GrR} {a : ActR} (h : grOK g = true) (hl : g.acts.length < 12) (ha : actOK a = true) : grOK (more g a) = true := by
  obtain ⟨h1, h2, h3, h4⟩ := (grOK_iff g).1 h
  refine (grOK_iff _).2 ⟨h1, by simp [more]; omega, h3, fun b hb => ?_⟩
  rcases List.mem_append.1 hb with hb | hb
  · exact h4 b hb
  · simp at hb; subst hb; exact ha
theorem names_more (g : GrR) (a : ActR) : namesL (more g a) = namesL g ++ [a.name] := by unfold namesL more; simp
theorem more_len (g : GrR) (a : ActR) : (more g a).acts.length = g.acts.length + 1 := by simp [more]
theorem nameAt_more (g : GrR) (a : ActR) {i : Nat} (h : i < g.acts.length) : nameAt (more g a) i = nameAt g i := by
  rw [nameAt_lt _ i (by rw [more_len]; omega), nameAt_lt _ i h]
  simp [more, List.getElem_append_left h]
theorem insAt_more (g : GrR) (a : ActR) {i : Nat} (h : i < g.acts.length) : insAt (more g a) i = insAt g i := by
  rw [insAt_lt _ i (by rw [more_len]; omega), insAt_lt _ i h]
  simp [more, List.getElem_append_left h]
theorem nameAt_new (g : GrR) (a : ActR) : nameAt (more g a) g.acts.length = a.name := by
  rw [nameAt_lt _ _ (by rw [more_len]; omega)]
  simp [more]
theorem check_twice {g : GrR} (hc : Can g) (hl : g.acts.length < 12) {k : Nat} (hk : k < g.acts.length) : checkR (more g ⟨nameAt g k, [], []⟩) = 21 := by
  have hn : nameL (nameAt g k) = true := by
    rw [nameAt_lt g k hk]
    exact ((actOK_iff _).1 (((grOK_iff g).1 hc.w.ok).2.2.2 _ (List.getElem_mem hk))).1
  have hok : grOK (more g ⟨nameAt g k, [], []⟩) = true := grOK_more hc.w.ok hl ((actOK_iff _).2 ⟨hn, by simp, by simp, by simp⟩)
  have hd : dupB (more g ⟨nameAt g k, [], []⟩) = true := by
    unfold dupB
    rw [names_more]
    have : ¬ (namesL g ++ [nameAt g k]).Nodup := by
      rw [List.nodup_append]
      rintro ⟨_, _, h⟩
      exact h _ (mem_names.2 (.inr ⟨k, hk, rfl⟩)) (nameAt g k) (by simp) rfl
    simp [this]
  unfold checkR wovenR
  rw [hok, hd]
  rfl
theorem check_miss {g : GrR} (hc : Can g) (hl : g.acts.length < 12) {f y : Nm} (hf : nameL f = true) (hy : nameL y = true) (h1 : f ∉ namesL g) (h2 : y ∉ namesL g) (h3 : y ≠ f) : checkR (more g ⟨f, [y, f], []⟩) = 22 := by
  have hok : grOK (more g ⟨f, [y, f], []⟩) = true := grOK_more hc.w.ok hl ((actOK_iff _).2 ⟨hf, by intro s hs; simp at hs; rcases hs with rfl | rfl <;> assumption, by simp, by simp⟩)
  have hd : dupB (more g ⟨f, [y, f], []⟩) = false := by
    unfold dupB
    rw [names_more]
    have : (namesL g ++ [f]).Nodup := by
      rw [List.nodup_append]
      exact ⟨hc.w.nd, by simp, fun a ha b hb => by simp at hb; subst hb; intro e; exact h1 (e ▸ ha)⟩
    simp [this]
  have hm : missB (more g ⟨f, [y, f], []⟩) = true := by
    unfold missB
    rw [List.any_eq_true]
    refine ⟨⟨f, [y, f], []⟩, by simp [more], ?_⟩
    rw [List.any_eq_true]
    refine ⟨y, by simp, ?_⟩
    rw [names_more]
    simp [h2, h3]
  unfold checkR wovenR
  rw [hok, hd, hm]
  rfl

section
variable {g : GrR} {a : ActR}
theorem ready_more {l : List Nat} (hl : ∀ i ∈ l, i < g.acts.length) (b : ActR) : readyB (more g a) l b = readyB g l b := by
  unfold readyB
  have e : l.map (nameAt (more g a)) = l.map (nameAt g) := List.map_congr_left (fun i hi => nameAt_more g a (hl i hi))
  rw [e]
  rfl
theorem step_more {l : List Nat} (hl : ∀ i ∈ l, i < g.acts.length) : stepR (more g a) l = match stepR g l with
    | some i => some i
    | none => if readyB g l a then some g.acts.length else none := by
  unfold stepR
  show (g.acts ++ [a]).findIdx? (readyB (more g a) l) = _
  rw [List.findIdx?_append]
  have e : readyB (more g a) l = readyB g l := funext (ready_more hl)
  rw [e]
  cases g.acts.findIdx? (readyB g l) with
  | some i => rfl
  | none =>
    cases h : readyB g l a <;> simp [List.findIdx?_cons, h]
theorem order_more : ∀ (m : Nat) (l : List Nat), Ordd g l → m + l.length = g.acts.length → (orderGo g m l).length = g.acts.length →
    orderGo (more g a) (m + 1) l = orderGo g m l ∨ orderGo (more g a) (m + 1) l = orderGo g m l ++ [g.acts.length]
  | 0, l, ho, hm, hl => by
    have hs := ho.stop (by omega)
    have hst := step_more (a := a) ho.lt
    rw [hs] at hst
    show (match stepR (more g a) l with | none => l | some i => l ++ [i]) = l ∨ (match stepR (more g a) l with | none => l | some i => l ++ [i]) = l ++ [g.acts.length]
    rw [hst]
    cases readyB g l a
    · exact .inl rfl
    · exact .inr rfl
  | m + 1, l, ho, hm, hl => by
    have hst := step_more (a := a) ho.lt
    cases hs : stepR g l with
    | none =>
      have e : orderGo g (m + 1) l = l := by unfold orderGo; rw [hs]
      rw [e] at hl
      omega
    | some i =>
      rw [hs] at hst
      have e : orderGo g (m + 1) l = orderGo g m (l ++ [i]) := by conv => lhs; unfold orderGo; rw [hs]
      have e2 : orderGo (more g a) (m + 1 + 1) l = orderGo (more g a) (m + 1) (l ++ [i]) := by
        conv => lhs; unfold orderGo; rw [hst]
      rw [e] at hl ⊢
      rw [e2]
      exact order_more m (l ++ [i]) (ho.snoc hs) (by simp; omega) hl
theorem orderR_more (hg : Can g) (hh : Can (more g a)) : orderR (more g a) = orderR g ++ [g.acts.length] := by
  have h := order_more (a := a) g.acts.length [] (Ordd.nil g) (by simp) hg.full
  have hf := hh.full
  unfold orderR at *
  rw [more_len] at *
  rcases h with h | h
  · rw [h] at hf
    have := hg.full
    unfold orderR at this
    omega
  · exact h
theorem place_more (hh : Wov (more g a)) {s : Nm} (hs : s ∈ namesL g) : placeOf (more g a) s = placeOf g s := by
  unfold placeOf
  show (g.acts ++ [a]).findIdx? _ = _
  rw [List.findIdx?_append]
  cases h : g.acts.findIdx? (fun b => b.name == s) with
  | some i => rfl
  | none =>
    have hne : (a.name == s) = false := by
      have := hh.nd
      rw [names_more, List.nodup_append] at this
      have h2 := this.2.2 s hs a.name (by simp)
      simpa using fun e : a.name = s => h2 e.symm
    simp [List.findIdx?_cons, hne]
theorem actIns_more (_ : Wov g) (hh : Wov (more g a)) {s : Nm} (hs : s ∈ namesL g) : actIns (more g a) s = actIns g s := by
  unfold actIns
  rw [place_more hh hs]
  cases hp : placeOf g s with
  | none => rfl
  | some i => exact insAt_more g a (placeOf_some hp).1
theorem needs_more (hg : Wov g) (hh : Wov (more g a)) {i : Nat} (hi : i < g.acts.length) (s : Nm) : Needs (more g a) i s ↔ Needs g i s := by
  constructor
  · intro h
    induction h with
    | base h => exact .base (by rw [insAt_more g a hi] at h; exact h)
    | step _ h ih => exact .step ih (by rw [actIns_more hg hh (ih.names hg hi)] at h; exact h)
  · intro h
    induction h with
    | base h => exact .base (by rw [insAt_more g a hi]; exact h)
    | step ht h ih => exact .step ih (by rw [actIns_more hg hh (ht.names hg hi)]; exact h)
theorem needsR_more (hg : Can g) (hh : Can (more g a)) {i : Nat} (hi : i < g.acts.length) : needsR (more g a) i = needsR g i :=
  rise_ext (needsR_rise _ _) (needsR_rise _ _) (fun s => by
    rw [hh.mem_needs (by rw [more_len]; omega), hg.mem_needs hi, needs_more hg.w hh.w hi])
theorem dirtyB_more (hg : Can g) (hh : Can (more g a)) (names : List Nm) {i : Nat} (hi : i < g.acts.length) : dirtyB (more g a) names i = dirtyB g names i := by
  unfold dirtyB
  rw [nameAt_more g a hi, needsR_more hg hh hi]
theorem dirtyR_more (hg : Can g) (hh : Can (more g a)) (names : List Nm) : dirtyR (more g a) names = dirtyR g names ++ (if dirtyB (more g a) names g.acts.length then [g.acts.length] else []) := by
  unfold dirtyR
  rw [more_len, List.range_succ, List.filter_append]
  have e : (List.range g.acts.length).filter (dirtyB (more g a) names) = (List.range g.acts.length).filter (dirtyB g names) := by
    apply List.filter_congr
    intro i hi
    exact dirtyB_more hg hh names (List.mem_range.1 hi)
  rw [e]
  congr 1
  cases h : dirtyB (more g a) names g.acts.length <;> simp [h]
theorem needsOf_more (hg : Can g) (hh : Can (more g a)) {i : Nat} (hi : i < g.acts.length) : needsOf (more g a) (nameAt g i) = needsOf g (nameAt g i) := by
  have hs : nameAt g i ∈ namesL g := mem_names.2 (.inr ⟨i, hi, rfl⟩)
  unfold needsOf
  rw [if_pos (can_iff.2 hh), if_pos (can_iff.2 hg), place_more hh.w hs, hg.w.place hi]
  exact needsR_more hg hh hi
end
/-- How many are dirty ahead of a place; whether it stands next. -/
theorem dirty_at (g : GrR) (names : List Nm) (i : Nat) (hi : i < g.acts.length) :
    ((dirtyR g names)[((List.range i).filter (dirtyB g names)).length]? = some i ↔ dirtyB g names i = true) := by
  have e : dirtyR g names = (List.range i).filter (dirtyB g names) ++ ((List.range g.acts.length).drop i).filter (dirtyB g names) := by
    unfold dirtyR
    conv => lhs; rw [← List.take_append_drop i (List.range g.acts.length), List.filter_append]
    rw [List.take_range, Nat.min_eq_left (by omega)]
  have e2 : (List.range g.acts.length).drop i = i :: (List.range g.acts.length).drop (i + 1) := by
    rw [List.drop_eq_getElem_cons (by simpa using hi)]
    simp
  rw [e, List.getElem?_append_right (Nat.le_refl _), Nat.sub_self, e2, List.filter_cons]
  by_cases h : dirtyB g names i = true
  · simp [h]
  · rw [if_neg h]
    constructor
    · intro hs
      exfalso
      have hm : i ∈ ((List.range g.acts.length).drop (i + 1)).filter (dirtyB g names) := List.mem_of_getElem? hs
      exact h (List.mem_filter.1 hm).2
    · intro hd; exact absurd hd h
end Go.Proofs.YthglfmacjoecgaaGreatDoor
namespace Go.Proofs.YthglfmacjoecgaaGreatDoor
open Go.RowKit

/-- What needs' answer says, in the law's words. -/
structure NeedFacts (g : GrR) (i : Nat) (n : List Nm) : Prop where
  rise : ∀ q (h : q < n.length), 0 < q → n[q - 1]'(by omega) < n[q]
  from_ : ∀ s ∈ n, s ∈ insAt g i ∨ ∃ t ∈ insAt g i, s ∈ needsOf g t
  ins : ∀ s ∈ insAt g i, s ∈ n
  self : nameAt g i ∉ n
  le8 : ∀ s ∈ n, s.length ≤ 8
  le20 : n.length ≤ 20
theorem rise_nodup : ∀ {l : List Nm}, Rise l → l.Nodup := fun h => h.imp (fun hlt e => by subst e; exact List.lt_irrefl _ hlt)
theorem Can.needFacts {g : GrR} (hc : Can g) {i : Nat} (hi : i < g.acts.length) : NeedFacts g i (needsR g i) := by
  refine ⟨fun q h hq => ?_, fun s hs => ?_, fun s hs => ?_, fun h => hc.irrefl hi ((hc.mem_needs hi).1 h), fun s hs => name_le hc.w (((hc.mem_needs hi).1 hs).names hc.w hi), ?_⟩
  · exact (List.pairwise_iff_getElem.1 (needsR_rise g i)) (q - 1) q (by omega) h (by omega)
  · rcases ((hc.mem_needs hi).1 hs).front with h | ⟨t, ht, j, hj, h⟩
    · exact .inl h
    · refine .inr ⟨t, ht, ?_⟩
      unfold needsOf
      rw [if_pos (can_iff.2 hc), hj]
      exact (hc.mem_needs (placeOf_some hj).1).2 h
  · exact (hc.mem_needs hi).2 (.base hs)
  · have h1 := sub_length (needsR g i) (namesL g) (rise_nodup (needsR_rise g i)) (fun s hs => ((hc.mem_needs hi).1 hs).names hc.w hi)
    have h2 := hc.w.srcs8
    have h3 := hc.w.acts12
    unfold namesL at h1
    simp at h1
    omega
theorem needsOf_at {g : GrR} (hc : Can g) {i : Nat} (hi : i < g.acts.length) : needsOf g (nameAt g i) = needsR g i := by
  unfold needsOf
  rw [if_pos (can_iff.2 hc), hc.w.place hi]
theorem less_bs {a b : Nm} (h : a < b) : Op.bytesLess (bs a).toList (bs b).toList = true := by
  rw [Lib.toList_data, Lib.toList_data, bs_data, bs_data, bytesLess_eq]
  simpa using h
theorem names_own {w : World} {v : Value} {l : List Nm} (h : w.ownsRow 0 9 1 v l.length (l.map nmV)) (h1 : l.length ≤ 100) (h2 : ∀ s ∈ l, s.length ≤ 1000) : NamesAt w v l :=
  NamesAt.of_owns h (by unfold maxLen; omega) (fun s hs => by have := h2 s hs; unfold maxLen; omega)

theorem needsOf_small {g : GrR} (hc : Can g) (t : Nm) : (needsOf g t).length ≤ 20 ∧ ∀ s ∈ needsOf g t, s.length ≤ 8 := by
  unfold needsOf
  rw [if_pos (can_iff.2 hc)]
  cases hp : placeOf g t with
  | none => simp
  | some i => exact ⟨(hc.needFacts (placeOf_some hp).1).le20, (hc.needFacts (placeOf_some hp).1).le8⟩
end Go.Proofs.YthglfmacjoecgaaGreatDoor
namespace Go.Proofs.YthglfmacjoecgaaGreatDoor
open Go.RowKit

def resL (r : ResR) : List Value := [.int .i64 r.1, .string r.2]
/-- v is a slice of the results rs. -/
structure ResAt (w : World) (v : Value) (rs : List ResR) : Prop where
  rows : RowsAt w v 2 rs.length (fun i => resL (rs.getD i noRes))
  wide : ∀ r ∈ rs, r.2.size ≤ maxLen
theorem ResAt.chg {F : Nat → Prop} {w w' : World} {v : Value} {rs : List ResR} (h : ResAt w v rs) (hc : Chg F w w') (hF : ∀ k, k < w.heap.size → ¬ F k) : ResAt w' v rs := ⟨h.rows.chg hc hF, h.wide⟩
theorem ResAt.len {w0 : World} {v : Value} {rs : List ResR} (h : ResAt w0 v rs) (w : World) (ty : TypeId) : (Builtin.len_ #[58] ty #[v]).run Tryz.prog w = .ok (.int .i64 rs.length) w :=
  RowsAt.len (P := Tryz.prog) h.rows Tryz.underlying58 w ty
theorem ResAt.ix {w : World} {v : Value} {rs : List ResR} (h : ResAt w v rs) (k : Nat) (hk : k < rs.length) :
    ∃ bb oo, (∀ w, (Instr.indexAt 58 v (.int .i64 k)).run Tryz.prog w = .ok (.pointer (some ⟨bb, oo, none⟩)) w) ∧ w.cell? ⟨bb, oo, none⟩ = some (.int .i64 rs[k].1) ∧ w.cell? ⟨bb, oo + 1, none⟩ = some (.string rs[k].2) ∧ bb < w.heap.size := by
  obtain ⟨bb, oo, h1, h2, h3⟩ := RowsAt.ix (P := Tryz.prog) h.rows Tryz.underlying58 (fun w => by kernel_rfl) (by decide) k hk
  have e := getD_of_lt rs noRes k hk
  refine ⟨bb, oo, h1, ?_, ?_, h3⟩
  · have := h2 0 (by decide)
    rw [e] at this
    exact this
  · have := h2 1 (by decide)
    rw [e] at this
    exact this
theorem ResAt.form {w : World} {v : Value} {rs : List ResR} (h : ResAt w v rs) : ∃ oa c, v = .slice oa rs.length c := by
  rcases h.rows.form with ⟨h1, h2⟩ | ⟨a, cap, h1, _⟩
  · exact ⟨none, 0, by rw [h1, h2]⟩
  · exact ⟨some a, cap, h1⟩
theorem ResAt.nil (w : World) : ResAt w (.slice none 0 0) [] := ⟨⟨.inl ⟨rfl, rfl⟩, Nat.zero_le _, fun i hi => absurd hi (Nat.not_lt_zero _)⟩, by simp⟩

def bl (s : ByteArray) : List UInt8 := s.data.toList
theorem bl_bs (l : List UInt8) : bl (bs l) = l := bs_data l
theorem bs_bl (s : ByteArray) : bs (bl s) = s := bs_list s
theorem bl_len (s : ByteArray) : (bl s).length = s.size := by unfold bl; simp
/-- What a key's row says of a result. -/
def wordR (r : ResR) : List UInt8 := if r.1 = 0 then 100 :: bl (hashS r.2) else 101 :: numL r.1
def wAction : List UInt8 := [97, 99, 116, 105, 111, 110]
def keyTs (code : ByteArray) (rs : List ResR) : List (List UInt8) := wAction :: bl code :: rs.map wordR
/-- A key's bytes. -/
def keyF (code : ByteArray) (rs : List ResR) : Nat → UInt8 := ofB [bs (rowN (keyTs code rs))]
theorem wordR_len (r : ResR) : (wordR r).length ≤ 33 := by
  unfold wordR
  split
  · simp [bl_len, hashS_size]
  · have := numL_len r.1
    simp; omega
theorem keyTs_wide (code : ByteArray) (hc : code.size ≤ 1000) (rs : List ResR) : ∀ t ∈ keyTs code rs, t.length ≤ 1000 := by
  intro t ht
  simp only [keyTs, List.mem_cons, List.mem_map] at ht
  rcases ht with rfl | rfl | ⟨r, _, rfl⟩
  · decide
  · rw [bl_len]; exact hc
  · have := wordR_len r; omega
theorem keyTs_len (code : ByteArray) (rs : List ResR) : (keyTs code rs).length = rs.length + 2 := by simp [keyTs]
theorem keyTs_row (code : ByteArray) (hc : code.size ≤ 1000) (rs : List ResR) (hn : rs.length ≤ 32) : (rowN (keyTs code rs)).length ≤ 90000 := by
  have := rowN_len (keyTs code rs) 1000 (keyTs_wide code hc rs)
  rw [keyTs_len] at this
  have h2 : (1000 + 9) * (rs.length + 2) ≤ (1000 + 9) * 34 := Nat.mul_le_mul_left _ (by omega)
  omega
theorem keyTs_take (code : ByteArray) (rs : List ResR) (k : Nat) (h : k < rs.length) : keyTs code (rs.take (k + 1)) = keyTs code (rs.take k) ++ [wordR rs[k]] := by
  unfold keyTs
  rw [List.take_succ_eq_append_getElem h, List.map_append]
  rfl
/-- The codes are numbers of 64 bits. -/
def Codes (rs : List ResR) : Prop := ∀ r ∈ rs, -9223372036854775808 ≤ r.1 ∧ r.1 ≤ 9223372036854775807
theorem conv_hash (x : ByteArray) (W : World) (d : Nat) {T : TypeId} {fz : Nat × Nat} (hb : W.heap[d]? = some (.cells (rowB 32 (ofB [x])) T fz)) :
    (convert 125 9 (.slice (some ⟨d, 0, none⟩) 32 32)).run Tryz.prog W = .ok (.string (hashS x)) W := by
  have hby : Lib.Bytes W d 0 (hashS x) := by
    intro i hi
    rw [Nat.zero_add, rowB_cell hb i (by rw [hashS_size] at hi; exact hi), hashS_get x i hi]
  have := Lib.run_convert_whole (P := Tryz.prog) W 125 5 9 Tryz.underlying125 Tryz.underlying5 Tryz.underlying9 d 0 (hashS x) hby 32
  rwa [hashS_size] at this
end Go.Proofs.YthglfmacjoecgaaGreatDoor
