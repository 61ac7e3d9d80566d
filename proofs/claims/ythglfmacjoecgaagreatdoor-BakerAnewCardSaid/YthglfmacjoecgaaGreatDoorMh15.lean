/- Texts of the proof, one behind the other: The digest of one text, in plain words: all blocks of the padded text, one behind the other, as the document has it. No program in sight; apiaryref02.consts and Of walked; apiaryref02.Of walked; apiaryref03.Bytes, bytes walked: a digest's bytes as a text; stamp.Row, apiaryref02.Row walked; What of a build stands on what, in plain words: names, the order, what an action needs, what is dirty. No program in sight. -/
import Derived.Test.YthglfmacjoecgaaGreatDoorMh14
import Derived.Test.YthglfmacjoecgaaGreatDoorMh12
import Derived.StillTailTactics
import Derived.Test.YthglfmacjoecgaaGreatDoorMh07
import Derived.Test.YthglfmacjoecgaaGreatDoorMh01
namespace Go.Proofs.YthglfmacjoecgaaGreatDoor
open Go.RowKit

end Go.Proofs.YthglfmacjoecgaaGreatDoor
namespace Go.Proofs.YthglfmacjoecgaaGreatDoor
open Go.RowKit

section
variable {P : Program} {w : World} {ops : Array Oper} {rest : List Oper} {o : Oper} {a : Act} {Q : Exit → Act → World → Prop}
end

end Go.Proofs.YthglfmacjoecgaaGreatDoor
namespace Go.Proofs.YthglfmacjoecgaaGreatDoor
open Go.RowKit

section
variable {P : Program} {w : World} {ops : Array Oper} {rest : List Oper} {o : Oper} {a : Act} {Q : Act → Prop}
end

end Go.Proofs.YthglfmacjoecgaaGreatDoor
namespace Go.Proofs.YthglfmacjoecgaaGreatDoor
open Go.RowKit

end Go.Proofs.YthglfmacjoecgaaGreatDoor
namespace Go.Proofs.YthglfmacjoecgaaGreatDoor
open Go.RowKit

theorem TabsOK.mono {B B' : Nat} {w : World} (h : TabsOK B w) (hB : B ≤ B') : TabsOK B' w := ⟨h.pow, h.wds, Nat.lt_of_lt_of_le h.gp hB, Nat.lt_of_lt_of_le h.gw hB⟩
theorem TabsOK.keep {B : Nat} {w w' : World} (h : TabsOK B w) (hc : Chg (fun _ => False) w w') : TabsOK B w' := h.chg (hc.mono (fun _ _ h => h.elim))
/-- stamp.Of at one text in a row just laid. -/
theorem of_one {B : Nat} (x : ByteArray) (hx : x.size ≤ 100000) (w : World) (hT : TabsOK B w) (hB : B ≤ w.heap.size) :
    Calls Tryz.prog 28 #[.slice (some ⟨w.heap.size, 0, none⟩) 1 1] (w.alloc (.cells #[.string x] 9)) (Rets (.agg (rowB 32 (ofB [x]))) (Chg (fun _ => False) (w.alloc (.cells #[.string x] 9)))) := by
  have hT2 := hT.keep ((Chg.refl (fun _ => False) w).alloc (.cells #[.string x] 9))
  refine of_any _ [x] w.heap.size 1 1 rfl (by simp) (by simp [sumSize]; omega) (fun i hi => ?_) (by simp) hT2.wds (by have := hT.gw; show gWds < _; simp; omega)
  obtain rfl : i = 0 := by simp at hi; omega
  exact cell_of (heap_alloc_new' w _) 0

set_option maxRecDepth 100000 in
set_option maxHeartbeats 2000000 in
theorem srow_any {B : Nat} (ts : List (List UInt8)) (hr : (rowN ts).length ≤ 90000) (hl : ts.length ≤ 1000) (v : Value) (w : World) (hin : NamesAt w v ts) (hT : TabsOK B w) (hB : B ≤ w.heap.size) :
    Calls Tryz.prog 67 #[v] w (Rets (.agg (rowB 32 (ofB [bs (rowN ts)]))) (Chg (fun _ => False) w)) := by
  have hrow : ∀ W, Chg (fun _ => False) w W → Calls Tryz.prog 63 #[v] W (Rets (.string (bs (rowN ts))) (Chg (fun _ => False) W)) := fun W hW => row_any ts hr hl v W (hin.chg hW (fun _ _ h => h))
  have hX : (bs (rowN ts)).size ≤ 100000 := by rw [bs_size]; omega
  obtain ⟨X, hXX⟩ : ∃ X, X = bs (rowN ts) := ⟨_, rfl⟩
  rw [← hXX] at hrow hX ⊢
  have hof : ∀ W, Chg (fun _ => False) w W → Calls Tryz.prog 28 #[.slice (some ⟨W.heap.size, 0, none⟩) 1 1] (W.alloc (.cells #[.string X] 9)) (Rets (.agg (rowB 32 (ofB [X]))) (Chg (fun _ => False) (W.alloc (.cells #[.string X] 9)))) := fun W hW =>
    of_one X hX W (hT.keep hW) (Nat.le_trans hB hW.size)
  have HROW := hid hrow
  have HOF := hid hof
  clear hrow hof hXX hin hT hr
  generalize ofB [X] = D at *
  go_enter Tryz.func67, Tryz.ntmps67
  go_wp2_with (first | (refine wpList_alloc0 rfl 57 rfl (rowB 32 (fun _ => 0)) (alloc37 _) ?_; intro w1 ha1 hs1 hc1) | (go_at_call 63; refine (HROW.out _ hc1).mono ?_; rintro e w2 ⟨rfl, hc2⟩; have hc12 := hc1.trans hc2 (fun _ _ h => h)) | (go_at_call 28; refine (HOF.out _ hc12).mono ?_; rintro e w3 ⟨rfl, hc3⟩; have hc13 := (hc2.alloc (.cells #[.string X] 9)).trans hc3 (fun _ _ h => h); have hblk := hc13.obj ha1 (fun h => h)) | (refine wpList_store0 rfl 57 _ _ rfl w.heap.size (rowB 32 (fun _ => 0)) (rowB 32 D) rfl rfl hblk (by rw [rowB_size]; exact size37) rfl (rowB_one _ _) ?_; intro w5 hb5 hs5 hc5))
  refine bodyPost_ret (v := .agg (rowB 32 D)) ?_ rfl ⟨rfl, ?_⟩
  · exact results_row Tryz.results67 _ _ w.heap.size rfl _ (run_loadVar_row _ w.heap.size 57 57 _ (0, 0) (.array 32 5) hb5 Tryz.underlying57 rfl (by rw [rowB_size]; kernel_rfl))
  · exact (hc1.trans hc13 (fun _ _ h => h)).trans hc5 (fun i hi h => by omega)

end Go.Proofs.YthglfmacjoecgaaGreatDoor
namespace Go.Proofs.YthglfmacjoecgaaGreatDoor
open Go

abbrev Nm := List UInt8
def nameAt (g : GrR) (i : Nat) : Nm := (g.acts.getD i noAct).name
def insAt (g : GrR) (i : Nat) : List Nm := (g.acts.getD i noAct).ins
def namesL (g : GrR) : List Nm := g.srcs ++ g.acts.map (·.name)
/-- The place of the action of a name. -/
def placeOf (g : GrR) (s : Nm) : Option Nat := g.acts.findIdx? (fun a => a.name == s)

theorem getD_of_lt {α : Type} (l : List α) (d : α) (i : Nat) (h : i < l.length) : l.getD i d = l[i] := by
  simp [List.getD_eq_getElem?_getD, h]
theorem nameAt_lt (g : GrR) (i : Nat) (h : i < g.acts.length) : nameAt g i = g.acts[i].name := by unfold nameAt; rw [getD_of_lt _ _ _ h]
theorem insAt_lt (g : GrR) (i : Nat) (h : i < g.acts.length) : insAt g i = g.acts[i].ins := by unfold insAt; rw [getD_of_lt _ _ _ h]
/-- A build that can be but for rings. -/
structure Wov (g : GrR) : Prop where
  ok : grOK g = true
  nd : (namesL g).Nodup
  ins : ∀ a ∈ g.acts, ∀ s ∈ a.ins, s ∈ namesL g

theorem Wov.srcs8 {g : GrR} (h : Wov g) : g.srcs.length ≤ 8 := ((grOK_iff g).1 h.ok).1
theorem Wov.acts12 {g : GrR} (h : Wov g) : g.acts.length ≤ 12 := ((grOK_iff g).1 h.ok).2.1
theorem Wov.inj {g : GrR} (h : Wov g) {i j : Nat} (hi : i < g.acts.length) (hj : j < g.acts.length) (e : nameAt g i = nameAt g j) : i = j := by
  have hn : (g.acts.map (·.name)).Nodup := (List.nodup_append.1 h.nd).2.1
  rw [nameAt_lt g i hi, nameAt_lt g j hj] at e
  have := List.pairwise_iff_getElem.1 hn
  by_cases hij : i = j
  · exact hij
  · rcases Nat.lt_or_gt_of_ne hij with h1 | h1
    · exact absurd (by rw [List.getElem_map, List.getElem_map]; exact e) (this i j (by simpa using hi) (by simpa using hj) h1)
    · exact absurd (by rw [List.getElem_map, List.getElem_map]; exact e.symm) (this j i (by simpa using hj) (by simpa using hi) h1)
theorem Wov.apart {g : GrR} (h : Wov g) {i : Nat} (hi : i < g.acts.length) : nameAt g i ∉ g.srcs := by
  intro hs
  have := (List.nodup_append.1 h.nd).2.2 _ hs (nameAt g i) (by rw [nameAt_lt g i hi]; exact List.mem_map.2 ⟨_, List.getElem_mem hi, rfl⟩)
  exact this rfl

theorem placeOf_some {g : GrR} {s : Nm} {i : Nat} (h : placeOf g s = some i) : i < g.acts.length ∧ nameAt g i = s := by
  unfold placeOf at h
  rw [List.findIdx?_eq_some_iff_getElem] at h
  obtain ⟨hi, he, _⟩ := h
  refine ⟨hi, ?_⟩
  rw [nameAt_lt g i hi]
  simpa using he
theorem placeOf_none {g : GrR} {s : Nm} (h : placeOf g s = none) : ∀ i, i < g.acts.length → nameAt g i ≠ s := by
  unfold placeOf at h
  rw [List.findIdx?_eq_none_iff] at h
  intro i hi e
  rw [nameAt_lt g i hi] at e
  have := h _ (List.getElem_mem hi)
  simp [e] at this
theorem Wov.place {g : GrR} (h : Wov g) {i : Nat} (hi : i < g.acts.length) : placeOf g (nameAt g i) = some i := by
  cases hp : placeOf g (nameAt g i) with
  | none => exact absurd rfl (placeOf_none hp i hi)
  | some j =>
    obtain ⟨hj, e⟩ := placeOf_some hp
    rw [h.inj hj hi e]
theorem mem_names {g : GrR} {s : Nm} : s ∈ namesL g ↔ s ∈ g.srcs ∨ ∃ i, i < g.acts.length ∧ nameAt g i = s := by
  unfold namesL
  rw [List.mem_append, List.mem_map]
  constructor
  · rintro (h | ⟨a, ha, rfl⟩)
    · exact .inl h
    · obtain ⟨i, hi, rfl⟩ := List.mem_iff_getElem.1 ha
      exact .inr ⟨i, hi, nameAt_lt g i hi⟩
  · rintro (h | ⟨i, hi, rfl⟩)
    · exact .inl h
    · exact .inr ⟨_, List.getElem_mem hi, (nameAt_lt g i hi).symm⟩
theorem Wov.insAt {g : GrR} (h : Wov g) {i : Nat} (hi : i < g.acts.length) {s : Nm} (hs : s ∈ insAt g i) : s ∈ namesL g := by
  rw [insAt_lt g i hi] at hs
  exact h.ins _ (List.getElem_mem hi) s hs
theorem Wov.src_or {g : GrR} (h : Wov g) {s : Nm} (hs : s ∈ namesL g) : (s ∈ g.srcs ∧ placeOf g s = none) ∨ ∃ i, i < g.acts.length ∧ nameAt g i = s ∧ placeOf g s = some i ∧ s ∉ g.srcs := by
  rcases mem_names.1 hs with h1 | ⟨i, hi, rfl⟩
  · left
    refine ⟨h1, ?_⟩
    cases hp : placeOf g s with
    | none => rfl
    | some j =>
      obtain ⟨hj, e⟩ := placeOf_some hp
      exact absurd (e ▸ h1) (h.apart hj)
  · exact .inr ⟨i, hi, rfl, h.place hi, h.apart hi⟩

/-- Whether an action can be made, these being made. -/
def readyB (g : GrR) (l : List Nat) (a : ActR) : Bool := !(l.map (nameAt g)).contains a.name && a.ins.all fun s => g.srcs.contains s || (l.map (nameAt g)).contains s
def stepR (g : GrR) (l : List Nat) : Option Nat := g.acts.findIdx? (readyB g l)
def orderGo (g : GrR) : Nat → List Nat → List Nat
  | 0, l => l
  | n + 1, l => match stepR g l with
    | none => l
    | some i => orderGo g n (l ++ [i])
def orderR (g : GrR) : List Nat := orderGo g g.acts.length []

theorem readyB_iff {g : GrR} {l : List Nat} {a : ActR} : readyB g l a = true ↔ (∀ j ∈ l, nameAt g j ≠ a.name) ∧ ∀ s ∈ a.ins, s ∈ g.srcs ∨ ∃ j ∈ l, nameAt g j = s := by
  unfold readyB
  simp [List.all_eq_true]
theorem stepR_some {g : GrR} {l : List Nat} {i : Nat} (h : stepR g l = some i) : i < g.acts.length ∧ (∀ j ∈ l, nameAt g j ≠ nameAt g i) ∧ (∀ s ∈ insAt g i, s ∈ g.srcs ∨ ∃ j ∈ l, nameAt g j = s) ∧
    ∀ k, k < i → readyB g l (g.acts.getD k noAct) = false := by
  unfold stepR at h
  rw [List.findIdx?_eq_some_iff_getElem] at h
  obtain ⟨hi, he, hf⟩ := h
  obtain ⟨r1, r2⟩ := readyB_iff.1 he
  refine ⟨hi, ?_, ?_, fun k hk => ?_⟩
  · rw [nameAt_lt g i hi]; exact r1
  · rw [insAt_lt g i hi]; exact r2
  · rw [getD_of_lt _ _ _ (by omega)]
    simpa using hf k hk
/-- Each behind what it stands on. -/
structure Ordd (g : GrR) (l : List Nat) : Prop where
  nd : l.Nodup
  lt : ∀ i ∈ l, i < g.acts.length
  sup : ∀ k (h : k < l.length), ∀ s ∈ insAt g l[k], s ∈ g.srcs ∨ ∃ j, ∃ (hj : j < k), nameAt g (l[j]'(by omega)) = s
theorem Ordd.nil (g : GrR) : Ordd g [] := ⟨List.nodup_nil, by simp, by simp⟩
theorem Ordd.snoc {g : GrR} {l : List Nat} (h : Ordd g l) {i : Nat} (hs : stepR g l = some i) : Ordd g (l ++ [i]) := by
  obtain ⟨h1, h2, h3, _⟩ := stepR_some hs
  refine ⟨?_, ?_, ?_⟩
  · rw [List.nodup_append]
    refine ⟨h.nd, by simp, ?_⟩
    intro a ha b hb
    simp only [List.mem_singleton] at hb
    subst hb
    intro e
    exact h2 a ha (by rw [e])
  · intro j hj
    rcases List.mem_append.1 hj with hj | hj
    · exact h.lt j hj
    · simp only [List.mem_singleton] at hj; subst hj; exact h1
  · intro k hk s hs
    by_cases hkl : k < l.length
    · rw [List.getElem_append_left hkl] at hs
      rcases h.sup k hkl s hs with h4 | ⟨j, hj, h4⟩
      · exact .inl h4
      · exact .inr ⟨j, hj, by rw [List.getElem_append_left (by omega)]; exact h4⟩
    · have hk2 : k = l.length := by simp at hk; omega
      subst hk2
      rw [List.getElem_append_right (by omega)] at hs
      simp only [Nat.sub_self, List.getElem_cons_zero] at hs
      rcases h3 s hs with h4 | ⟨j, hj, h4⟩
      · exact .inl h4
      · obtain ⟨q, hq, rfl⟩ := List.mem_iff_getElem.1 hj
        exact .inr ⟨q, hq, by rw [List.getElem_append_left hq]; exact h4⟩
theorem sub_length {α : Type} [DecidableEq α] : ∀ (l m : List α), l.Nodup → (∀ x ∈ l, x ∈ m) → l.length ≤ m.length
  | [], _, _, _ => Nat.zero_le _
  | x :: l, m, hn, hs => by
    rw [List.nodup_cons] at hn
    have hx := hs x List.mem_cons_self
    have h1 := sub_length l (m.erase x) hn.2 (fun y hy => by
      have hne : y ≠ x := fun e => hn.1 (e ▸ hy)
      exact (List.mem_erase_of_ne hne).2 (hs y (List.mem_cons_of_mem _ hy)))
    rw [List.length_erase_of_mem hx] at h1
    have := List.length_pos_of_mem hx
    simp; omega
theorem nodup_lt_length {l : List Nat} {n : Nat} (hn : l.Nodup) (hl : ∀ i ∈ l, i < n) : l.length ≤ n := by
  have := sub_length l (List.range n) hn (fun i hi => List.mem_range.2 (hl i hi))
  simpa using this
theorem Ordd.le {g : GrR} {l : List Nat} (h : Ordd g l) : l.length ≤ g.acts.length := nodup_lt_length h.nd h.lt
theorem orderGo_ordd (g : GrR) : ∀ (n : Nat) (l : List Nat), Ordd g l → Ordd g (orderGo g n l)
  | 0, l, h => h
  | n + 1, l, h => by
    unfold orderGo
    cases hs : stepR g l with
    | none => exact h
    | some i => exact orderGo_ordd g n _ (h.snoc hs)
theorem nodup_full {l : List Nat} {n : Nat} (hn : l.Nodup) (hl : ∀ i ∈ l, i < n) (h : l.length = n) : ∀ i, i < n → i ∈ l := by
  intro i hi
  by_cases hm : i ∈ l
  · exact hm
  · have := nodup_lt_length (n := n) (List.nodup_cons.2 ⟨hm, hn⟩) (fun j hj => by
      rcases List.mem_cons.1 hj with rfl | hj
      · exact hi
      · exact hl j hj)
    simp at this; omega
theorem Ordd.full {g : GrR} {l : List Nat} (h : Ordd g l) (hl : l.length = g.acts.length) : ∀ i, i < g.acts.length → i ∈ l := nodup_full h.nd h.lt hl
theorem Ordd.stop {g : GrR} {l : List Nat} (h : Ordd g l) (hl : g.acts.length ≤ l.length) : stepR g l = none := by
  cases hs : stepR g l with
  | none => rfl
  | some i =>
    obtain ⟨h1, h2, _⟩ := stepR_some hs
    exact absurd rfl (h2 i (h.full (Nat.le_antisymm h.le hl) i h1))
theorem orderR_ordd (g : GrR) : Ordd g (orderR g) := orderGo_ordd g _ _ (Ordd.nil g)
/-- Check: the error's number. -/
def dupB (g : GrR) : Bool := !decide (namesL g).Nodup
def missB (g : GrR) : Bool := g.acts.any fun a => a.ins.any fun s => !(namesL g).contains s
def wovenR (g : GrR) : Nat := if grOK g = false then 1 else if dupB g = true then 21 else if missB g = true then 22 else 0
def checkR (g : GrR) : Nat := if wovenR g ≠ 0 then wovenR g else if (orderR g).length ≠ g.acts.length then 23 else 0
theorem wovenR_zero {g : GrR} : wovenR g = 0 ↔ Wov g := by
  unfold wovenR
  constructor
  · intro h
    split at h
    · cases h
    split at h
    · cases h
    split at h
    · cases h
    rename_i h1 h2 h3
    refine ⟨by simpa using h1, by simpa [dupB] using h2, ?_⟩
    intro a ha s hs
    cases hc : (namesL g).contains s with
    | true => simpa using hc
    | false =>
      exfalso
      apply h3
      unfold missB
      rw [List.any_eq_true]
      exact ⟨a, ha, by rw [List.any_eq_true]; exact ⟨s, hs, by rw [hc]; rfl⟩⟩
  · intro h
    rw [if_neg (by rw [h.ok]; simp), if_neg (by simp [dupB, h.nd]), if_neg]
    intro hm
    unfold missB at hm
    rw [List.any_eq_true] at hm
    obtain ⟨a, ha, hm⟩ := hm
    rw [List.any_eq_true] at hm
    obtain ⟨s, hs, hm⟩ := hm
    have := h.ins a ha s hs
    simp [this] at hm
theorem checkR_zero {g : GrR} : checkR g = 0 ↔ Wov g ∧ (orderR g).length = g.acts.length := by
  unfold checkR
  rw [← wovenR_zero]
  by_cases h : wovenR g = 0
  · rw [if_neg (by simp [h])]
    by_cases h2 : (orderR g).length = g.acts.length
    · simp [h, h2]
    · simp [h, h2]
  · rw [if_pos h]; simp [h]
end Go.Proofs.YthglfmacjoecgaaGreatDoor
