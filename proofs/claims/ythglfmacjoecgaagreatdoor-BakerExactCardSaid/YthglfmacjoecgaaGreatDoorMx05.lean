/- Texts of the proof, one behind the other: What of a build stands on what, in plain words: names, the order, what an action needs, what is dirty. No program in sight; slices.IndexFunc, slices.ContainsFunc at the closures of trellis, their answers given; What an action needs, in plain words: by rounds, sorted; that these are all on which it stands; rings. No program in sight; Maps as lists of pairs: what a map's block holds, and the operations on it; What is read of a map behind a store and a delete; A build by its names: the map of places, in plain words; the block that holds it; What a build comes to, in plain words, whatever makes an action's result of its code and its inputs' results. No program in sight; trellis.woven walked; trellis: the closures of (*web).order walked; (*web).order, trellis.checked, Check, Order walked; trellis.Check, Order walked. -/
import Derived.Test.YthglfmacjoecgaaGreatDoorMx01
import Derived.Test.YthglfmacjoecgaaGreatDoorMx02
import Derived.Maps.OwnSet
import Derived.Deep.QuietTactic
import Derived.StillTailTactics
import Derived.BigQuiet
import Derived.Laws.EntriesVeiled
import Derived.Maps.RangeWalk
import Derived.Deep.RegionHeld3
namespace Go.Proofs.YthglfmacjoecgaaGreatDoor
open Go

abbrev Nm := List UInt8
def nameAt (g : GrR) (i : Nat) : Nm := (g.acts.getD i noAct).name
def insAt (g : GrR) (i : Nat) : List Nm := (g.acts.getD i noAct).ins
def namesL (g : GrR) : List Nm := g.srcs ++ g.acts.map (·.name)
/-- The place of the action of a name. -/
def placeOf (g : GrR) (s : Nm) : Option Nat := g.acts.findIdx? (fun a => a.name == s)

theorem getD_of_lt {α : Type} (l : List α) (d : α) (i : Nat) (h : i < l.length) : l.getD i d = l[i] := by
  simp [List.getD_eq_getElem?_getD, h]
theorem nameAt_lt (g : GrR) (i : Nat) (h : i < g.acts.length) : nameAt g i = g.acts[i].name := by unfold nameAt; rw [getD_of_lt _ _ _ h]
theorem insAt_lt (g : GrR) (i : Nat) (h : i < g.acts.length) : insAt g i = g.acts[i].ins := by unfold insAt; rw [getD_of_lt _ _ _ h]
/-- A build that can be but for rings. -/
structure Wov (g : GrR) : Prop where
  ok : grOK g = true
  nd : (namesL g).Nodup
  ins : ∀ a ∈ g.acts, ∀ s ∈ a.ins, s ∈ namesL g

theorem Wov.srcs8 {g : GrR} (h : Wov g) : g.srcs.length ≤ 8 := ((grOK_iff g).1 h.ok).1
theorem Wov.acts12 {g : GrR} (h : Wov g) : g.acts.length ≤ 12 := ((grOK_iff g).1 h.ok).2.1
theorem Wov.inj {g : GrR} (h : Wov g) {i j : Nat} (hi : i < g.acts.length) (hj : j < g.acts.length) (e : nameAt g i = nameAt g j) : i = j := by
  have hn : (g.acts.map (·.name)).Nodup := (List.nodup_append.1 h.nd).2.1
  rw [nameAt_lt g i hi, nameAt_lt g j hj] at e
  have := List.pairwise_iff_getElem.1 hn
  by_cases hij : i = j
  · exact hij
  · rcases Nat.lt_or_gt_of_ne hij with h1 | h1
    · exact absurd (by rw [List.getElem_map, List.getElem_map]; exact e) (this i j (by simpa using hi) (by simpa using hj) h1)
    · exact absurd (by rw [List.getElem_map, List.getElem_map]; exact e.symm) (this j i (by simpa using hj) (by simpa using hi) h1)
theorem Wov.apart {g : GrR} (h : Wov g) {i : Nat} (hi : i < g.acts.length) : nameAt g i ∉ g.srcs := by
  intro hs
  have := (List.nodup_append.1 h.nd).2.2 _ hs (nameAt g i) (by rw [nameAt_lt g i hi]; exact List.mem_map.2 ⟨_, List.getElem_mem hi, rfl⟩)
  exact this rfl

theorem placeOf_some {g : GrR} {s : Nm} {i : Nat} (h : placeOf g s = some i) : i < g.acts.length ∧ nameAt g i = s := by
  unfold placeOf at h
  rw [List.findIdx?_eq_some_iff_getElem] at h
  obtain ⟨hi, he, _⟩ := h
  refine ⟨hi, ?_⟩
  rw [nameAt_lt g i hi]
  simpa using he
theorem placeOf_none {g : GrR} {s : Nm} (h : placeOf g s = none) : ∀ i, i < g.acts.length → nameAt g i ≠ s := by
  unfold placeOf at h
  rw [List.findIdx?_eq_none_iff] at h
  intro i hi e
  rw [nameAt_lt g i hi] at e
  have := h _ (List.getElem_mem hi)
  simp [e] at this
theorem Wov.place {g : GrR} (h : Wov g) {i : Nat} (hi : i < g.acts.length) : placeOf g (nameAt g i) = some i := by
  cases hp : placeOf g (nameAt g i) with
  | none => exact absurd rfl (placeOf_none hp i hi)
  | some j =>
    obtain ⟨hj, e⟩ := placeOf_some hp
    rw [h.inj hj hi e]
theorem mem_names {g : GrR} {s : Nm} : s ∈ namesL g ↔ s ∈ g.srcs ∨ ∃ i, i < g.acts.length ∧ nameAt g i = s := by
  unfold namesL
  rw [List.mem_append, List.mem_map]
  constructor
  · rintro (h | ⟨a, ha, rfl⟩)
    · exact .inl h
    · obtain ⟨i, hi, rfl⟩ := List.mem_iff_getElem.1 ha
      exact .inr ⟨i, hi, nameAt_lt g i hi⟩
  · rintro (h | ⟨i, hi, rfl⟩)
    · exact .inl h
    · exact .inr ⟨_, List.getElem_mem hi, (nameAt_lt g i hi).symm⟩
theorem Wov.insAt {g : GrR} (h : Wov g) {i : Nat} (hi : i < g.acts.length) {s : Nm} (hs : s ∈ insAt g i) : s ∈ namesL g := by
  rw [insAt_lt g i hi] at hs
  exact h.ins _ (List.getElem_mem hi) s hs
theorem Wov.src_or {g : GrR} (h : Wov g) {s : Nm} (hs : s ∈ namesL g) : (s ∈ g.srcs ∧ placeOf g s = none) ∨ ∃ i, i < g.acts.length ∧ nameAt g i = s ∧ placeOf g s = some i ∧ s ∉ g.srcs := by
  rcases mem_names.1 hs with h1 | ⟨i, hi, rfl⟩
  · left
    refine ⟨h1, ?_⟩
    cases hp : placeOf g s with
    | none => rfl
    | some j =>
      obtain ⟨hj, e⟩ := placeOf_some hp
      exact absurd (e ▸ h1) (h.apart hj)
  · exact .inr ⟨i, hi, rfl, h.place hi, h.apart hi⟩

/-- Whether an action can be made, these being made. -/
def readyB (g : GrR) (l : List Nat) (a : ActR) : Bool := !(l.map (nameAt g)).contains a.name && a.ins.all fun s => g.srcs.contains s || (l.map (nameAt g)).contains s
def stepR (g : GrR) (l : List Nat) : Option Nat := g.acts.findIdx? (readyB g l)
def orderGo (g : GrR) : Nat → List Nat → List Nat
  | 0, l => l
  | n + 1, l => match stepR g l with
    | none => l
    | some i => orderGo g n (l ++ [i])
def orderR (g : GrR) : List Nat := orderGo g g.acts.length []

theorem readyB_iff {g : GrR} {l : List Nat} {a : ActR} : readyB g l a = true ↔ (∀ j ∈ l, nameAt g j ≠ a.name) ∧ ∀ s ∈ a.ins, s ∈ g.srcs ∨ ∃ j ∈ l, nameAt g j = s := by
  unfold readyB
  simp [List.all_eq_true]
theorem stepR_some {g : GrR} {l : List Nat} {i : Nat} (h : stepR g l = some i) : i < g.acts.length ∧ (∀ j ∈ l, nameAt g j ≠ nameAt g i) ∧ (∀ s ∈ insAt g i, s ∈ g.srcs ∨ ∃ j ∈ l, nameAt g j = s) ∧
    ∀ k, k < i → readyB g l (g.acts.getD k noAct) = false := by
  unfold stepR at h
  rw [List.findIdx?_eq_some_iff_getElem] at h
  obtain ⟨hi, he, hf⟩ := h
  obtain ⟨r1, r2⟩ := readyB_iff.1 he
  refine ⟨hi, ?_, ?_, fun k hk => ?_⟩
  · rw [nameAt_lt g i hi]; exact r1
  · rw [insAt_lt g i hi]; exact r2
  · rw [getD_of_lt _ _ _ (by omega)]
    simpa using hf k hk
/-- Each behind what it stands on. -/
structure Ordd (g : GrR) (l : List Nat) : Prop where
  nd : l.Nodup
  lt : ∀ i ∈ l, i < g.acts.length
  sup : ∀ k (h : k < l.length), ∀ s ∈ insAt g l[k], s ∈ g.srcs ∨ ∃ j, ∃ (hj : j < k), nameAt g (l[j]'(by omega)) = s
theorem Ordd.nil (g : GrR) : Ordd g [] := ⟨List.nodup_nil, by simp, by simp⟩
theorem Ordd.snoc {g : GrR} {l : List Nat} (h : Ordd g l) {i : Nat} (hs : stepR g l = some i) : Ordd g (l ++ [i]) := by
  obtain ⟨h1, h2, h3, _⟩ := stepR_some hs
  refine ⟨?_, ?_, ?_⟩
  · rw [List.nodup_append]
    refine ⟨h.nd, by simp, ?_⟩
    intro a ha b hb
    simp only [List.mem_singleton] at hb
    subst hb
    intro e
    exact h2 a ha (by rw [e])
  · intro j hj
    rcases List.mem_append.1 hj with hj | hj
    · exact h.lt j hj
    · simp only [List.mem_singleton] at hj; subst hj; exact h1
  · intro k hk s hs
    by_cases hkl : k < l.length
    · rw [List.getElem_append_left hkl] at hs
      rcases h.sup k hkl s hs with h4 | ⟨j, hj, h4⟩
      · exact .inl h4
      · exact .inr ⟨j, hj, by rw [List.getElem_append_left (by omega)]; exact h4⟩
    · have hk2 : k = l.length := by simp at hk; omega
      subst hk2
      rw [List.getElem_append_right (by omega)] at hs
      simp only [Nat.sub_self, List.getElem_cons_zero] at hs
      rcases h3 s hs with h4 | ⟨j, hj, h4⟩
      · exact .inl h4
      · obtain ⟨q, hq, rfl⟩ := List.mem_iff_getElem.1 hj
        exact .inr ⟨q, hq, by rw [List.getElem_append_left hq]; exact h4⟩
theorem sub_length {α : Type} [DecidableEq α] : ∀ (l m : List α), l.Nodup → (∀ x ∈ l, x ∈ m) → l.length ≤ m.length
  | [], _, _, _ => Nat.zero_le _
  | x :: l, m, hn, hs => by
    rw [List.nodup_cons] at hn
    have hx := hs x List.mem_cons_self
    have h1 := sub_length l (m.erase x) hn.2 (fun y hy => by
      have hne : y ≠ x := fun e => hn.1 (e ▸ hy)
      exact (List.mem_erase_of_ne hne).2 (hs y (List.mem_cons_of_mem _ hy)))
    rw [List.length_erase_of_mem hx] at h1
    have := List.length_pos_of_mem hx
    simp; omega
theorem nodup_lt_length {l : List Nat} {n : Nat} (hn : l.Nodup) (hl : ∀ i ∈ l, i < n) : l.length ≤ n := by
  have := sub_length l (List.range n) hn (fun i hi => List.mem_range.2 (hl i hi))
  simpa using this
theorem Ordd.le {g : GrR} {l : List Nat} (h : Ordd g l) : l.length ≤ g.acts.length := nodup_lt_length h.nd h.lt
theorem orderGo_ordd (g : GrR) : ∀ (n : Nat) (l : List Nat), Ordd g l → Ordd g (orderGo g n l)
  | 0, l, h => h
  | n + 1, l, h => by
    unfold orderGo
    cases hs : stepR g l with
    | none => exact h
    | some i => exact orderGo_ordd g n _ (h.snoc hs)
theorem nodup_full {l : List Nat} {n : Nat} (hn : l.Nodup) (hl : ∀ i ∈ l, i < n) (h : l.length = n) : ∀ i, i < n → i ∈ l := by
  intro i hi
  by_cases hm : i ∈ l
  · exact hm
  · have := nodup_lt_length (n := n) (List.nodup_cons.2 ⟨hm, hn⟩) (fun j hj => by
      rcases List.mem_cons.1 hj with rfl | hj
      · exact hi
      · exact hl j hj)
    simp at this; omega
theorem Ordd.full {g : GrR} {l : List Nat} (h : Ordd g l) (hl : l.length = g.acts.length) : ∀ i, i < g.acts.length → i ∈ l := nodup_full h.nd h.lt hl
theorem Ordd.stop {g : GrR} {l : List Nat} (h : Ordd g l) (hl : g.acts.length ≤ l.length) : stepR g l = none := by
  cases hs : stepR g l with
  | none => rfl
  | some i =>
    obtain ⟨h1, h2, _⟩ := stepR_some hs
    exact absurd rfl (h2 i (h.full (Nat.le_antisymm h.le hl) i h1))
theorem orderR_ordd (g : GrR) : Ordd g (orderR g) := orderGo_ordd g _ _ (Ordd.nil g)
/-- Check: the error's number. -/
def dupB (g : GrR) : Bool := !decide (namesL g).Nodup
def missB (g : GrR) : Bool := g.acts.any fun a => a.ins.any fun s => !(namesL g).contains s
def wovenR (g : GrR) : Nat := if grOK g = false then 1 else if dupB g = true then 21 else if missB g = true then 22 else 0
def checkR (g : GrR) : Nat := if wovenR g ≠ 0 then wovenR g else if (orderR g).length ≠ g.acts.length then 23 else 0
theorem wovenR_zero {g : GrR} : wovenR g = 0 ↔ Wov g := by
  unfold wovenR
  constructor
  · intro h
    split at h
    · cases h
    split at h
    · cases h
    split at h
    · cases h
    rename_i h1 h2 h3
    refine ⟨by simpa using h1, by simpa [dupB] using h2, ?_⟩
    intro a ha s hs
    cases hc : (namesL g).contains s with
    | true => simpa using hc
    | false =>
      exfalso
      apply h3
      unfold missB
      rw [List.any_eq_true]
      exact ⟨a, ha, by rw [List.any_eq_true]; exact ⟨s, hs, by rw [hc]; rfl⟩⟩
  · intro h
    rw [if_neg (by rw [h.ok]; simp), if_neg (by simp [dupB, h.nd]), if_neg]
    intro hm
    unfold missB at hm
    rw [List.any_eq_true] at hm
    obtain ⟨a, ha, hm⟩ := hm
    rw [List.any_eq_true] at hm
    obtain ⟨s, hs, hm⟩ := hm
    have := h.ins a ha s hs
    simp [this] at hm
theorem checkR_zero {g : GrR} : checkR g = 0 ↔ Wov g ∧ (orderR g).length = g.acts.length := by
  unfold checkR
  rw [← wovenR_zero]
  by_cases h : wovenR g = 0
  · rw [if_neg (by simp [h])]
    by_cases h2 : (orderR g).length = g.acts.length
    · simp [h, h2]
    · simp [h, h2]
  · rw [if_pos h]; simp [h]
end Go.Proofs.YthglfmacjoecgaaGreatDoor
namespace Go.Proofs.YthglfmacjoecgaaGreatDoor
open Go.RowKit

/-- The place of the first one; -1: there is none. -/
def placeI {α : Type} (P : α → Bool) (l : List α) : Int := match l.findIdx? P with
  | some i => (i : Int)
  | none => -1
theorem placeI_none {α : Type} {P : α → Bool} {l : List α} (h : ∀ x ∈ l, P x = false) : placeI P l = -1 := by
  have : l.findIdx? P = none := by rw [List.findIdx?_eq_none_iff]; intro x hx; simp [h x hx]
  unfold placeI; rw [this]
theorem placeI_at {α : Type} {P : α → Bool} {l : List α} (k : Nat) (hk : k < l.length) (h1 : P l[k] = true) (h2 : ∀ j (h : j < l.length), j < k → P l[j] = false) : placeI P l = k := by
  have : l.findIdx? P = some k := by
    rw [List.findIdx?_eq_some_iff_getElem]
    exact ⟨hk, h1, fun j hj => by simp [h2 j (by omega) hj]⟩
  unfold placeI; rw [this]
theorem placeI_neg {α : Type} {P : α → Bool} {l : List α} : placeI P l < 0 ↔ l.any P = false := by
  unfold placeI
  cases h : l.findIdx? P with
  | none =>
    rw [List.findIdx?_eq_none_iff] at h
    have : l.any P = false := by rw [List.any_eq_false]; intro x hx; simp [h x hx]
    simp [this]
  | some i =>
    rw [List.findIdx?_eq_some_iff_getElem] at h
    obtain ⟨hi, hp, _⟩ := h
    have : l.any P = true := by rw [List.any_eq_true]; exact ⟨_, List.getElem_mem hi, hp⟩
    simp [this]

set_option maxRecDepth 100000 in
set_option maxHeartbeats 1000000 in
theorem ixs_waits (p q : Option Addr) (Pn : Nm → Bool) (v : Value) (ss : List Nm) (w : World) (hin : NamesAt w v ss)
    (hf : ∀ s ∈ ss, ∀ W, Chg (fun _ => False) w W → Calls Tryz.prog 133 #[.string (bs s), .pointer p, .pointer q] W (Rets (.bool (Pn s)) (Chg (fun _ => False) W))) :
    Calls Tryz.prog 92 #[v, .func (.func 133) #[] #[.pointer p, .pointer q]] w (Rets (.int .i64 (placeI Pn ss)) (Chg (fun _ => False) w)) := by
  have hlenI := hin.len
  have hmx := hin.le
  unfold maxLen at hmx
  have H := hid hin
  have HF := hid hf
  clear hin hf
  go_enter Tryz.func92, Tryz.ntmps92
  go_wp2_with fail
  go_loopw [8] (fun i wr => ∃ k : Nat, k ≤ ss.length ∧ i = .int .i64 k ∧ Chg (fun _ => False) w wr ∧ ∀ j (h : j < ss.length), j < k → Pn ss[j] = false) (fun i _ => ss.length - (intOf i).toNat)
  case atStart => exact ⟨0, Nat.zero_le _, rfl, Chg.refl _ _, fun j _ h => absurd h (Nat.not_lt_zero _)⟩
  case round =>
    obtain ⟨k, hk, rfl, hch, hall⟩ := hrel
    have HA := hid hall
    have HC := hid hch
    have S2 := H.out.chg hch (fun _ _ h => h)
    clear hall hch
    by_cases hkn : k < ss.length
    · have hkn' : (k : Int) < ss.length := by omega
      obtain ⟨ad, hix, hadc, hadb⟩ := S2.ix k hkn
      have hn := HF.out ss[k] (List.getElem_mem hkn)
      clear S2
      cases hw : Pn ss[k] with
      | false =>
        rw [hw] at hn
        have HW := hid hw
        clear hw
        generalize bs ss[k] = nm at *
        go_wp2_with (go_at_call 133; refine (hn _ HC.out).mono ?_; rintro e w' ⟨rfl, hc⟩)
        go_roundw
        case rel =>
          refine ⟨k + 1, by omega, by go_num, HC.out.trans hc (fun _ _ h => h), fun j hj hjk => ?_⟩
          by_cases e : j = k
          · subst e; exact HW.out
          · exact HA.out j hj (by omega)
        case measure => simp [intOf]; omega
      | true =>
        have hp : placeI Pn ss = k := placeI_at k hkn hw HA.out
        rw [hw] at hn
        have HP := hid hp
        clear hw hp
        generalize bs ss[k] = nm at *
        go_wp2_with (go_at_call 133; refine (hn _ HC.out).mono ?_; rintro e w' ⟨rfl, hc⟩)
        go_ret
        exact ⟨congrArg (fun z => Ending.returned (.int .i64 z)) HP.out.symm, HC.out.trans hc (fun _ _ h => h)⟩
    · obtain rfl : k = ss.length := by omega
      have hp : placeI Pn ss = -1 := placeI_none (fun s hs => by
        obtain ⟨j, hj, rfl⟩ := List.mem_iff_getElem.1 hs
        exact HA.out j hj hj)
      have HP := hid hp
      clear hp S2
      go_wp2_with fail
      go_ret
      exact ⟨congrArg (fun z => Ending.returned (.int .i64 z)) HP.out.symm, HC.out⟩
theorem cfs_waits (p q : Option Addr) (Pn : Nm → Bool) (v : Value) (ss : List Nm) (w : World) (hin : NamesAt w v ss)
    (hf : ∀ s ∈ ss, ∀ W, Chg (fun _ => False) w W → Calls Tryz.prog 133 #[.string (bs s), .pointer p, .pointer q] W (Rets (.bool (Pn s)) (Chg (fun _ => False) W))) :
    Calls Tryz.prog 57 #[v, .func (.func 133) #[] #[.pointer p, .pointer q]] w (Rets (.bool (ss.any Pn)) (Chg (fun _ => False) w)) := by
  have hix := ixs_waits p q Pn v ss w hin hf
  have hneg := placeI_neg (P := Pn) (l := ss)
  clear hin hf
  generalize placeI Pn ss = r at *
  have HN := hid hneg
  clear hneg
  go_enter Tryz.func57, Tryz.ntmps57
  go_wp2_with (go_at_call 92; refine hix.mono ?_; rintro e w' ⟨rfl, hc⟩)
  go_ret
  refine ⟨?_, hc⟩
  have h1 := HN.out
  by_cases h : r < 0
  · rw [h1.1 h]; simp [h]
  · have h2 : ss.any Pn = true := by
      cases h3 : ss.any Pn with
      | true => rfl
      | false => exact absurd (h1.2 h3) h
    rw [h2]; simp; omega
set_option maxRecDepth 100000 in
set_option maxHeartbeats 1000000 in
theorem ixa_ready (p q : Option Addr) (Pn : ActR → Bool) (v : Value) (xs : List ActR) (iv : Nat → Value) (w : World) (hin : ActsAt w v xs iv)
    (hf : ∀ k (h : k < xs.length), ∀ W, Chg (fun _ => False) w W → Calls Tryz.prog 134 #[actV xs[k] (iv k), .pointer p, .pointer q] W (Rets (.bool (Pn xs[k])) (Chg (fun _ => False) W))) :
    Calls Tryz.prog 135 #[v, .func (.func 134) #[] #[.pointer p, .pointer q]] w (Rets (.int .i64 (placeI Pn xs)) (Chg (fun _ => False) w)) := by
  have hlenI := hin.len
  have hmx := hin.rows.le
  unfold maxLen at hmx
  have H := hid hin
  have HF := hid hf
  clear hin hf
  go_enter Tryz.func135, Tryz.ntmps135
  go_wp2_with fail
  go_loopw [8] (fun i wr => ∃ k : Nat, k ≤ xs.length ∧ i = .int .i64 k ∧ Chg (fun _ => False) w wr ∧ ∀ j (h : j < xs.length), j < k → Pn xs[j] = false) (fun i _ => xs.length - (intOf i).toNat)
  case atStart => exact ⟨0, Nat.zero_le _, rfl, Chg.refl _ _, fun j _ h => absurd h (Nat.not_lt_zero _)⟩
  case round =>
    obtain ⟨k, hk, rfl, hch, hall⟩ := hrel
    have HA := hid hall
    have HC := hid hch
    have S2 := H.out.chg hch (fun _ _ h => h)
    clear hall hch
    by_cases hkn : k < xs.length
    · have hkn' : (k : Int) < xs.length := by omega
      obtain ⟨bb, oo, hix, hlt, e0, e1, e2, hns, hw1, hw2⟩ := S2.at k hkn
      have hn := HF.out k hkn
      unfold actV at hn
      clear S2 hns hw1 hw2
      cases hw : Pn xs[k] with
      | false =>
        rw [hw] at hn
        have HW := hid hw
        clear hw
        generalize bs xs[k].name = nm at *
        generalize bs xs[k].code = cd at *
        go_wp2_with (go_at_call 134; refine (hn _ HC.out).mono ?_; rintro e w' ⟨rfl, hc⟩)
        go_roundw
        case rel =>
          refine ⟨k + 1, by omega, by go_num, HC.out.trans hc (fun _ _ h => h), fun j hj hjk => ?_⟩
          by_cases e : j = k
          · subst e; exact HW.out
          · exact HA.out j hj (by omega)
        case measure => simp [intOf]; omega
      | true =>
        have hp : placeI Pn xs = k := placeI_at k hkn hw HA.out
        rw [hw] at hn
        have HP := hid hp
        clear hw hp
        generalize bs xs[k].name = nm at *
        generalize bs xs[k].code = cd at *
        go_wp2_with (go_at_call 134; refine (hn _ HC.out).mono ?_; rintro e w' ⟨rfl, hc⟩)
        go_ret
        exact ⟨congrArg (fun z => Ending.returned (.int .i64 z)) HP.out.symm, HC.out.trans hc (fun _ _ h => h)⟩
    · obtain rfl : k = xs.length := by omega
      have hp : placeI Pn xs = -1 := placeI_none (fun s hs => by
        obtain ⟨j, hj, rfl⟩ := List.mem_iff_getElem.1 hs
        exact HA.out j hj hj)
      have HP := hid hp
      clear hp S2
      go_wp2_with fail
      go_ret
      exact ⟨congrArg (fun z => Ending.returned (.int .i64 z)) HP.out.symm, HC.out⟩
end Go.Proofs.YthglfmacjoecgaaGreatDoor
namespace Go.Proofs.YthglfmacjoecgaaGreatDoor
open Go

def actIns (g : GrR) (s : Nm) : List Nm := match placeOf g s with
  | some i => insAt g i
  | none => []
/-- All on which an action stands. -/
inductive Needs (g : GrR) (i : Nat) : Nm → Prop
  | base {s : Nm} : s ∈ insAt g i → Needs g i s
  | step {t s : Nm} : Needs g i t → s ∈ actIns g t → Needs g i s
/-- .. over so many others. -/
inductive NeedsD (g : GrR) (i : Nat) : Nat → Nm → Prop
  | base {s : Nm} : s ∈ insAt g i → NeedsD g i 0 s
  | step {d : Nat} {t s : Nm} : NeedsD g i d t → s ∈ actIns g t → NeedsD g i (d + 1) s
theorem Needs.deep {g : GrR} {i : Nat} {s : Nm} (h : Needs g i s) : ∃ d, NeedsD g i d s := by
  induction h with
  | base h => exact ⟨0, .base h⟩
  | step _ h ih => obtain ⟨d, hd⟩ := ih; exact ⟨d + 1, .step hd h⟩
theorem NeedsD.needs {g : GrR} {i d : Nat} {s : Nm} (h : NeedsD g i d s) : Needs g i s := by
  induction h with
  | base h => exact .base h
  | step _ h ih => exact .step ih h
theorem Needs.names {g : GrR} (hw : Wov g) {i : Nat} (hi : i < g.acts.length) {s : Nm} (h : Needs g i s) : s ∈ namesL g := by
  cases h with
  | base h => exact hw.insAt hi h
  | step ht h =>
    unfold actIns at h
    split at h
    · rename_i j hj
      exact hw.insAt (placeOf_some hj).1 h
    · exact absurd h (by simp)
theorem Needs.behind {g : GrR} {i j : Nat} {t s : Nm} (ht : t ∈ insAt g i) (hj : placeOf g t = some j) (h : Needs g j s) : Needs g i s := by
  induction h with
  | base h => exact .step (.base ht) (by unfold actIns; rw [hj]; exact h)
  | step _ h ih => exact .step ih h

/-- Where a name stands in the order, that an action needs. -/
theorem NeedsD.rank {g : GrR} (hw : Wov g) {l : List Nat} (ho : Ordd g l) {k : Nat} (hk : k < l.length) {d : Nat} {s : Nm} (h : NeedsD g l[k] d s) :
    d ≤ k ∧ (s ∈ g.srcs ∨ ∃ j, ∃ (hj : j < l.length), nameAt g l[j] = s ∧ j + d < k) := by
  induction h with
  | base h =>
    refine ⟨Nat.zero_le _, ?_⟩
    rcases ho.sup k hk _ h with h1 | ⟨j, hj, h1⟩
    · exact .inl h1
    · exact .inr ⟨j, by omega, h1, by omega⟩
  | @step d t s ht h ih =>
    obtain ⟨h1, h2⟩ := ih
    rcases h2 with h2 | ⟨j, hj, rfl, hjd⟩
    · exfalso
      unfold actIns at h
      split at h
      · rename_i q hq
        obtain ⟨hq1, hq2⟩ := placeOf_some hq
        exact hw.apart hq1 (hq2 ▸ h2)
      · exact absurd h (by simp)
    · refine ⟨by omega, ?_⟩
      unfold actIns at h
      rw [hw.place (ho.lt _ (List.getElem_mem hj))] at h
      rcases ho.sup j hj _ h with h3 | ⟨q, hq, h3⟩
      · exact .inl h3
      · exact .inr ⟨q, by omega, h3, by omega⟩
/-- A build that can be. -/
structure Can (g : GrR) : Prop where
  w : Wov g
  full : (orderR g).length = g.acts.length
theorem can_iff {g : GrR} : checkR g = 0 ↔ Can g := checkR_zero.trans ⟨fun h => ⟨h.1, h.2⟩, fun h => ⟨h.1, h.2⟩⟩
theorem Can.pos {g : GrR} (h : Can g) {i : Nat} (hi : i < g.acts.length) : ∃ k, ∃ (hk : k < (orderR g).length), (orderR g)[k] = i := by
  obtain ⟨k, hk, e⟩ := List.mem_iff_getElem.1 ((orderR_ordd g).full h.full i hi)
  exact ⟨k, hk, e⟩
theorem Can.depth {g : GrR} (h : Can g) {i : Nat} (hi : i < g.acts.length) {s : Nm} (hn : Needs g i s) : ∃ d, d ≤ g.acts.length ∧ NeedsD g i d s := by
  obtain ⟨k, hk, rfl⟩ := h.pos hi
  obtain ⟨d, hd⟩ := hn.deep
  have := (hd.rank h.w (orderR_ordd g) hk).1
  exact ⟨d, by have := h.full; omega, hd⟩

/-- What is found by taking up each once is all. -/
theorem needs_closed {g : GrR} {i : Nat} {out : List Nm} (h0 : ∀ s ∈ insAt g i, s ∈ out) (h1 : ∀ t ∈ out, ∀ s ∈ actIns g t, s ∈ out) (h2 : ∀ s ∈ out, Needs g i s) (s : Nm) : s ∈ out ↔ Needs g i s := by
  refine ⟨h2 s, fun h => ?_⟩
  induction h with
  | base h => exact h0 _ h
  | step _ h ih => exact h1 _ ih _ h

end Go.Proofs.YthglfmacjoecgaaGreatDoor
namespace Go.Proofs.YthglfmacjoecgaaGreatDoor
open Go.RowKit

theorem ba_beq (a b : ByteArray) : (a == b) = decide (a = b) := by
  rcases a with ⟨a⟩; rcases b with ⟨b⟩
  show (a == b) = _
  by_cases h : a = b <;> simp [h]
def lfind {κ ν : Type} [DecidableEq κ] (k : κ) : List (κ × ν) → Nat → Option (Nat × ν)
  | [], _ => none
  | p :: r, i => if k = p.1 then some (i, p.2) else lfind k r (i + 1)

/-- How a key's type is compared. -/
structure KeyT (P : Program) (kt : TypeId) {κ : Type} [DecidableEq κ] (enc : κ → Value) : Prop where
  find : ∀ {ν : Type} (encv : ν → Value) (es : List MapEntry) (l : List (κ × ν)) (k : κ) (w : World), es.map (fun e => (e.key, e.val)) = l.map (fun p => (enc p.1, encv p.2)) →
    (Instr.findKey kt (enc k) es).run P w = .ok ((lfind k l 0).map fun x => (x.1, encv x.2)) w
  check : ∀ b k w, (Instr.checkKey b 10000 kt (enc k)).run P w = .ok () w
  same : ∀ k, Instr.sameBits 10000 (enc k) (enc k) = true

theorem findNow_run {κ ν : Type} [DecidableEq κ] (d : TypeDesc) (enc : κ → Value) (encv : ν → Value) (k : κ)
    (heq : ∀ k', Instr.sameNow d (enc k) (enc k') = some (decide (k = k'))) : ∀ (es : List MapEntry) (l : List (κ × ν)) (i : Nat), es.map (fun e => (e.key, e.val)) = l.map (fun p => (enc p.1, encv p.2)) →
    Instr.findNow d (enc k) es i = some ((lfind k l i).map fun x => (x.1, encv x.2))
  | [], [], i, _ => by simp [Instr.findNow, lfind]
  | [], _ :: _, _, h => by simp at h
  | _ :: _, [], _, h => by simp at h
  | e :: es, p :: l, i, h => by
    simp only [List.map_cons, List.cons.injEq, Prod.mk.injEq] at h
    have ih := findNow_run d enc encv k heq es l (i + 1) h.2
    unfold Instr.findNow lfind
    rw [h.1.1, heq]
    by_cases hk : k = p.1
    · simp [hk, h.1.2]
    · simp [hk, ih]

/-- Block r is a map; its entries, in the order in which they were born, are l. -/
def MapL (w : World) (r : Nat) {κ ν : Type} (enc : κ → Value) (encv : ν → Value) (l : List (κ × ν)) : Prop :=
  ∃ es clock, w.heap[r]? = some (.map es clock) ∧ es.toList.map (fun e => (e.key, e.val)) = l.map (fun p => (enc p.1, encv p.2))

def lput {κ ν : Type} [DecidableEq κ] (k : κ) (x : ν) (l : List (κ × ν)) : List (κ × ν) :=
  match lfind k l 0 with
  | some (i, _) => l.set i (k, x)
  | none => l ++ [(k, x)]
theorem setBlock_chg (w : World) (r : Nat) (o : Obj) : Chg (fun k => k = r) w (Go.ChangeMaps.setBlock w r o) :=
  ⟨rfl, rfl, rfl, by simp [Go.ChangeMaps.setBlock], fun k _ hn => by simp only [Go.ChangeMaps.setBlock]; rw [Array.getElem?_setIfInBounds, if_neg (fun e => hn e.symm)]⟩

section
variable {κ ν : Type} {enc : κ → Value} {encv : ν → Value} {l : List (κ × ν)} {P : Program} {w : World} {r : Nat}

theorem MapL.lt (h : MapL w r enc encv l) : r < w.heap.size := by obtain ⟨_, _, h, _⟩ := h; exact heap_lt h
theorem MapL.chg {F : Nat → Prop} {w' : World} (h : MapL w r enc encv l) (hc : Chg F w w') (hF : ¬ F r) : MapL w' r enc encv l := by
  obtain ⟨es, clock, h1, h2⟩ := h
  exact ⟨es, clock, hc.obj h1 hF, h2⟩
theorem MapL.fresh (w : World) : MapL (w.alloc (.map #[] 0)) w.heap.size enc encv ([] : List (κ × ν)) := ⟨#[], 0, heap_alloc_new w _, rfl⟩

theorem MapL.len (h : MapL w r enc encv l) {kt t e : TypeId} (ht : P.underlying t = some (.map kt e)) (ty : TypeId) :
    (Builtin.len_ #[t] ty #[.map (some r)]).run P w = .ok (.int .i64 l.length) w := by
  obtain ⟨es, clock, h1, h2⟩ := h
  have hs : es.size = l.length := by have := congrArg List.length h2; simpa using this
  simp [Builtin.len_, run_underlying ht, MapKept.run_getObj_map h1, hs]
  rfl

variable [DecidableEq κ]
theorem lfind_bound {k : κ} : ∀ {l : List (κ × ν)} {i j : Nat} {x : ν}, lfind k l i = some (j, x) → i ≤ j ∧ j < i + l.length ∧ l[j - i]? = some (k, x)
  | [], _, _, _, h => by simp [lfind] at h
  | p :: l, i, j, x, h => by
    unfold lfind at h
    split at h
    · rename_i hk
      simp only [Option.some.injEq, Prod.mk.injEq] at h
      obtain ⟨rfl, rfl⟩ := h
      refine ⟨Nat.le_refl _, by simp, by simp [hk]⟩
    · obtain ⟨h1, h2, h3⟩ := lfind_bound h
      refine ⟨by omega, by simp; omega, ?_⟩
      rw [show j - i = (j - (i + 1)) + 1 from by omega, List.getElem?_cons_succ]
      exact h3
theorem lfind_none {k : κ} : ∀ {l : List (κ × ν)} {i : Nat}, lfind k l i = none ↔ ∀ p ∈ l, p.1 ≠ k
  | [], _ => by simp [lfind]
  | p :: l, i => by
    unfold lfind
    split
    · rename_i hk; simp [hk]
    · rename_i hk
      rw [lfind_none]
      simp only [List.mem_cons, forall_eq_or_imp]
      exact ⟨fun h => ⟨fun e => hk e.symm, h⟩, fun h => h.2⟩

theorem MapL.look (h : MapL w r enc encv l) {kt t e : TypeId} (K : KeyT P kt enc) (ht : P.underlying t = some (.map kt e)) {z : Value} (hz : (zeroValue e).run P w = .ok z w) (k : κ) (c : Bool) :
    (Instr.lookup t (.map (some r)) (enc k) c).run P w = .ok (if c then .tuple #[((lfind k l 0).map fun x => encv x.2).getD z, .bool (lfind k l 0).isSome] else ((lfind k l 0).map fun x => encv x.2).getD z) w := by
  obtain ⟨es, clock, h1, h2⟩ := h
  have hf := K.find encv es.toList l k w h2
  cases hl : lfind k l 0 with
  | none =>
    rw [hl] at hf
    simp [Instr.lookup, run_underlying ht, MapKept.run_getObj_map h1, K.check, hf, hz]
  | some x =>
    rw [hl] at hf
    simp [Instr.lookup, run_underlying ht, MapKept.run_getObj_map h1, K.check, hf]

theorem MapL.put (h : MapL w r enc encv l) {kt t e : TypeId} (K : KeyT P kt enc) (ht : P.underlying t = some (.map kt e)) (k : κ) (x : ν) :
    ∃ w', (Instr.mapUpdate t (.map (some r)) (enc k) (encv x)).run P w = .ok () w' ∧ MapL w' r enc encv (lput k x l) ∧ Chg (fun i => i = r) w w' := by
  obtain ⟨es, clock, h1, h2⟩ := h
  have hf := K.find encv es.toList l k w h2
  cases hl : lfind k l 0 with
  | none =>
    rw [hl] at hf
    refine ⟨Go.ChangeMaps.setBlock w r (.map (es.push { key := enc k, val := encv x, born := clock }) (clock + 1)), ?_, ⟨es.push { key := enc k, val := encv x, born := clock }, clock + 1, ?_, ?_⟩, setBlock_chg _ _ _⟩
    · simp [Instr.mapUpdate, run_underlying ht, MapKept.run_getObj_map h1, K.check, hf, MapKept.run_setObj_map _ h1, Go.ChangeMaps.setBlock]
    · simp only [Go.ChangeMaps.setBlock]; rw [Array.getElem?_setIfInBounds_self_of_lt (heap_lt h1)]
    · simp [lput, hl, h2]
  | some j =>
    obtain ⟨j, y⟩ := j
    rw [hl] at hf
    obtain ⟨_, hj, hg⟩ := lfind_bound hl
    simp only [Nat.sub_zero, Nat.zero_add] at hj hg
    have hes : (es.toList.map (fun e => (e.key, e.val)))[j]? = some (enc k, encv y) := by rw [h2]; simp [hg]
    obtain ⟨e', he', hkv⟩ : ∃ e', es[j]? = some e' ∧ (e'.key, e'.val) = (enc k, encv y) := by simpa using hes
    simp only [Prod.mk.injEq] at hkv
    refine ⟨Go.ChangeMaps.setBlock w r (.map (es.modify j fun e => { e with key := enc k, val := encv x }) clock), ?_, ⟨es.modify j fun e => { e with key := enc k, val := encv x }, clock, ?_, ?_⟩, setBlock_chg _ _ _⟩
    · simp [Instr.mapUpdate, run_underlying ht, MapKept.run_getObj_map h1, K.check, hf, he', hkv.1, Instr.keyThatStays, K.same, MapKept.run_setObj_map _ h1, Go.ChangeMaps.setBlock]
    · simp only [Go.ChangeMaps.setBlock]; rw [Array.getElem?_setIfInBounds_self_of_lt (heap_lt h1)]
    · simp only [lput, hl]
      apply List.ext_getElem?
      intro m
      have hm : (es.toList.map (fun e => (e.key, e.val)))[m]? = (l.map (fun p => (enc p.1, encv p.2)))[m]? := by rw [h2]
      simp only [List.getElem?_map, Array.getElem?_toList] at hm ⊢
      rw [Array.getElem?_modify, List.getElem?_set]
      by_cases hjm : j = m
      · subst hjm
        simp [he', hj]
      · simp only [hjm, if_false]; exact hm

variable {ops : Array Oper} {rest : List Oper} {o : Oper} {a : Act} {Q : Exit → Act → World → Prop}
theorem wpList_lookup_l (hg : o.guard = none) (m x : Operand) (t : TypeId) (c : Bool) (hop : o.op = Op.lookup t m x c) {kt e : TypeId} (K : KeyT P kt enc) (ht : P.underlying t = some (.map kt e))
    {z : Value} (hz : (zeroValue e).run P w = .ok z w) (hown : MapL w r enc encv l) (hm : a.eval m = .map (some r)) (k : κ) (hx : a.eval x = enc k)
    (hK : wpList P ops Q rest (a.put o.dst (if c then .tuple #[((lfind k l 0).map fun x => encv x.2).getD z, .bool (lfind k l 0).isSome] else ((lfind k l 0).map fun x => encv x.2).getD z)) w) :
    wpList P ops Q (o :: rest) a w := by
  refine wpList_plain hg fun K' hK' => ?_
  have hrun := hown.look K ht hz k c
  unfold Oper.wp
  simp only [execOp, hop, hm, hx, hrun, Sem.run_bind, Result.andThen, Oper.upon, Sem.run_pure]
  exact hK' _ _ hK
theorem wpList_mapUpdate_l (hg : o.guard = none) (m x v : Operand) (t : TypeId) (hop : o.op = Op.mapUpdate t m x v) {kt e : TypeId} (K : KeyT P kt enc) (ht : P.underlying t = some (.map kt e))
    (hown : MapL w r enc encv l) (hm : a.eval m = .map (some r)) (k : κ) (hx : a.eval x = enc k) (y : ν) (hv : a.eval v = encv y)
    (hK : ∀ w', MapL w' r enc encv (lput k y l) → Chg (fun i => i = r) w w' → wpList P ops Q rest (a.put o.dst undef) w') :
    wpList P ops Q (o :: rest) a w := by
  refine wpList_plain hg fun K' hK' => ?_
  obtain ⟨w', hrun, r1, r2⟩ := hown.put K ht k y
  unfold Oper.wp
  simp [execOp, hop, hm, hx, hv, hrun, Result.andThen]
  exact hK' _ _ (hK w' r1 r2)
end
end Go.Proofs.YthglfmacjoecgaaGreatDoor
namespace Go.Proofs.YthglfmacjoecgaaGreatDoor
open Go.RowKit

section
variable {κ ν : Type} [DecidableEq κ]
def lval (k : κ) (l : List (κ × ν)) : Option ν := (lfind k l 0).map (·.2)
theorem lfind_shift (k : κ) : ∀ (l : List (κ × ν)) (i : Nat), lfind k l i = (lfind k l 0).map fun x => (x.1 + i, x.2)
  | [], _ => rfl
  | p :: l, i => by
    unfold lfind
    by_cases h : k = p.1
    · simp [h]
    · rw [if_neg h, if_neg h, lfind_shift k l (i + 1), lfind_shift k l 1]
      cases lfind k l 0 <;> simp; omega
theorem lval_nil (k : κ) : lval k ([] : List (κ × ν)) = none := rfl
theorem lval_cons (k : κ) (p : κ × ν) (l : List (κ × ν)) : lval k (p :: l) = if k = p.1 then some p.2 else lval k l := by
  unfold lval
  rw [lfind]
  by_cases h : k = p.1
  · simp [h]
  · rw [if_neg h, if_neg h, lfind_shift k l 1]
    cases lfind k l 0 <;> rfl
theorem lval_none {k : κ} {l : List (κ × ν)} : lval k l = none ↔ ∀ p ∈ l, p.1 ≠ k := by
  unfold lval
  rw [Option.map_eq_none_iff]
  exact lfind_none
theorem lput_cons (k : κ) (x : ν) (p : κ × ν) (l : List (κ × ν)) : lput k x (p :: l) = if k = p.1 then (k, x) :: l else p :: lput k x l := by
  unfold lput
  rw [lfind]
  by_cases h : k = p.1
  · simp [h]
  · rw [if_neg h, if_neg h, lfind_shift k l 1]
    cases lfind k l 0 <;> rfl
theorem lval_put (k k' : κ) (x : ν) : ∀ (l : List (κ × ν)), lval k (lput k' x l) = if k = k' then some x else lval k l
  | [] => by
    have : lput k' x ([] : List (κ × ν)) = [(k', x)] := rfl
    rw [this, lval_cons]
  | p :: l => by
    rw [lput_cons]
    by_cases h : k' = p.1
    · rw [if_pos h, lval_cons, lval_cons]
      by_cases h2 : k = k'
      · rw [if_pos h2, if_pos h2]
      · rw [if_neg h2, if_neg h2, if_neg (by rw [← h]; exact h2)]
    · rw [if_neg h, lval_cons, lval_cons, lval_put k k' x l]
      by_cases h2 : k = k'
      · subst h2; simp [h]
      · simp [h2]
theorem keys_put (k' : κ) (x : ν) : ∀ (l : List (κ × ν)) (k : κ), k ∈ (lput k' x l).map Prod.fst ↔ k = k' ∨ k ∈ l.map Prod.fst
  | [], k => by
    have : lput k' x ([] : List (κ × ν)) = [(k', x)] := rfl
    rw [this]; simp
  | p :: l, k => by
    rw [lput_cons]
    by_cases h : k' = p.1
    · rw [if_pos h]
      simp only [List.map_cons, List.mem_cons]
      rw [← h]
      constructor
      · rintro (h | h)
        · exact .inl h
        · exact .inr (.inr h)
      · rintro (h | h | h)
        · exact .inl h
        · exact .inl h
        · exact .inr h
    · rw [if_neg h]
      simp only [List.map_cons, List.mem_cons]
      rw [keys_put k' x l k]
      constructor
      · rintro (h | h | h)
        · exact .inr (.inl h)
        · exact .inl h
        · exact .inr (.inr h)
      · rintro (h | h | h)
        · exact .inr (.inl h)
        · exact .inl h
        · exact .inr (.inr h)
theorem nodup_put (k' : κ) (x : ν) : ∀ (l : List (κ × ν)), (l.map Prod.fst).Nodup → ((lput k' x l).map Prod.fst).Nodup
  | [], _ => by
    have : lput k' x ([] : List (κ × ν)) = [(k', x)] := rfl
    rw [this]; simp
  | p :: l, h => by
    rw [lput_cons]
    simp only [List.map_cons, List.nodup_cons] at h
    by_cases hk : k' = p.1
    · rw [if_pos hk]
      simp only [List.map_cons, List.nodup_cons]
      rw [hk]
      exact h
    · rw [if_neg hk]
      simp only [List.map_cons, List.nodup_cons]
      refine ⟨fun hm => ?_, nodup_put k' x l h.2⟩
      rcases (keys_put k' x l p.1).1 hm with h1 | h1
      · exact hk h1.symm
      · exact h.1 h1
end

end Go.Proofs.YthglfmacjoecgaaGreatDoor
namespace Go.Proofs.YthglfmacjoecgaaGreatDoor
open Go.RowKit

abbrev nmV : Nm → Value := fun s => .string (bs s)
abbrev intV : Int → Value := fun n => .int .i64 n
abbrev boolV : Bool → Value := fun b => .bool b
theorem keyT_nm {P : Program} {kt : TypeId} (hk : P.underlying kt = some .string) : KeyT P kt nmV where
  find encv es l k w h := by
    have h0 := findNow_run .string nmV encv k (fun k' => by
      simp only [Instr.sameNow]
      rw [ba_beq]
      by_cases e : k = k'
      · subst e; simp
      · have : ¬ bs k = bs k' := fun h => e (bs_inj h)
        simp [e, this]) es l 0 h
    simp [Instr.findKey, run_underlying hk, h0]
  check b k w := by show (Instr.checkKey b (9999 + 1) kt _).run P w = _; unfold Instr.checkKey; simp [run_underlying hk]
  same k := by show Instr.sameBits (9999 + 1) _ _ = _; unfold Instr.sameBits; simp [ba_beq]
theorem keyNm : KeyT Tryz.prog 9 nmV := keyT_nm Tryz.underlying9

section
variable {κ ν : Type} {enc : κ → Value} {encv : ν → Value} {l : List (κ × ν)} {P : Program} {w : World} {r : Nat} [DecidableEq κ]
theorem getD_lval (k : κ) (l : List (κ × ν)) (z : Value) : ((lfind k l 0).map fun x => encv x.2).getD z = ((lval k l).map encv).getD z := by
  unfold lval
  cases lfind k l 0 <;> rfl
theorem isSome_lval (k : κ) (l : List (κ × ν)) : (lfind k l 0).isSome = (lval k l).isSome := by
  unfold lval
  cases lfind k l 0 <;> rfl
variable {ops : Array Oper} {rest : List Oper} {o : Oper} {a : Act} {Q : Exit → Act → World → Prop}
/-- A look-up, its answer given. -/
theorem wpList_lookup_v (hg : o.guard = none) (m x : Operand) (t : TypeId) (hop : o.op = Op.lookup t m x false) {kt e : TypeId} (K : KeyT P kt enc) (ht : P.underlying t = some (.map kt e))
    {z : Value} (hz : (zeroValue e).run P w = .ok z w) (hown : MapL w r enc encv l) (hm : a.eval m = .map (some r)) (k : κ) (hx : a.eval x = enc k) (v : Value) (hv : ((lval k l).map encv).getD z = v)
    (hK : wpList P ops Q rest (a.put o.dst v) w) : wpList P ops Q (o :: rest) a w :=
  wpList_lookup_l hg m x t false hop K ht hz hown hm k hx (by rw [getD_lval, hv]; exact hK)
/-- The same where a guard stands ahead that is met. -/
theorem wpList_plainW (hw : Region.wanted o (yielded ops a.tmps) = true)
    (h : ∀ K : Act → World → Prop, (∀ a w, wpList P ops Q rest a w → K a w) → o.wp P a w K Q) : wpList P ops Q (o :: rest) a w :=
  wpList_step fun K hK => by rw [hw]; exact h K hK
theorem wpList_lookup_w (hw : Region.wanted o (yielded ops a.tmps) = true) (m x : Operand) (t : TypeId) (hop : o.op = Op.lookup t m x false) {kt e : TypeId} (K : KeyT P kt enc) (ht : P.underlying t = some (.map kt e))
    {z : Value} (hz : (zeroValue e).run P w = .ok z w) (hown : MapL w r enc encv l) (hm : a.eval m = .map (some r)) (k : κ) (hx : a.eval x = enc k) (v : Value) (hv : ((lval k l).map encv).getD z = v)
    (hK : wpList P ops Q rest (a.put o.dst v) w) : wpList P ops Q (o :: rest) a w := by
  refine wpList_plainW hw fun K' hK' => ?_
  have hrun := hown.look K ht hz k false
  rw [getD_lval, hv] at hrun
  unfold Oper.wp
  simp only [execOp, hop, hm, hx, hrun, Sem.run_bind, Result.andThen, Oper.upon, Sem.run_pure]
  exact hK' _ _ hK
theorem wpList_lookup_ok (hg : o.guard = none) (m x : Operand) (t : TypeId) (hop : o.op = Op.lookup t m x true) {kt e : TypeId} (K : KeyT P kt enc) (ht : P.underlying t = some (.map kt e))
    {z : Value} (hz : (zeroValue e).run P w = .ok z w) (hown : MapL w r enc encv l) (hm : a.eval m = .map (some r)) (k : κ) (hx : a.eval x = enc k) (v : Value) (hv : ((lval k l).map encv).getD z = v) (b : Bool) (hb : (lval k l).isSome = b)
    (hK : wpList P ops Q rest (a.put o.dst (.tuple #[v, .bool b])) w) : wpList P ops Q (o :: rest) a w :=
  wpList_lookup_l hg m x t true hop K ht hz hown hm k hx (by rw [getD_lval, isSome_lval, hv, hb]; exact hK)
theorem MapL.run_lookup (hown : MapL w r enc encv l) {t kt e : TypeId} (K : KeyT P kt enc) (ht : P.underlying t = some (.map kt e)) {z : Value} (hz : ∀ w, (zeroValue e).run P w = .ok z w) (k : κ) (v : Value) (hv : ((lval k l).map encv).getD z = v) (n : Nat) :
    (Instr.lookup t (.map (some r)) (enc k) false).run P (w.drewN n) = .ok v (w.drewN n) := by
  have h : MapL (w.drewN n) r enc encv l := hown
  rw [h.look K ht (hz _) k false, getD_lval, hv]
  rfl

def atL (ps : List (κ × ν)) : List (κ × ν) := ps.foldl (fun l p => lput p.1 p.2 l) []
theorem atL_snoc (ps : List (κ × ν)) (p : κ × ν) : atL (ps ++ [p]) = lput p.1 p.2 (atL ps) := by
  unfold atL; rw [List.foldl_append]; rfl
theorem atL_take (ps : List (κ × ν)) (n : Nat) (h : n < ps.length) : atL (ps.take (n + 1)) = lput ps[n].1 ps[n].2 (atL (ps.take n)) := by
  rw [List.take_succ_eq_append_getElem h, atL_snoc]
theorem lput_new {k : κ} {x : ν} {l : List (κ × ν)} (h : k ∉ l.map Prod.fst) : lput k x l = l ++ [(k, x)] := by
  unfold lput
  have : lfind k l 0 = none := by
    rw [lfind_none]
    intro p hp e
    exact h (List.mem_map.2 ⟨p, hp, e⟩)
  rw [this]
theorem lput_old {k : κ} {x : ν} {l : List (κ × ν)} (h : k ∈ l.map Prod.fst) : (lput k x l).length = l.length := by
  unfold lput
  cases hf : lfind k l 0 with
  | none =>
    obtain ⟨p, hp, e⟩ := List.mem_map.1 h
    exact absurd e (lfind_none.1 hf p hp)
  | some q => simp
theorem keys_foldl : ∀ (ps : List (κ × ν)) (l : List (κ × ν)) (k : κ), k ∈ (ps.foldl (fun l p => lput p.1 p.2 l) l).map Prod.fst ↔ k ∈ l.map Prod.fst ∨ k ∈ ps.map Prod.fst
  | [], l, k => by simp
  | p :: ps, l, k => by
    rw [List.foldl_cons, keys_foldl ps, keys_put]
    simp only [List.map_cons, List.mem_cons]
    constructor
    · rintro ((h | h) | h)
      · exact .inr (.inl h)
      · exact .inl h
      · exact .inr (.inr h)
    · rintro (h | h | h)
      · exact .inl (.inr h)
      · exact .inl (.inl h)
      · exact .inr h
theorem foldl_length : ∀ (ps : List (κ × ν)) (l : List (κ × ν)), (l.map Prod.fst).Nodup → (ps.foldl (fun l p => lput p.1 p.2 l) l).length ≤ l.length + ps.length ∧
    ((ps.foldl (fun l p => lput p.1 p.2 l) l).length = l.length + ps.length → ((l ++ ps).map Prod.fst).Nodup) ∧ (((l ++ ps).map Prod.fst).Nodup → ps.foldl (fun l p => lput p.1 p.2 l) l = l ++ ps)
  | [], l, h => by simp [h]
  | p :: ps, l, h => by
    rw [List.foldl_cons]
    have ih := foldl_length ps (lput p.1 p.2 l) (nodup_put _ _ l h)
    by_cases hk : p.1 ∈ l.map Prod.fst
    · have hl := lput_old (x := p.2) hk
      refine ⟨by have := ih.1; rw [hl] at this; simp; omega, fun e => ?_, fun e => ?_⟩
      · have := ih.1; rw [hl] at this; simp at e; omega
      · rw [List.map_append, List.nodup_append] at e
        exact absurd rfl (e.2.2 _ hk p.1 (by simp))
    · have hl : (lput p.1 p.2 l) = l ++ [p] := lput_new hk
      rw [hl] at ih ⊢
      rw [List.append_assoc] at ih
      refine ⟨by have := ih.1; simp at this ⊢; omega, fun e => ih.2.1 (by simp at e ⊢; omega), fun e => ih.2.2 e⟩
theorem atL_length (ps : List (κ × ν)) : (atL ps).length ≤ ps.length ∧ ((atL ps).length = ps.length ↔ (ps.map Prod.fst).Nodup) ∧ ((ps.map Prod.fst).Nodup → atL ps = ps) := by
  have h := foldl_length ps [] (by simp)
  simp only [List.length_nil, Nat.zero_add, List.nil_append] at h
  exact ⟨h.1, ⟨h.2.1, fun e => by unfold atL; rw [h.2.2 e]⟩, h.2.2⟩
theorem lval_mem {k : κ} {x : ν} : ∀ {l : List (κ × ν)}, (l.map Prod.fst).Nodup → (k, x) ∈ l → lval k l = some x
  | p :: l, hn, h => by
    rw [List.map_cons, List.nodup_cons] at hn
    rw [lval_cons]
    rcases List.mem_cons.1 h with rfl | h
    · simp
    · rw [if_neg]
      · exact lval_mem hn.2 h
      · intro e
        exact hn.1 (List.mem_map.2 ⟨_, h, by rw [← e]⟩)
end

/-- The places by names: -1 of sources. -/
def atPs (g : GrR) : List (Nm × Int) := g.srcs.map (fun s => (s, (-1 : Int))) ++ (List.range g.acts.length).map (fun i => (nameAt g i, (i : Int)))
theorem atPs_keys (g : GrR) : (atPs g).map Prod.fst = namesL g := by
  unfold atPs namesL
  rw [List.map_append, List.map_map, List.map_map]
  congr 1
  · calc g.srcs.map (Prod.fst ∘ fun s => (s, (-1 : Int))) = g.srcs.map id := List.map_congr_left (fun _ _ => rfl)
      _ = g.srcs := List.map_id _
  · apply List.ext_getElem
    · simp
    · intro i h1 h2
      simp only [List.length_map, List.length_range] at h1
      simp only [List.getElem_map, List.getElem_range, Function.comp]
      exact nameAt_lt g i h1
theorem atPs_length (g : GrR) : (atPs g).length = g.srcs.length + g.acts.length := by unfold atPs; simp
theorem atPs_src (g : GrR) (k : Nat) (h : k < g.srcs.length) : (atPs g)[k]'(by rw [atPs_length]; omega) = (g.srcs[k], -1) := by
  unfold atPs
  rw [List.getElem_append_left (by simpa using h)]
  simp
theorem atPs_act (g : GrR) (k : Nat) (h : k < g.acts.length) : (atPs g)[g.srcs.length + k]'(by rw [atPs_length]; omega) = (nameAt g k, (k : Int)) := by
  unfold atPs
  rw [List.getElem_append_right (by simp)]
  simp
/-- What the map of places holds. -/
def atV (g : GrR) (s : Nm) : Option Int := match placeOf g s with
  | some i => some (i : Int)
  | none => if s ∈ g.srcs then some (-1) else none
theorem Wov.at {g : GrR} (h : Wov g) (s : Nm) : lval s (atL (atPs g)) = atV g s := by
  have hn : ((atPs g).map Prod.fst).Nodup := by rw [atPs_keys]; exact h.nd
  rw [(atL_length (atPs g)).2.2 hn]
  unfold atV
  cases hp : placeOf g s with
  | some i =>
    obtain ⟨hi, e⟩ := placeOf_some hp
    refine lval_mem hn ?_
    have := List.getElem_mem (l := atPs g) (n := g.srcs.length + i) (by rw [atPs_length]; omega)
    rwa [atPs_act g i hi, e] at this
  | none =>
    by_cases hs : s ∈ g.srcs
    · simp only [hs, if_true]
      refine lval_mem hn ?_
      obtain ⟨k, hk, rfl⟩ := List.mem_iff_getElem.1 hs
      have := List.getElem_mem (l := atPs g) (n := k) (by rw [atPs_length]; omega)
      rwa [atPs_src g k hk] at this
    · simp only [hs, if_false]
      rw [lval_none]
      intro p hp2 e
      have : s ∈ namesL g := by rw [← atPs_keys]; exact List.mem_map.2 ⟨p, hp2, e⟩
      rcases mem_names.1 this with h1 | ⟨i, hi, e2⟩
      · exact hs h1
      · exact placeOf_none hp i hi e2
theorem dup_length (g : GrR) : (atL (atPs g)).length = g.srcs.length + g.acts.length ↔ dupB g = false := by
  have h := atL_length (atPs g)
  rw [← atPs_length, h.2.1, atPs_keys]
  unfold dupB
  simp

theorem at_isSome (g : GrR) (s : Nm) : (lval s (atL (atPs g))).isSome = (namesL g).contains s := by
  have h := keys_foldl (atPs g) [] s
  rw [atPs_keys] at h
  simp only [List.map_nil, List.not_mem_nil, false_or] at h
  cases hl : lval s (atL (atPs g)) with
  | none =>
    rw [lval_none] at hl
    have : s ∉ namesL g := fun hs => by
      obtain ⟨p, hp, e⟩ := List.mem_map.1 (h.2 hs)
      exact hl p hp e
    simp [this]
  | some x =>
    have : s ∈ namesL g := by
      apply h.1
      by_cases hc : s ∈ (List.foldl (fun l p => lput p.1 p.2 l) [] (atPs g)).map Prod.fst
      · exact hc
      · exfalso
        have h2 : lval s (atL (atPs g)) = none := lval_none.2 (fun p hp e => hc (List.mem_map.2 ⟨p, hp, e⟩))
        rw [hl] at h2; cases h2
    simp [this]

/-- Block b holds the build g by its names. -/
structure WebAt (w : World) (b : Nat) (g : GrR) (sv av : Value) (iv : Nat → Value) (r : Nat) (l : List (Nm × Int)) : Prop where
  blk : w.heap[b]? = some (.cells #[sv, av, .map (some r)] 150 (0, 0))
  srcs : NamesAt w sv g.srcs
  acts : ActsAt w av g.acts iv
  map : MapL w r nmV intV l
  look : ∀ s, lval s l = atV g s
theorem WebAt.chg {F : Nat → Prop} {w w' : World} {b : Nat} {g : GrR} {sv av : Value} {iv : Nat → Value} {r : Nat} {l : List (Nm × Int)} (h : WebAt w b g sv av iv r l) (hc : Chg F w w') (hF : ∀ k, k < w.heap.size → ¬ F k) : WebAt w' b g sv av iv r l :=
  ⟨hc.obj h.blk (hF _ (heap_lt h.blk)), h.srcs.chg hc hF, h.acts.chg hc hF, h.map.chg hc (hF _ h.map.lt), h.look⟩
def IsWeb (w : World) (b : Nat) (g : GrR) : Prop := ∃ sv av iv r l, WebAt w b g sv av iv r l
theorem IsWeb.chg {F : Nat → Prop} {w w' : World} {b : Nat} {g : GrR} (h : IsWeb w b g) (hc : Chg F w w') (hF : ∀ k, k < w.heap.size → ¬ F k) : IsWeb w' b g := by
  obtain ⟨sv, av, iv, r, l, h⟩ := h
  exact ⟨sv, av, iv, r, l, h.chg hc hF⟩
end Go.Proofs.YthglfmacjoecgaaGreatDoor
namespace Go.Proofs.YthglfmacjoecgaaGreatDoor
open Go

abbrev ResR := Int × ByteArray
abbrev SrcR := Nm × ByteArray
def noRes : ResR := (0, ByteArray.empty)
def codeAt (g : GrR) (i : Nat) : List UInt8 := (g.acts.getD i noAct).code
theorem codeAt_lt (g : GrR) (i : Nat) (h : i < g.acts.length) : codeAt g i = g.acts[i].code := by unfold codeAt; rw [getD_of_lt _ _ _ h]

section
variable (F : List UInt8 → List ResR → ResR) (g : GrR)
/-- What lies under a name. -/
def valT (t : List (Nm × ResR)) (s : Nm) : ResR := (lval s t).getD noRes
def insT2 (t : List (Nm × ResR)) (i : Nat) : List ResR := (insAt g i).map (valT t)
def stepT (t : List (Nm × ResR)) (i : Nat) : List (Nm × ResR) := lput (nameAt g i) (F (codeAt g i) (insT2 g t i)) t
def srcT (srcs : List SrcR) : List (Nm × ResR) := atL (srcs.map fun s => (s.1, ((0 : Int), s.2)))
def foldT (srcs : List SrcR) (l : List Nat) : List (Nm × ResR) := l.foldl (stepT F g) (srcT srcs)
/-- All that is there in the end. -/
def madeT (srcs : List SrcR) : List (Nm × ResR) := foldT F g srcs (orderR g)

theorem foldT_snoc (srcs : List SrcR) (l : List Nat) (i : Nat) : foldT F g srcs (l ++ [i]) = stepT F g (foldT F g srcs l) i := by unfold foldT; rw [List.foldl_append]; rfl
theorem stepT_val (t : List (Nm × ResR)) (i : Nat) (s : Nm) : lval s (stepT F g t i) = if s = nameAt g i then some (F (codeAt g i) (insT2 g t i)) else lval s t := by
  unfold stepT
  rw [lval_put]
/-- What is not made by these places is as it was. -/
theorem foldl_other : ∀ (l : List Nat) (t : List (Nm × ResR)) (s : Nm), (∀ j ∈ l, nameAt g j ≠ s) → lval s (l.foldl (stepT F g) t) = lval s t
  | [], _, _, _ => rfl
  | i :: l, t, s, h => by
    rw [List.foldl_cons, foldl_other l _ s (fun j hj => h j (by simp [hj])), stepT_val, if_neg (fun e => h i (by simp) e.symm)]
/-- The sources fit the build: just those that it names, each once. -/
structure Fit (srcs : List SrcR) : Prop where
  nd : (srcs.map Prod.fst).Nodup
  mem : ∀ s, s ∈ srcs.map Prod.fst ↔ s ∈ g.srcs
variable {F g}
theorem srcT_eq {srcs : List SrcR} (h : (srcs.map Prod.fst).Nodup) : srcT srcs = srcs.map fun s => (s.1, ((0 : Int), s.2)) := by
  unfold srcT
  refine (atL_length _).2.2 ?_
  rw [List.map_map]
  exact h
theorem srcT_mem {srcs : List SrcR} (h : (srcs.map Prod.fst).Nodup) {s : SrcR} (hs : s ∈ srcs) : lval s.1 (srcT srcs) = some (0, s.2) := by
  rw [srcT_eq h]
  refine lval_mem ?_ (List.mem_map.2 ⟨s, hs, rfl⟩)
  rw [List.map_map]
  exact h
theorem Ordd.left {l : List Nat} {i : Nat} (h : Ordd g (l ++ [i])) : Ordd g l ∧ i ∉ l ∧ i < g.acts.length ∧ ∀ s ∈ insAt g i, s ∈ g.srcs ∨ ∃ j ∈ l, nameAt g j = s := by
  have hn := List.nodup_append.1 h.nd
  refine ⟨⟨hn.1, fun j hj => h.lt j (by simp [hj]), fun k hk s hs => ?_⟩, fun hi => hn.2.2 i hi i (by simp) rfl, h.lt i (by simp), fun s hs => ?_⟩
  · rcases h.sup k (by simp; omega) s (by rw [List.getElem_append_left hk]; exact hs) with h1 | ⟨j, hj, h1⟩
    · exact .inl h1
    · exact .inr ⟨j, hj, by rw [List.getElem_append_left (by omega)] at h1; exact h1⟩
  · rcases h.sup l.length (by simp) s (by rw [List.getElem_append_right (Nat.le_refl _)]; simpa using hs) with h1 | ⟨j, hj, h1⟩
    · exact .inl h1
    · exact .inr ⟨l[j], List.getElem_mem hj, by rw [List.getElem_append_left hj] at h1; exact h1⟩
/-- What lies under the names of a prefix of the order is there in the end. -/
theorem foldl_keep (hw : Wov g) {l m : List Nat} (ho : Ordd g (l ++ m)) (srcs : List SrcR) {s : Nm} (hs : s ∈ g.srcs ∨ ∃ j ∈ l, nameAt g j = s) : lval s (foldT F g srcs (l ++ m)) = lval s (foldT F g srcs l) := by
  unfold foldT
  rw [List.foldl_append]
  refine foldl_other F g m _ s (fun j hj e => ?_)
  have hj2 := ho.lt j (by simp [hj])
  rcases hs with h | ⟨q, hq, h⟩
  · exact hw.apart hj2 (e ▸ h)
  · have := hw.inj (ho.lt q (by simp [hq])) hj2 (h.trans e.symm)
    subst this
    exact (List.nodup_append.1 ho.nd).2.2 q hq q hj rfl
end
end Go.Proofs.YthglfmacjoecgaaGreatDoor
namespace Go.Proofs.YthglfmacjoecgaaGreatDoor
open Go.RowKit

def WovenPost (w : World) (g : GrR) (e : Ending) (w' : World) : Prop :=
  Chg (fun _ => False) w w' ∧ ((wovenR g = 0 ∧ ∃ b, e = .returned (.tuple #[.pointer (some ⟨b, 0, none⟩), .int .i64 0]) ∧ IsWeb w' b g) ∨ (wovenR g ≠ 0 ∧ e = .returned (.tuple #[.pointer none, .int .i64 (wovenR g)])))
theorem MapL.al {κ ν : Type} {enc : κ → Value} {encv : ν → Value} {l : List (κ × ν)} {w : World} {r : Nat} (h : MapL w r enc encv l) (o : Obj) : MapL (w.alloc o) r enc encv l :=
  h.chg ((Chg.refl (fun _ => False) w).alloc o) (fun h => h)
theorem zeroI (w : World) : (zeroValue 3).run Tryz.prog w = .ok (.int .i64 0) w := by kernel_rfl

set_option maxRecDepth 100000 in
set_option maxHeartbeats 4000000 in
theorem woven_any (g : GrR) (v : Value) (w : World) (hg : GrAt w v g) : Calls Tryz.prog 113 #[v] w (WovenPost w g) := by
  have hpr : ∀ W, Chg (fun _ => False) w W → Calls Tryz.prog 132 #[v] W (Rets (.tuple #[.string (bs ((printR g).getD [])), .int .i64 (if grOK g = true then 0 else 1)]) (Chg (fun _ => False) W)) := fun W hW => print_any g v W (hg.chg hW (fun _ _ h => h))
  obtain ⟨oa, c, ob, d, iv, rfl, hs, ha⟩ := hg.form
  have hC1 : Chg (fun _ => False) w (w.alloc (.cells #[.slice oa g.srcs.length c, .slice ob g.acts.length d] 25)) := (Chg.refl _ w).alloc _
  have h1 := hpr _ hC1
  clear hpr hg
  cases hok : grOK g with
  | false =>
    have hw : wovenR g = 1 := by unfold wovenR; rw [hok]; rfl
    rw [hok] at h1
    have HW := hid hw
    clear hw hs ha
    go_enter Tryz.func113, Tryz.ntmps113
    go_wp2_with (go_at_call 132; refine h1.mono ?_; rintro e w' ⟨rfl, hc⟩)
    go_ret2
    refine ⟨hC1.trans hc (fun _ _ h => h), .inr ?_⟩
    rw [HW.out]
    exact ⟨by decide, rfl⟩
  | true =>
    rw [hok] at h1
    have hgb : (w.alloc (.cells #[.slice oa g.srcs.length c, .slice ob g.acts.length d] 25)).heap[w.heap.size]? = some (.cells #[.slice oa g.srcs.length c, .slice ob g.acts.length d] 25 (0, 0)) := heap_alloc_new' w _
    have hn1 := hs.le
    have hn2 := ha.rows.le
    unfold maxLen at hn1 hn2
    have hn8 : g.srcs.length ≤ 8 := ((grOK_iff g).1 hok).1
    have hn12 : g.acts.length ≤ 12 := ((grOK_iff g).1 hok).2.1
    have HS := hid hs
    have HA := hid ha
    have HG := hid hgb
    have HOK := hid hok
    clear hs ha hgb hok
    have hmm := @run_makeMap Tryz.prog
    go_enter Tryz.func113, Tryz.ntmps113
    go_wp2_with (go_at_call 132; refine h1.mono ?_; rintro e w2 ⟨rfl, hc2⟩; have p0 := cell_of (hc2.obj HG.out (fun h => h)) 0; have p1 := cell_of (hc2.obj HG.out (fun h => h)) 1; simp at p0 p1; have q0 := cell_alloc' (cell_alloc' (cell_of (hc2.obj HG.out (fun h => h)) 0) (.map #[] 0)) (.cells #[.slice oa g.srcs.length c, .slice ob g.acts.length d, .map (some w2.heap.size)] 150); simp at q0)
    have hlt : w.heap.size < w2.heap.size := by have := hc2.size; simp at this; omega
    have hch3 : Chg (fun _ => False) w ((w2.alloc (.map #[] 0)).alloc (.cells #[.slice oa g.srcs.length c, .slice ob g.acts.length d, .map (some w2.heap.size)] 150)) := ((hC1.trans hc2 (fun _ _ h => h)).alloc _).alloc _
    have hgb3 : ((w2.alloc (.map #[] 0)).alloc (.cells #[.slice oa g.srcs.length c, .slice ob g.acts.length d, .map (some w2.heap.size)] 150)).heap[w.heap.size]? = some (.cells #[.slice oa g.srcs.length c, .slice ob g.acts.length d] 25 (0, 0)) := heap_alloc_old' (heap_alloc_old' (hc2.obj HG.out (fun h => h)) _) _
    have hwb3 : ((w2.alloc (.map #[] 0)).alloc (.cells #[.slice oa g.srcs.length c, .slice ob g.acts.length d, .map (some w2.heap.size)] 150)).heap[w2.heap.size + 1]? = some (.cells #[.slice oa g.srcs.length c, .slice ob g.acts.length d, .map (some w2.heap.size)] 150 (0, 0)) := by
      have := heap_alloc_new' (w2.alloc (.map #[] 0)) (.cells #[.slice oa g.srcs.length c, .slice ob g.acts.length d, .map (some w2.heap.size)] 150)
      simpa using this
    have hm3 : MapL ((w2.alloc (.map #[] 0)).alloc (.cells #[.slice oa g.srcs.length c, .slice ob g.acts.length d, .map (some w2.heap.size)] 150)) w2.heap.size nmV intV ([] : List (Nm × Int)) := (MapL.fresh w2).al _
    clear hc2 hC1 HG h1 q0 p0 p1
    generalize ((w2.alloc (.map #[] 0)).alloc (.cells #[.slice oa g.srcs.length c, .slice ob g.acts.length d, .map (some w2.heap.size)] 150)) = W3 at *
    obtain ⟨r, hr⟩ : ∃ r, r = w2.heap.size := ⟨_, rfl⟩
    obtain ⟨bw, hbw⟩ : ∃ bw, bw = w2.heap.size + 1 := ⟨_, rfl⟩
    obtain ⟨bg, hbg⟩ : ∃ bg, bg = w.heap.size := ⟨_, rfl⟩
    rw [← hbw, ← hr] at hwb3
    rw [← hr] at hm3
    rw [← hbg] at hgb3
    rw [← hbw, ← hr, ← hbg]
    have hne1 : ¬ bg = r := by omega
    have hne2 : ¬ bw = r := by omega
    have hwr : w.heap.size ≤ r := by omega
    clear hr hbw hlt
    have hfar : ∀ W, Chg (fun k => k = r) W3 W → Chg (fun _ => False) w W := fun W hW => hch3.trans hW (fun i hi h => by omega)
    have hgc : ∀ W, Chg (fun k => k = r) W3 W → W.cell? ⟨bg, 0, none⟩ = some (.slice oa g.srcs.length c) ∧ W.cell? ⟨bg, 1, none⟩ = some (.slice ob g.acts.length d) := fun W hW => ⟨cell_of (hW.obj hgb3 hne1) 0, cell_of (hW.obj hgb3 hne1) 1⟩
    have hwc : ∀ W, Chg (fun k => k = r) W3 W → W.cell? ⟨bw, 2, none⟩ = some (.map (some r)) := fun W hW => cell_of (hW.obj hwb3 hne2) 2
    have HF := hid hfar
    have HGC := hid hgc
    have HWC := hid hwc
    have HWB := hid hwb3
    have hm3' : MapL W3 r nmV intV (atL ((atPs g).take 0)) := hm3
    have HM3 := hid hm3'
    have HNE := hid (And.intro hne1 hne2)
    clear hfar hgc hwc hch3 hgb3 hwb3 hm3 hm3' hne1 hne2 hbg hwr
    go_loopw [31] (fun i wr => ∃ k : Nat, k ≤ g.srcs.length ∧ i = .int .i64 k ∧ Chg (fun k => k = r) W3 wr ∧ MapL wr r nmV intV (atL ((atPs g).take k))) (fun i _ => g.srcs.length - (intOf i).toNat)
    case atStart => exact ⟨0, Nat.zero_le _, rfl, Chg.refl _ _, HM3.out⟩
    case round =>
      obtain ⟨k, hk, rfl, hch, hm⟩ := hrel
      have HC := hid hch
      have HM := hid hm
      have q2 := HWC.out _ hch
      clear hch hm
      by_cases hkn : k < g.srcs.length
      · have hkn' : (k : Int) < g.srcs.length := by omega
        obtain ⟨ad, hix, hadc, hadb⟩ := (HS.out.chg (HF.out wr HC.out) (fun _ _ h => h)).ix k hkn
        have HP : Hid (∀ W', MapL W' r nmV intV (lput g.srcs[k] (-1) (atL ((atPs g).take k))) → MapL W' r nmV intV (atL ((atPs g).take (k + 1)))) := by
          intro W' h
          rw [atL_take _ k (by rw [atPs_length]; omega), atPs_src g k hkn]
          exact h
        generalize hnm : g.srcs[k] = nm at *
        have HNM := hid hnm
        clear hnm
        go_wp2_with (at_mapUpdate; refine wpList_mapUpdate_l rfl _ _ _ 148 rfl keyNm Tryz.underlying148 HM.out rfl nm rfl (-1 : Int) rfl ?_; intro w1 hm1 hc1)
        go_roundw
        case rel => exact ⟨k + 1, by omega, by go_num, HC.out.trans hc1 (fun _ _ h => h), HP.out _ hm1⟩
        case measure => simp [intOf]; omega
      · obtain rfl : k = g.srcs.length := by omega
        have q3 := (HGC.out _ HC.out).2
        have hlenA := HA.out.len
        have hm4 : MapL wr r nmV intV (atL ((atPs g).take (g.srcs.length + 0))) := HM.out
        have HM4 := hid hm4
        have HC4 := hid HC.out
        clear hm4
        go_wp2_with fail
        clear q2 q3 HM HC
        obtain ⟨wo, hwo⟩ : ∃ wo, wo = wr := ⟨_, rfl⟩
        rw [← hwo] at HM4 HC4 ⊢
        clear hwo
        go_loopw [44] (fun i wr => ∃ k : Nat, k ≤ g.acts.length ∧ i = .int .i64 k ∧ Chg (fun k => k = r) W3 wr ∧ MapL wr r nmV intV (atL ((atPs g).take (g.srcs.length + k)))) (fun i _ => g.acts.length - (intOf i).toNat)
        case atStart => exact ⟨0, Nat.zero_le _, rfl, HC4.out, HM4.out⟩
        case round =>
          obtain ⟨k, hk, rfl, hch, hm⟩ := hrel
          have HC := hid hch
          have HM := hid hm
          clear hch hm HC4 HM4
          by_cases hkn : k < g.acts.length
          · have hkn' : (k : Int) < g.acts.length := by omega
            obtain ⟨bb, oo, hix, hlt, e0, e1, e2, hns, hw1, hw2⟩ := (HA.out.chg (HF.out wr HC.out) (fun _ _ h => h)).at k hkn
            obtain ⟨oi, ci, hiv⟩ := hns.form
            rw [hiv] at e1
            have HP : Hid (∀ W', MapL W' r nmV intV (lput g.acts[k].name (k : Int) (atL ((atPs g).take (g.srcs.length + k)))) → MapL W' r nmV intV (atL ((atPs g).take (g.srcs.length + (k + 1))))) := by
              intro W' h
              rw [show g.srcs.length + (k + 1) = g.srcs.length + k + 1 by omega, atL_take _ _ (by rw [atPs_length]; omega), atPs_act g k hkn]
              show MapL W' r nmV intV (lput (nameAt g k) _ _)
              rw [nameAt_lt g k hkn]
              exact h
            clear hiv hns hw1 hw2
            generalize g.acts[k].ins.length = ni at *
            generalize hnm : g.acts[k].name = nm at *
            generalize bs g.acts[k].code = cd at *
            have hch5 := HC.out.alloc (.cells #[.string (bs nm), .slice oi ni ci, .string cd] 43)
            have q2 := HWC.out _ hch5
            have hm5 := HM.out.al (.cells #[.string (bs nm), .slice oi ni ci, .string cd] 43)
            have k5 := heap_alloc_new' wr (.cells #[.string (bs nm), .slice oi ni ci, .string cd] 43)
            have HC5 := hid hch5
            have HM5 := hid hm5
            have HK5 := hid k5
            have HNM := hid hnm
            clear hnm hch5 hm5 k5
            go_wp2_with fail
            generalize wr.alloc (.cells #[.string (bs nm), .slice oi ni ci, .string cd] 43) = W5 at *
            have c0 : W5.cell? ⟨wr.heap.size, 0, none⟩ = some (.string (bs nm)) := cell_of HK5.out 0
            go_still_tail 8, (by kernel_rfl)
            change wpList _ _ _ _ _ W5.drew
            refine wpList_mapUpdate_l rfl _ _ _ 148 rfl keyNm Tryz.underlying148 (show MapL W5.drew r nmV intV _ from HM5.out) rfl nm rfl (k : Int) rfl ?_
            intro w1 hm1 hc1
            go_wp2_with fail
            go_roundw
            case rel => exact ⟨k + 1, by omega, by go_num, HC5.out.drew.trans hc1 (fun _ _ h => h), HP.out _ hm1⟩
            case measure => simp [intOf]; omega
          · obtain rfl : k = g.acts.length := by omega
            have hm6 : MapL wr r nmV intV (atL (atPs g)) := by
              have := HM.out
              rwa [List.take_of_length_le (by rw [atPs_length]; omega)] at this
            have HM6 := hid hm6
            have q2 := HWC.out _ HC.out
            have g0 := (HGC.out _ HC.out).1
            have g1 := (HGC.out _ HC.out).2
            have hlenS := HS.out.len
            have hlenM : ∀ n ty, (Builtin.len_ #[148] ty #[.map (some r)]).run Tryz.prog (wr.drewN n) = .ok (.int .i64 (atL (atPs g)).length) (wr.drewN n) := fun n ty =>
              MapL.len (show MapL (wr.drewN n) r nmV intV (atL (atPs g)) from hm6) Tryz.underlying148 ty
            have hsum : IntKind.i64.wrap ((g.srcs.length : Int) + (g.acts.length : Int)) = (g.srcs.length : Int) + (g.acts.length : Int) := by rw [IntKind.wrap_i64]; omega
            clear hm6 HM
            cases hdup : dupB g with
            | true =>
              have hL : ¬ ((atL (atPs g)).length : Int) = (g.srcs.length : Int) + (g.acts.length : Int) := fun e => by
                have := (dup_length g).1 (by omega)
                rw [hdup] at this; cases this
              have HW : Hid (wovenR g = 21) := by show wovenR g = 21; unfold wovenR; rw [HOK.out, hdup]; rfl
              generalize (atL (atPs g)).length = L at *
              clear hdup hkn hk
              go_wp2_with fail
              go_quiet (fail)
              go_wp2_with fail
              go_ret2
              exact ⟨HF.out _ (HC.out.drewN _), .inr ⟨by rw [HW.out]; decide, by rw [HW.out]; rfl⟩⟩
            | false =>
              have hL : ((atL (atPs g)).length : Int) = (g.srcs.length : Int) + (g.acts.length : Int) := by
                have := (dup_length g).2 hdup
                omega
              have HD := hid hdup
              rw [hL] at hlenM
              clear hL hdup hkn hk
              go_wp2_with fail
              go_quiet (fail)
              have hC7 := HC.out.drewN nq
              have hm7 : MapL (wr.drewN nq) r nmV intV (atL (atPs g)) := HM6.out
              have g1' := (HGC.out _ hC7).2
              clear hlenM hlenS hsum q2 g0 g1 HM6 HC
              generalize wr.drewN nq = W7 at *
              have HC7 := hid hC7
              have HM7 := hid hm7
              clear hC7 hm7
              go_wp2_with fail
              clear g1'
              go_loopw [74] (fun i wr => ∃ k : Nat, k ≤ g.acts.length ∧ i = .int .i64 k ∧ Chg (fun _ => False) W7 wr ∧ ∀ j, j < k → ∀ s ∈ insAt g j, s ∈ namesL g) (fun i _ => g.acts.length - (intOf i).toNat)
              case atStart => exact ⟨0, Nat.zero_le _, rfl, Chg.refl _ _, fun j h => absurd h (Nat.not_lt_zero _)⟩
              case round =>
                obtain ⟨k, hk, rfl, hch, hall⟩ := hrel
                have HA2 := hid hall
                have HC8 := hid hch
                have hC9 := HC7.out.trans hch (fun _ _ h => h.elim)
                have HC9 := hid hC9
                clear hall hch hC9
                by_cases hkn : k < g.acts.length
                · have hkn' : (k : Int) < g.acts.length := by omega
                  obtain ⟨bb, oo, hix, hlt, e0, e1, e2, hns, hw1, hw2⟩ := (HA.out.chg (HF.out _ HC9.out) (fun _ _ h => h)).at k hkn
                  obtain ⟨oi, ci, hiv⟩ := hns.form
                  rw [hiv] at e1 hns
                  have hli := hns.le
                  unfold maxLen at hli
                  have HI : Hid (insAt g k = g.acts[k].ins) := insAt_lt g k hkn
                  have HMI : Hid (∀ s ∈ g.acts[k].ins, s ∉ namesL g → missB g = true) := by
                    intro s hs hn
                    unfold missB
                    rw [List.any_eq_true]
                    refine ⟨_, List.getElem_mem hkn, ?_⟩
                    rw [List.any_eq_true]
                    exact ⟨s, hs, by simp [hn]⟩
                  generalize bs g.acts[k].name = nm at *
                  generalize bs g.acts[k].code = cd at *
                  generalize g.acts[k].ins = ins at *
                  have hA : Chg (fun _ => False) wr (wr.alloc (.cells #[.string nm, .slice oi ins.length ci, .string cd] 43)) := (Chg.refl _ wr).alloc _
                  have kA := heap_alloc_new' wr (.cells #[.string nm, .slice oi ins.length ci, .string cd] 43)
                  have HNA := hid (hns.chg hA (fun _ _ h => h))
                  have hlenN := hns.len
                  have HA9 := hid hA
                  have HKA := hid kA
                  clear hiv hns hw1 hw2 hA kA
                  go_wp2_with fail
                  generalize wr.alloc (.cells #[.string nm, .slice oi ins.length ci, .string cd] 43) = wa at *
                  clear e0 e1 e2 hix
                  have HCa := hid (HC9.out.trans HA9.out (fun _ _ h => h.elim))
                  have HMa := hid (HM7.out.chg (HC8.out.trans HA9.out (fun _ _ h => h)) (fun h => h))
                  have q2 := HWC.out _ HCa.out
                  go_loopw [81] (fun i wb => ∃ q : Nat, q ≤ ins.length ∧ i = .int .i64 q ∧ wb = wa ∧ ∀ j (h : j < ins.length), j < q → ins[j] ∈ namesL g) (fun i _ => ins.length - (intOf i).toNat)
                  case atStart => exact ⟨0, Nat.zero_le _, rfl, rfl, fun j _ h => absurd h (Nat.not_lt_zero _)⟩
                  case round =>
                    obtain ⟨q, hq, rfl, rfl, hin⟩ := hrel
                    have HIN := hid hin
                    clear hin
                    by_cases hqn : q < ins.length
                    · have hqn' : (q : Int) < ins.length := by omega
                      obtain ⟨ad3, hix3, hadc3, hadb3⟩ := HNA.out.ix q hqn
                      have hsome := at_isSome g ins[q]
                      have HMQ := hid (HMI.out _ (List.getElem_mem hqn))
                      generalize hs3 : ins[q] = s3 at *
                      by_cases hmem : s3 ∈ namesL g
                      · have hb : (lval s3 (atL (atPs g))).isSome = true := by rw [hsome]; simpa using hmem
                        have HB := hid hb
                        have HMEM := hid hmem
                        have HS3 := hid hs3
                        clear hsome hb hmem hs3
                        go_wp2_with (at_lookup; refine wpList_lookup_ok rfl _ _ 148 rfl keyNm Tryz.underlying148 (zeroI _) HMa.out rfl s3 rfl _ rfl true HB.out ?_)
                        go_roundw
                        case rel =>
                          refine ⟨q + 1, by omega, by go_num, by first | rfl | trivial, fun j hj hjq => ?_⟩
                          by_cases e : j = q
                          · subst e; rw [HS3.out]; exact HMEM.out
                          · exact HIN.out j hj (by omega)
                        case measure => simp [intOf]; omega
                      · have hb : (lval s3 (atL (atPs g))).isSome = false := by rw [hsome]; simpa using hmem
                        have HB := hid hb
                        have HW : Hid (wovenR g = 22) := by show wovenR g = 22; unfold wovenR; rw [HOK.out, HD.out, HMQ.out hmem]; rfl
                        clear hsome hb hmem hs3
                        go_wp2_with (at_lookup; refine wpList_lookup_ok rfl _ _ 148 rfl keyNm Tryz.underlying148 (zeroI _) HMa.out rfl s3 rfl _ rfl false HB.out ?_)
                        go_ret2
                        exact ⟨HF.out _ HCa.out, .inr ⟨by rw [HW.out]; decide, by rw [HW.out]; rfl⟩⟩
                    · obtain rfl : q = ins.length := by omega
                      go_wp2_with fail
                      go_roundw
                      case rel =>
                        refine ⟨k + 1, by omega, by go_num, HC8.out.trans HA9.out (fun _ _ h => h), fun j hjk s hs => ?_⟩
                        by_cases e : j = k
                        · subst e
                          rw [HI.out] at hs
                          obtain ⟨q, hq, rfl⟩ := List.mem_iff_getElem.1 hs
                          exact HIN.out q hq hq
                        · exact HA2.out j (by omega) s hs
                      case measure => simp [intOf]; omega
                · obtain rfl : k = g.acts.length := by omega
                  have HW : Hid (Wov g) := by
                    refine ⟨HOK.out, ?_, ?_⟩
                    · have := HD.out; unfold dupB at this; simpa using this
                    · intro a ha s hs
                      obtain ⟨j, hj, rfl⟩ := List.mem_iff_getElem.1 ha
                      exact HA2.out j hj s (by rw [insAt_lt g j hj]; exact hs)
                  go_wp2_with fail
                  go_ret2
                  refine ⟨HF.out _ HC9.out, .inl ⟨wovenR_zero.2 HW.out, bw, rfl, .slice oa g.srcs.length c, .slice ob g.acts.length d, iv, r, atL (atPs g), ?_⟩⟩
                  exact ⟨HC9.out.obj HWB.out HNE.out.2, HS.out.chg (HF.out _ HC9.out) (fun _ _ h => h), HA.out.chg (HF.out _ HC9.out) (fun _ _ h => h), HM7.out.chg HC8.out (fun h => h), fun s => HW.out.at s⟩
end Go.Proofs.YthglfmacjoecgaaGreatDoor
namespace Go.Proofs.YthglfmacjoecgaaGreatDoor
open Go.RowKit

/-- What has been made: the names of these places. -/
def doneL (g : GrR) (l : List Nat) : List (Nm × Bool) := atL (l.map fun i => (nameAt g i, true))
theorem doneL_snoc (g : GrR) (l : List Nat) (i : Nat) : doneL g (l ++ [i]) = lput (nameAt g i) true (doneL g l) := by
  unfold doneL
  rw [List.map_append, List.map_cons, List.map_nil, atL_snoc]
theorem lval_trues {s : Nm} : ∀ (ps : List (Nm × Bool)) (l : List (Nm × Bool)), (∀ p ∈ ps, p.2 = true) → lval s (ps.foldl (fun l p => lput p.1 p.2 l) l) = if s ∈ ps.map Prod.fst then some true else lval s l
  | [], l, _ => by simp
  | p :: ps, l, h => by
    rw [List.foldl_cons, lval_trues ps _ (fun q hq => h q (List.mem_cons_of_mem _ hq)), lval_put, h p List.mem_cons_self]
    simp only [List.map_cons, List.mem_cons]
    by_cases h1 : s = p.1
    · simp [h1]
    · simp [h1]
theorem doneL_val (g : GrR) (l : List Nat) (s : Nm) : (lval s (doneL g l)).getD false = (l.map (nameAt g)).contains s := by
  unfold doneL atL
  rw [lval_trues _ _ (fun p hp => by obtain ⟨i, _, rfl⟩ := List.mem_map.1 hp; rfl)]
  have e : (l.map fun i => (nameAt g i, true)).map Prod.fst = l.map (nameAt g) := by
    rw [List.map_map]; rfl
  rw [e, lval_nil]
  by_cases h : s ∈ l.map (nameAt g)
  · simp [h]
  · rw [if_neg h]
    have : (l.map (nameAt g)).contains s = false := by simpa using h
    rw [this]; rfl
/-- Whether a name is still waited for. -/
def waitsB (g : GrR) (l : List Nat) (s : Nm) : Bool := (placeOf g s).isSome && !(l.map (nameAt g)).contains s
theorem ready_waits {g : GrR} (hw : Wov g) (l : List Nat) (a : ActR) (ha : a ∈ g.acts) : readyB g l a = (!(l.map (nameAt g)).contains a.name && !(a.ins.any (waitsB g l))) := by
  unfold readyB
  congr 1
  rw [List.all_eq_not_any_not]
  congr 1
  have : ∀ s ∈ a.ins, (!(g.srcs.contains s || (l.map (nameAt g)).contains s)) = waitsB g l s := by
    intro s hs
    unfold waitsB
    rcases hw.src_or (hw.ins a ha s hs) with ⟨h1, h2⟩ | ⟨i, hi, h1, h2, h3⟩
    · rw [h2]; simp [h1]
    · rw [h2]; simp [h3]
  rw [Bool.eq_iff_iff, List.any_eq_true, List.any_eq_true]
  constructor
  · rintro ⟨s, hs, h⟩; exact ⟨s, hs, by rw [← this s hs]; exact h⟩
  · rintro ⟨s, hs, h⟩; exact ⟨s, hs, by rw [this s hs]; exact h⟩
theorem zeroB (w : World) : (zeroValue 4).run Tryz.prog w = .ok (.bool false) w := by kernel_rfl

set_option maxRecDepth 100000 in
set_option maxHeartbeats 1000000 in
theorem waits_any (g : GrR) (hw : Wov g) (l : List Nat) (s : Nm) (hs : s ∈ namesL g) (w : World) (bp bd b rd : Nat) (hp : w.cell? ⟨bp, 0, none⟩ = some (.pointer (some ⟨b, 0, none⟩))) (hb : IsWeb w b g)
    (hd : w.cell? ⟨bd, 0, none⟩ = some (.map (some rd))) (hm : MapL w rd nmV boolV (doneL g l)) :
    Calls Tryz.prog 133 #[.string (bs s), .pointer (some ⟨bp, 0, none⟩), .pointer (some ⟨bd, 0, none⟩)] w (Rets (.bool (waitsB g l s)) (fun w' => w = w')) := by
  obtain ⟨sv, av, iv, r, lm, hb⟩ := hb
  have c2 := cell_of hb.blk 2
  simp at c2
  have hv := hb.look s
  have hd1 := doneL_val g l s
  have HM := hid hm
  have HB := hid hb.map
  rcases hw.src_or hs with ⟨h1, h2⟩ | ⟨i, hi, h1, h2, h3⟩
  · have hv1 : ((lval s lm).map intV).getD (.int .i64 0) = .int .i64 (-1) := by rw [hv]; unfold atV; rw [h2]; simp [h1]
    have hr : waitsB g l s = false := by unfold waitsB; rw [h2]; rfl
    rw [hr]
    have HV := hid hv1
    clear hv1 hr hd1 hv hb h1 h2 hw hs hm
    go_enter Tryz.func133, Tryz.ntmps133
    go_wp2_with (at_lookup; refine wpList_lookup_v rfl _ _ 148 rfl keyNm Tryz.underlying148 (zeroI _) HB.out rfl s rfl _ HV.out ?_)
    go_ret
    exact ⟨rfl, rfl⟩
  · have hv1 : ((lval s lm).map intV).getD (.int .i64 0) = .int .i64 i := by rw [hv]; unfold atV; rw [h2]; rfl
    have hr : waitsB g l s = !(l.map (nameAt g)).contains s := by unfold waitsB; rw [h2]; rfl
    have hv2 : ((lval s (doneL g l)).map boolV).getD (.bool false) = .bool ((l.map (nameAt g)).contains s) := by
      rw [← hd1]; cases lval s (doneL g l) <;> rfl
    rw [hr]
    generalize (l.map (nameAt g)).contains s = B at *
    have HV := hid hv1
    have HV2 := hid hv2
    have hi0 : (0 : Int) ≤ (i : Int) := by omega
    clear hv1 hv2 hr hd1 hv hb h1 h2 hw hs hm h3
    go_enter Tryz.func133, Tryz.ntmps133
    go_wp2_with (first | (at_lookup; refine wpList_lookup_v rfl _ _ 148 rfl keyNm Tryz.underlying148 (zeroI _) HB.out rfl s rfl _ HV.out ?_) | (at_lookup; refine wpList_lookup_w rfl _ _ 139 rfl keyNm Tryz.underlying139 (zeroB _) HM.out rfl s rfl _ HV2.out ?_))
    all_goals go_ret
    all_goals exact ⟨rfl, rfl⟩

set_option maxRecDepth 100000 in
set_option maxHeartbeats 1000000 in
theorem ready_any (g : GrR) (hw : Wov g) (l : List Nat) (a : ActR) (iva : Value) (ha : a ∈ g.acts) (w : World) (bp bd b rd bf : Nat) (hp : w.cell? ⟨bp, 0, none⟩ = some (.pointer (some ⟨b, 0, none⟩))) (hb : IsWeb w b g)
    (hd : w.cell? ⟨bd, 0, none⟩ = some (.map (some rd))) (hm : MapL w rd nmV boolV (doneL g l)) (hf : w.cell? ⟨bf, 0, none⟩ = some (.func (.func 133) #[] #[.pointer (some ⟨bp, 0, none⟩), .pointer (some ⟨bd, 0, none⟩)]))
    (hi : NamesAt w iva a.ins) :
    Calls Tryz.prog 134 #[actV a iva, .pointer (some ⟨bd, 0, none⟩), .pointer (some ⟨bf, 0, none⟩)] w (Rets (.bool (readyB g l a)) (Chg (fun _ => False) w)) := by
  have hrw := ready_waits hw l a ha
  have hC1 : Chg (fun _ => False) w (w.alloc (.cells #[.string (bs a.name), iva, .string (bs a.code)] 43)) := (Chg.refl _ w).alloc _
  have k1 := heap_alloc_new' w (.cells #[.string (bs a.name), iva, .string (bs a.code)] 43)
  have d1 := hC1.cell hd (fun h => h)
  have f1 := hC1.cell hf (fun h => h)
  have m1 := hm.chg hC1 (fun h => h)
  have hcf := cfs_waits (some ⟨bp, 0, none⟩) (some ⟨bd, 0, none⟩) (waitsB g l) iva a.ins _ (hi.chg hC1 (fun _ _ h => h)) (fun s hs W hW =>
    (waits_any g hw l s (hw.ins a ha s hs) W bp bd b rd ((hC1.trans hW (fun _ _ h => h)).cell hp (fun h => h)) (hb.chg (hC1.trans hW (fun _ _ h => h)) (fun _ _ h => h)) ((hC1.trans hW (fun _ _ h => h)).cell hd (fun h => h)) (hm.chg (hC1.trans hW (fun _ _ h => h)) (fun h => h))).mono
      (fun e w' ⟨h1, h2⟩ => ⟨h1, h2 ▸ Chg.refl _ _⟩))
  have hd1 := doneL_val g l a.name
  have hv2 : ((lval a.name (doneL g l)).map boolV).getD (.bool false) = .bool ((l.map (nameAt g)).contains a.name) := by
    rw [← hd1]; cases lval a.name (doneL g l) <;> rfl
  rw [hrw]
  unfold actV
  have HM := hid m1
  have HV := hid hv2
  have HC1 := hid hC1
  have HK := hid k1
  have HCF := hid hcf
  clear hd1 hv2 hcf m1 hrw hC1 k1 hp hb hd hm hf hi
  generalize (l.map (nameAt g)).contains a.name = D at *
  generalize a.ins.any (waitsB g l) = B at *
  generalize hnm : a.name = nm at *
  generalize bs a.code = cd at *
  have HNM := hid hnm
  clear hnm
  have c0 : (w.alloc (.cells #[.string (bs nm), iva, .string cd] 43)).cell? ⟨w.heap.size, 1, none⟩ = some iva := cell_of HK.out 1
  cases D with
  | true =>
    clear HCF
    go_enter Tryz.func134, Tryz.ntmps134
    go_wp2_with (at_lookup; refine wpList_lookup_v rfl _ _ 139 rfl keyNm Tryz.underlying139 (zeroB _) HM.out rfl nm rfl _ HV.out ?_)
    go_ret
    exact ⟨rfl, HC1.out⟩
  | false =>
    go_enter Tryz.func134, Tryz.ntmps134
    go_wp2_with (first | (at_lookup; refine wpList_lookup_v rfl _ _ 139 rfl keyNm Tryz.underlying139 (zeroB _) HM.out rfl nm rfl _ HV.out ?_) | (go_at_call 57; refine HCF.out.mono ?_; rintro e w' ⟨rfl, hc⟩))
    go_ret
    exact ⟨rfl, HC1.out.trans hc (fun _ _ h => h)⟩
end Go.Proofs.YthglfmacjoecgaaGreatDoor
namespace Go.Proofs.YthglfmacjoecgaaGreatDoor
open Go.RowKit

abbrev natV : Nat → Value := fun n => .int .i64 (n : Int)
def IntsPost (w : World) (l : List Nat) (e : Ending) (w' : World) : Prop := Chg (fun _ => False) w w' ∧ ∃ v, e = .returned v ∧ w'.ownsRow 0 3 1 v l.length (l.map natV)
theorem elInt : ElT Tryz.prog 75 3 1 8 := .mk' (z := .int .i64 0) Tryz.underlying75 (by kernel_rfl) rfl (by decide) rfl
def lenOf : Value → Nat
  | .slice _ n _ => n
  | _ => 0
theorem owns_lenOf {w : World} {base : Nat} {e : TypeId} {size : Nat} {v : Value} {n : Nat} {xs : List Value} (h : w.ownsRow base e size v n xs) : lenOf v = n := by
  rcases h.2 with ⟨rfl, rfl⟩ | ⟨g, cap, cur, rfl, _⟩ <;> rfl
theorem owns_form {w : World} {base : Nat} {e : TypeId} {size : Nat} {v : Value} {n : Nat} {xs : List Value} (h : w.ownsRow base e size v n xs) : ∃ o cap, v = .slice o n cap := by
  rcases h.2 with ⟨rfl, rfl⟩ | ⟨g, cap, cur, rfl, _⟩
  · exact ⟨_, _, rfl⟩
  · exact ⟨_, _, rfl⟩
theorem stepR_place {g : GrR} (l : List Nat) : placeI (readyB g l) g.acts = match stepR g l with
    | some i => (i : Int)
    | none => -1 := rfl

set_option maxRecDepth 100000 in
set_option maxHeartbeats 4000000 in
theorem order_any (g : GrR) (hw : Wov g) (w : World) (b : Nat) (hb : IsWeb w b g) :
    Calls Tryz.prog 114 #[.pointer (some ⟨b, 0, none⟩)] w (IntsPost w (orderR g)) := by
  have hmm := @run_makeMap Tryz.prog
  have hn12 := hw.acts12
  have HB := hid hb
  have HW := hid hw
  clear hb hw
  go_enter Tryz.func114, Tryz.ntmps114
  go_wp2_with fail
  obtain ⟨W1, hW1⟩ : ∃ W1, W1 = w.alloc (.cells #[.pointer (some ⟨b, 0, none⟩)] 136) := ⟨_, rfl⟩
  obtain ⟨W2, hW2⟩ : ∃ W2, W2 = W1.alloc (.map #[] 0) := ⟨_, rfl⟩
  obtain ⟨W3, hW3⟩ : ∃ W3, W3 = W2.alloc (.cells #[.map (some (w.heap.size + 1))] 139) := ⟨_, rfl⟩
  obtain ⟨W4, hW4⟩ : ∃ W4, W4 = W3.alloc (.cells #[.func (.func 133) #[] #[.pointer (some ⟨w.heap.size, 0, none⟩), .pointer (some ⟨w.heap.size + 1 + 1, 0, none⟩)]] 116) := ⟨_, rfl⟩
  have z1 : W1.heap.size = w.heap.size + 1 := by rw [hW1]; simp
  have z2 : W2.heap.size = w.heap.size + 1 + 1 := by rw [hW2]; simp [z1]
  have z3 : W3.heap.size = w.heap.size + 1 + 1 + 1 := by rw [hW3]; simp [z2]
  have z4 : W4.heap.size = w.heap.size + 1 + 1 + 1 + 1 := by rw [hW4]; simp [z3]
  have hch4 : Chg (fun _ => False) w W4 := by rw [hW4, hW3, hW2, hW1]; exact ((((Chg.refl _ w).alloc _).alloc _).alloc _).alloc _
  have p4 : W4.cell? ⟨w.heap.size, 0, none⟩ = some (.pointer (some ⟨b, 0, none⟩)) := by
    rw [hW4, hW3, hW2]
    exact cell_alloc' (cell_alloc' (cell_alloc' (by rw [hW1]; exact cell_of (heap_alloc_new' w _) 0) _) _) _
  have m4 : MapL W4 (w.heap.size + 1) nmV boolV (doneL g []) := by
    have h : MapL W2 W1.heap.size nmV boolV (doneL g []) := hW2 ▸ MapL.fresh W1
    rw [z1] at h
    rw [hW4, hW3]
    exact (h.al _).al _
  have d4 : W4.cell? ⟨w.heap.size + 1 + 1, 0, none⟩ = some (.map (some (w.heap.size + 1))) := by
    rw [hW4, hW3, ← z2]
    exact cell_alloc' (cell_of (heap_alloc_new' W2 _) 0) _
  have f4 : W4.cell? ⟨w.heap.size + 1 + 1 + 1, 0, none⟩ = some (.func (.func 133) #[] #[.pointer (some ⟨w.heap.size, 0, none⟩), .pointer (some ⟨w.heap.size + 1 + 1, 0, none⟩)]) := by
    rw [hW4, ← z3]
    exact cell_of (heap_alloc_new' W3 _) 0
  rw [← hW1, ← hW2, ← hW3, ← hW4]
  obtain ⟨bp, hbp⟩ : ∃ bp, bp = w.heap.size := ⟨_, rfl⟩
  obtain ⟨rd, hrd⟩ : ∃ rd, rd = w.heap.size + 1 := ⟨_, rfl⟩
  obtain ⟨bd, hbd⟩ : ∃ bd, bd = w.heap.size + 1 + 1 := ⟨_, rfl⟩
  obtain ⟨bf, hbf⟩ : ∃ bf, bf = w.heap.size + 1 + 1 + 1 := ⟨_, rfl⟩
  rw [← hbf, ← hbd, ← hrd, ← hbp]
  rw [← hbp] at p4
  rw [← hrd] at m4
  rw [← hbd, ← hrd] at d4
  rw [← hbf, ← hbd, ← hbp] at f4
  clear hW1 hW2 hW3 hW4 W1 W2 W3 z1 z2 z3 hmm
  have hfar : ∀ W, Chg (fun k => k = rd) W4 W → Chg (fun _ => False) w W := fun W hW => hch4.trans hW (fun i hi h => by omega)
  have hcp : ∀ W, Chg (fun k => k = rd) W4 W → W.cell? ⟨bp, 0, none⟩ = some (.pointer (some ⟨b, 0, none⟩)) := fun W hW => hW.cell p4 (by show ¬ bp = rd; omega)
  have hcd : ∀ W, Chg (fun k => k = rd) W4 W → W.cell? ⟨bd, 0, none⟩ = some (.map (some rd)) := fun W hW => hW.cell d4 (by show ¬ bd = rd; omega)
  have hcf : ∀ W, Chg (fun k => k = rd) W4 W → W.cell? ⟨bf, 0, none⟩ = some (.func (.func 133) #[] #[.pointer (some ⟨bp, 0, none⟩), .pointer (some ⟨bd, 0, none⟩)]) := fun W hW => hW.cell f4 (by show ¬ bf = rd; omega)
  obtain ⟨sv, av, iv, r, lm, hb⟩ := HB.out
  have hca : ∀ W, Chg (fun k => k = rd) W4 W → W.cell? ⟨b, 1, none⟩ = some av := fun W hW => cell_of ((hfar W hW).obj hb.blk (fun h => h)) 1
  have HF := hid hfar
  have HCP := hid hcp
  have HCD := hid hcd
  have HCF := hid hcf
  have HCA := hid hca
  have HBA := hid hb
  have HM4 := hid m4
  have HZ : Hid (rd < W4.heap.size) := by show rd < W4.heap.size; omega
  clear hfar hcp hcd hcf hca hb m4 p4 d4 f4 hch4 z4 hbp hrd hbd hbf
  go_loopw [2] (fun v wr => ∃ (l : List Nat) (x : Value), x = v ∧ Ordd g l ∧ orderR g = orderGo g (g.acts.length - l.length) l ∧ wr.ownsRow 0 3 1 v l.length (l.map natV) ∧ (∀ k, v.ownBlock = some k → W4.heap.size ≤ k) ∧ MapL wr rd nmV boolV (doneL g l) ∧ Chg (fun k => k = rd) W4 wr) (fun v _ => g.acts.length - lenOf v)
  case atStart => exact ⟨[], _, rfl, Ordd.nil g, rfl, World.ownsRow_nil _ _ _ _, (fun k h => by cases h), HM4.out, Chg.refl _ _⟩
  case round =>
    obtain ⟨l, v, hv, ho, hgo, hown, hbl, hm, hch⟩ := hrel
    subst hv
    have HO := hid ho
    have HGO := hid hgo
    have HOWN := hid hown
    have HBL := hid hbl
    have HM := hid hm
    have HC := hid hch
    clear ho hgo hown hbl hm hch
    have q1 := HCP.out _ HC.out
    have q2 := HCA.out _ HC.out
    have hix := ixa_ready (some ⟨bd, 0, none⟩) (some ⟨bf, 0, none⟩) (readyB g l) av g.acts iv wr (HBA.out.acts.chg (HF.out _ HC.out) (fun _ _ h => h)) (fun k hk W hW =>
      ready_any g HW.out l g.acts[k] (iv k) (List.getElem_mem hk) W bp bd b rd bf (hW.cell q1 (fun h => h)) ((HB.out.chg (HF.out _ HC.out) (fun _ _ h => h)).chg hW (fun _ _ h => h)) (hW.cell (HCD.out _ HC.out) (fun h => h)) (HM.out.chg hW (fun h => h)) (hW.cell (HCF.out _ HC.out) (fun h => h))
        (by
          have := (HBA.out.acts.ins k hk)
          rw [getD_of_lt _ _ _ hk] at this
          exact (this.chg (HF.out _ HC.out) (fun _ _ h => h)).chg hW (fun _ _ h => h)))
    rw [stepR_place] at hix
    cases hs : stepR g l with
    | none =>
      rw [hs] at hix
      have HE : Hid (orderR g = l) := by
        show orderR g = l
        rw [HGO.out]
        cases g.acts.length - l.length with
        | zero => rfl
        | succ n => unfold orderGo; rw [hs]
      clear hs
      go_wp2_with (go_at_call 135; refine hix.mono ?_; rintro e w5 ⟨rfl, hc5⟩)
      go_ret
      refine ⟨(HF.out _ HC.out).trans hc5 (fun _ _ h => h), _, rfl, ?_⟩
      rw [HE.out]
      exact hc5.owns HOWN.out (fun _ _ h => h)
    | some i =>
      rw [hs] at hix
      have hix2 : Calls Tryz.prog 135 #[av, .func (.func 134) #[] #[.pointer (some ⟨bd, 0, none⟩), .pointer (some ⟨bf, 0, none⟩)]] wr (Rets (.int .i64 (i : Int)) (Chg (fun _ => False) wr)) := hix
      have hi := (stepR_some hs).1
      have ho2 := HO.out.snoc hs
      have hle := ho2.le
      simp at hle
      have HO2 := hid ho2
      have HGO2 : Hid (orderR g = orderGo g (g.acts.length - (l ++ [i]).length) (l ++ [i])) := by
        show orderR g = _
        rw [HGO.out]
        obtain ⟨n, hn⟩ : ∃ n, g.acts.length - l.length = n + 1 := ⟨g.acts.length - l.length - 1, by omega⟩
        rw [hn]
        have : g.acts.length - (l ++ [i]).length = n := by simp; omega
        rw [this]
        conv => lhs; unfold orderGo
        rw [hs]
      have hi0 : ¬ ((i : Int) < 0) := by omega
      clear hs hix ho2
      go_wp2_with (first | (go_at_call 135; refine hix2.mono ?_; rintro e w5 ⟨rfl, hc5⟩; have hown5 := hc5.owns HOWN.out (fun _ _ h => h)) | (refine wpList_append_new rfl _ _ 75 rfl elInt hown5 rfl _ 1 1 rfl rfl rfl (by unfold maxLen; omega) (by omega) (by decide) ?_; intro g6 cap6 w6 hown6 hch6 hg6))
      have hC6 : Chg (fun k => k = rd) W4 w6 := ((HC.out.trans hc5 (fun _ _ h => h.elim)).trans hch6 (fun j hj h => absurd (HBL.out j h) (by omega)))
      have hC56 : Chg (fun k => v.ownBlock = some k) wr w6 := (hc5.mono (fun _ _ h => h.elim)).trans hch6 (fun _ _ h => h)
      have hM6 : MapL w6 rd nmV boolV (doneL g l) := HM.out.chg hC56 (fun h => by have := HBL.out _ h; have := HZ.out; omega)
      obtain ⟨bb, oo, hiy, hlt, e0, _, _, _, _, _⟩ := (HBA.out.acts.chg (HF.out _ hC6) (fun _ _ h => h)).at i hi
      have y1 := HCP.out _ hC6
      have y2 := HCA.out _ hC6
      have y3 := HCD.out _ hC6
      have HC6 := hid hC6
      have HM6 := hid hM6
      have HNM := hid (nameAt_lt g i hi)
      have HOW6 := hid hown6
      have HG6 : Hid (W4.heap.size ≤ g6) := by
        show W4.heap.size ≤ g6
        rcases hg6 with h | h
        · exact HBL.out _ h
        · have h1 := HC.out.size; have h2 := hc5.size; omega
      clear hC6 hC56 hM6 hown6 hch6 hg6 hown5 hc5 hix2
      generalize hnm : g.acts[i].name = nm at *
      have HN2 := hid hnm
      clear hnm
      go_still_tail 11, (by kernel_rfl)
      change wpList _ _ _ _ _ w6.drew
      refine wpList_mapUpdate_l rfl _ _ _ 139 rfl keyNm Tryz.underlying139 (show MapL w6.drew rd nmV boolV _ from HM6.out) rfl nm rfl true rfl ?_
      intro w7 hm7 hc7
      go_frame
      go_wp2_with fail
      go_roundw
      case rel =>
        refine ⟨l ++ [i], _, rfl, HO2.out, HGO2.out, ?_, ?_, ?_, HC6.out.drew.trans hc7 (fun _ _ h => h)⟩
        · have h1 := hc7.owns (show w6.drew.ownsRow _ _ _ _ _ _ from HOW6.out) (fun k hk => by
            simp [Value.ownBlock] at hk; have := HG6.out; have := HZ.out; omega)
          simpa using h1
        · intro k hk
          simp [Value.ownBlock] at hk
          have := HG6.out
          omega
        · rw [doneL_snoc, HNM.out]
          exact hm7
      case measure =>
        have h1 := owns_lenOf HOWN.out
        simp [lenOf] at h1 ⊢
        omega

def CheckedPost (w : World) (g : GrR) (e : Ending) (w' : World) : Prop :=
  Chg (fun _ => False) w w' ∧ ((checkR g = 0 ∧ ∃ b, e = .returned (.tuple #[.pointer (some ⟨b, 0, none⟩), .int .i64 0]) ∧ IsWeb w' b g) ∨ (checkR g ≠ 0 ∧ e = .returned (.tuple #[.pointer none, .int .i64 (checkR g)])))
set_option maxRecDepth 100000 in
set_option maxHeartbeats 4000000 in
theorem checked_any (g : GrR) (v : Value) (w : World) (hg : GrAt w v g) : Calls Tryz.prog 73 #[v] w (CheckedPost w g) := by
  obtain ⟨oa, c, ob, d, iv, rfl, hs, ha⟩ := hg.form
  have hC1 : Chg (fun _ => False) w (w.alloc (.cells #[.slice oa g.srcs.length c, .slice ob g.acts.length d] 25)) := (Chg.refl _ w).alloc _
  have k1 := heap_alloc_new' w (.cells #[.slice oa g.srcs.length c, .slice ob g.acts.length d] 25)
  have hwv := woven_any g _ _ (hg.chg hC1 (fun _ _ h => h))
  have hmx := ha.rows.le
  unfold maxLen at hmx
  have HC1 := hid hC1
  have HK := hid k1
  clear hs ha hg hC1 k1
  unfold WovenPost at hwv
  by_cases hwz : wovenR g = 0
  · have HW := hid (wovenR_zero.1 hwz)
    have HWZ := hid hwz
    have HR : Hid (checkR g = if (orderR g).length ≠ g.acts.length then 23 else 0) := by show checkR g = _; unfold checkR; rw [if_neg (by simp [hwz])]
    have hwv2 : Calls Tryz.prog 113 #[.agg #[.slice oa g.srcs.length c, .slice ob g.acts.length d]] (w.alloc (.cells #[.slice oa g.srcs.length c, .slice ob g.acts.length d] 25)) (fun e w' => ∃ b, e = .returned (.tuple #[.pointer (some ⟨b, 0, none⟩), .int .i64 0]) ∧ Chg (fun _ => False) (w.alloc (.cells #[.slice oa g.srcs.length c, .slice ob g.acts.length d] 25)) w' ∧ IsWeb w' b g) :=
      hwv.mono (fun e w' ⟨h1, h2⟩ => by
        rcases h2 with ⟨_, b, h3, h4⟩ | ⟨h3, _⟩
        · exact ⟨b, h3, h1, h4⟩
        · exact absurd hwz h3)
    have HLN := hid (orderR_ordd g).le
    clear hwv hwz
    by_cases hfull : (orderR g).length = g.acts.length
    · go_enter Tryz.func73, Tryz.ntmps73
      go_wp2_with (go_at_call 113; refine hwv2.mono ?_; rintro e w2 ⟨b, rfl, hc2, hb2⟩; have HC2 := hid hc2; have HB2 := hid hb2; clear hc2 hb2)
      have k2 := cell_of (HC2.out.obj HK.out (fun h => h)) 1
      simp at k2
      have hord := order_any g HW.out w2.drew b (HB2.out.chg ((Chg.refl (fun _ => False) w2).drew) (fun _ _ h => h))
      have k2d : w2.drew.cell? ⟨w.heap.size, 1, none⟩ = some (.slice ob g.acts.length d) := k2
      unfold IntsPost at hord
      rw [hfull] at hord
      clear hwv2
      go_region_held3 (fun W => W.cell? ⟨w.heap.size, 1, none⟩ = some (.slice ob g.acts.length d)) (first | exact k2 | exact k2d | exact hc3.cell k2d (fun h => h) | go_keep) (first | (go_at_call 114; refine hord.mono ?_; rintro e w3 ⟨hc3, v3, rfl, hown3⟩; obtain ⟨o3, cap3, rfl⟩ := owns_form hown3; have HC3 := hid hc3))
      go_wp2_with fail
      go_ret2
      have hz : checkR g = 0 := by rw [HR.out, if_neg (by simp [hfull])]
      exact ⟨(HC1.out.trans HC2.out (fun _ _ h => h)).drew.trans HC3.out (fun _ _ h => h), .inl ⟨hz, b, rfl, HB2.out.chg (((Chg.refl (fun _ => False) w2).drew).trans HC3.out (fun _ _ h => h)) (fun _ _ h => h)⟩⟩
    · have hne : ¬ ((orderR g).length : Int) = (g.acts.length : Int) := by omega
      go_enter Tryz.func73, Tryz.ntmps73
      go_wp2_with (go_at_call 113; refine hwv2.mono ?_; rintro e w2 ⟨b, rfl, hc2, hb2⟩; have HC2 := hid hc2; have HB2 := hid hb2; clear hc2 hb2)
      have k2 := cell_of (HC2.out.obj HK.out (fun h => h)) 1
      simp at k2
      have hord := order_any g HW.out w2.drew b (HB2.out.chg ((Chg.refl (fun _ => False) w2).drew) (fun _ _ h => h))
      have k2d : w2.drew.cell? ⟨w.heap.size, 1, none⟩ = some (.slice ob g.acts.length d) := k2
      unfold IntsPost at hord
      have hz : checkR g = 23 := by rw [HR.out, if_pos hfull]
      have HZ := hid hz
      clear hwv2 hz hfull
      generalize orderR g = ol at *
      generalize ol.length = on at *
      go_region_held3 (fun W => W.cell? ⟨w.heap.size, 1, none⟩ = some (.slice ob g.acts.length d)) (first | exact k2 | exact k2d | exact hc3.cell k2d (fun h => h) | go_keep) (first | (go_at_call 114; refine hord.mono ?_; rintro e w3 ⟨hc3, v3, rfl, hown3⟩; obtain ⟨o3, cap3, rfl⟩ := owns_form hown3; have HC3 := hid hc3))
      go_wp2_with fail
      go_ret2
      exact ⟨(HC1.out.trans HC2.out (fun _ _ h => h)).drew.trans HC3.out (fun _ _ h => h), .inr ⟨by rw [HZ.out]; decide, by rw [HZ.out]; rfl⟩⟩
  · have hwv2 : Calls Tryz.prog 113 #[.agg #[.slice oa g.srcs.length c, .slice ob g.acts.length d]] (w.alloc (.cells #[.slice oa g.srcs.length c, .slice ob g.acts.length d] 25)) (Rets (.tuple #[.pointer none, .int .i64 (wovenR g)]) (Chg (fun _ => False) (w.alloc (.cells #[.slice oa g.srcs.length c, .slice ob g.acts.length d] 25)))) :=
      hwv.mono (fun e w' ⟨h1, h2⟩ => by
        rcases h2 with ⟨h3, _⟩ | ⟨_, h3⟩
        · exact absurd h3 hwz
        · exact ⟨h3, h1⟩)
    have HR : Hid (checkR g = wovenR g) := by show checkR g = _; unfold checkR; rw [if_pos hwz]
    have HN := hid hwz
    have hne : ((wovenR g : Int) == 0) = false := by simp; omega
    clear hwv hwz
    generalize wovenR g = n at *
    go_enter Tryz.func73, Tryz.ntmps73
    go_wp2_with (go_at_call 113; refine hwv2.mono ?_; rintro e w2 ⟨rfl, hc2⟩; have HC2 := hid hc2; clear hc2)
    all_goals go_region
    all_goals go_wp2_with fail
    all_goals go_ret2
    all_goals exact ⟨(HC1.out.trans HC2.out (fun _ _ h => h)).drew, .inr ⟨by rw [HR.out]; exact HN.out, by rw [HR.out]; rfl⟩⟩
end Go.Proofs.YthglfmacjoecgaaGreatDoor
namespace Go.Proofs.YthglfmacjoecgaaGreatDoor
open Go.RowKit

/-- Order's answer. -/
def ordR (g : GrR) : List Nat := if checkR g = 0 then orderR g else []
set_option maxRecDepth 100000 in
set_option maxHeartbeats 1000000 in
theorem tcheck_any (g : GrR) (v : Value) (w : World) (hg : GrAt w v g) : Calls Tryz.prog 88 #[v] w (Rets (.int .i64 (checkR g)) (Chg (fun _ => False) w)) := by
  obtain ⟨oa, c, ob, d, iv, rfl, hs, ha⟩ := hg.form
  have hC1 : Chg (fun _ => False) w (w.alloc (.cells #[.slice oa g.srcs.length c, .slice ob g.acts.length d] 25)) := (Chg.refl _ w).alloc _
  have hwv : Calls Tryz.prog 73 #[.agg #[.slice oa g.srcs.length c, .slice ob g.acts.length d]] (w.alloc (.cells #[.slice oa g.srcs.length c, .slice ob g.acts.length d] 25)) (fun e w' => ∃ p, e = .returned (.tuple #[.pointer p, .int .i64 (checkR g)]) ∧ Chg (fun _ => False) (w.alloc (.cells #[.slice oa g.srcs.length c, .slice ob g.acts.length d] 25)) w') :=
    (checked_any g _ _ (hg.chg hC1 (fun _ _ h => h))).mono (fun e w' ⟨h1, h2⟩ => by
      rcases h2 with ⟨h0, b, h3, _⟩ | ⟨_, h3⟩
      · exact ⟨some ⟨b, 0, none⟩, by rw [h3, h0]; rfl, h1⟩
      · exact ⟨none, h3, h1⟩)
  clear hs ha hg
  generalize checkR g = n at *
  go_enter Tryz.func88, Tryz.ntmps88
  go_wp2_with (go_at_call 73; refine hwv.mono ?_; rintro e w2 ⟨p, rfl, hc2⟩)
  go_ret
  exact ⟨rfl, hC1.trans hc2 (fun _ _ h => h)⟩
set_option maxRecDepth 100000 in
set_option maxHeartbeats 1000000 in
theorem torder_any (g : GrR) (v : Value) (w : World) (hg : GrAt w v g) : Calls Tryz.prog 78 #[v] w (IntsPost w (ordR g)) := by
  obtain ⟨oa, c, ob, d, iv, rfl, hs, ha⟩ := hg.form
  have hC1 : Chg (fun _ => False) w (w.alloc (.cells #[.slice oa g.srcs.length c, .slice ob g.acts.length d] 25)) := (Chg.refl _ w).alloc _
  have hwv := checked_any g _ _ (hg.chg hC1 (fun _ _ h => h))
  unfold CheckedPost at hwv
  clear hs ha hg
  by_cases hz : checkR g = 0
  · have hw := (can_iff.1 hz).w
    have hr : ordR g = orderR g := by unfold ordR; rw [if_pos hz]
    have hwv2 : Calls Tryz.prog 73 #[.agg #[.slice oa g.srcs.length c, .slice ob g.acts.length d]] (w.alloc (.cells #[.slice oa g.srcs.length c, .slice ob g.acts.length d] 25)) (fun e w' => ∃ b, e = .returned (.tuple #[.pointer (some ⟨b, 0, none⟩), .int .i64 0]) ∧ Chg (fun _ => False) (w.alloc (.cells #[.slice oa g.srcs.length c, .slice ob g.acts.length d] 25)) w' ∧ IsWeb w' b g) :=
      hwv.mono (fun e w' ⟨h1, h2⟩ => by
        rcases h2 with ⟨_, b, h3, h4⟩ | ⟨h3, _⟩
        · exact ⟨b, h3, h1, h4⟩
        · exact absurd hz h3)
    have HW := hid hw
    rw [hr]
    clear hz hr hwv hw
    go_enter Tryz.func78, Tryz.ntmps78
    go_wp2_with (first | (go_at_call 73; refine hwv2.mono ?_; rintro e w2 ⟨b, rfl, hc2, hb2⟩; have HB2 := hid hb2; clear hb2) | (go_at_call 114; refine (order_any g HW.out _ _ HB2.out).mono ?_; rintro e w3 ⟨hc3, v3, rfl, hown3⟩))
    go_ret
    exact ⟨(hC1.trans hc2 (fun _ _ h => h)).trans hc3 (fun _ _ h => h), v3, rfl, hown3⟩
  · have hr : ordR g = [] := by unfold ordR; rw [if_neg hz]
    have hwv2 : Calls Tryz.prog 73 #[.agg #[.slice oa g.srcs.length c, .slice ob g.acts.length d]] (w.alloc (.cells #[.slice oa g.srcs.length c, .slice ob g.acts.length d] 25)) (Rets (.tuple #[.pointer none, .int .i64 (checkR g)]) (Chg (fun _ => False) (w.alloc (.cells #[.slice oa g.srcs.length c, .slice ob g.acts.length d] 25)))) :=
      hwv.mono (fun e w' ⟨h1, h2⟩ => by
        rcases h2 with ⟨h3, _⟩ | ⟨_, h3⟩
        · exact absurd h3 hz
        · exact ⟨h3, h1⟩)
    have hne : ((checkR g : Int) == 0) = false := by simp; omega
    have hne2 : ¬ (checkR g : Int) = 0 := by omega
    rw [hr]
    clear hz hr hwv
    generalize checkR g = n at *
    go_enter Tryz.func78, Tryz.ntmps78
    go_wp2_with (go_at_call 73; refine hwv2.mono ?_; rintro e w2 ⟨rfl, hc2⟩)
    go_ret
    exact ⟨hC1.trans hc2 (fun _ _ h => h), _, rfl, World.ownsRow_nil _ _ _ _⟩
end Go.Proofs.YthglfmacjoecgaaGreatDoor
