/- Texts of the proof, one behind the other: slices.IndexFunc, slices.ContainsFunc at the closures of trellis, their answers given; What an action needs, in plain words: by rounds, sorted; that these are all on which it stands; rings. No program in sight. -/
import Derived.Test.YthglfmacjoecgaaGreatDoorMg09
import Derived.Test.YthglfmacjoecgaaGreatDoorMg21
namespace Go.Proofs.YthglfmacjoecgaaGreatDoor
open Go.RowKit

/-- The place of the first one; -1: there is none. -/
def placeI {α : Type} (P : α → Bool) (l : List α) : Int := match l.findIdx? P with
  | some i => (i : Int)
  | none => -1
theorem placeI_none {α : Type} {P : α → Bool} {l : List α} (h : ∀ x ∈ l, P x = false) : placeI P l = -1 := by
  have : l.findIdx? P = none := by rw [List.findIdx?_eq_none_iff]; intro x hx; simp [h x hx]
  unfold placeI; rw [this]
theorem placeI_at {α : Type} {P : α → Bool} {l : List α} (k : Nat) (hk : k < l.length) (h1 : P l[k] = true) (h2 : ∀ j (h : j < l.length), j < k → P l[j] = false) : placeI P l = k := by
  have : l.findIdx? P = some k := by
    rw [List.findIdx?_eq_some_iff_getElem]
    exact ⟨hk, h1, fun j hj => by simp [h2 j (by omega) hj]⟩
  unfold placeI; rw [this]
theorem placeI_neg {α : Type} {P : α → Bool} {l : List α} : placeI P l < 0 ↔ l.any P = false := by
  unfold placeI
  cases h : l.findIdx? P with
  | none =>
    rw [List.findIdx?_eq_none_iff] at h
    have : l.any P = false := by rw [List.any_eq_false]; intro x hx; simp [h x hx]
    simp [this]
  | some i =>
    rw [List.findIdx?_eq_some_iff_getElem] at h
    obtain ⟨hi, hp, _⟩ := h
    have : l.any P = true := by rw [List.any_eq_true]; exact ⟨_, List.getElem_mem hi, hp⟩
    simp [this]

set_option maxRecDepth 100000 in
set_option maxHeartbeats 1000000 in
theorem ixs_waits (p q : Option Addr) (Pn : Nm → Bool) (v : Value) (ss : List Nm) (w : World) (hin : NamesAt w v ss)
    (hf : ∀ s ∈ ss, ∀ W, Chg (fun _ => False) w W → Calls Tryz.prog 133 #[.string (bs s), .pointer p, .pointer q] W (Rets (.bool (Pn s)) (Chg (fun _ => False) W))) :
    Calls Tryz.prog 92 #[v, .func (.func 133) #[] #[.pointer p, .pointer q]] w (Rets (.int .i64 (placeI Pn ss)) (Chg (fun _ => False) w)) := by
  have hlenI := hin.len
  have hmx := hin.le
  unfold maxLen at hmx
  have H := hid hin
  have HF := hid hf
  clear hin hf
  go_enter Tryz.func92, Tryz.ntmps92
  go_wp2_with fail
  go_loopw [8] (fun i wr => ∃ k : Nat, k ≤ ss.length ∧ i = .int .i64 k ∧ Chg (fun _ => False) w wr ∧ ∀ j (h : j < ss.length), j < k → Pn ss[j] = false) (fun i _ => ss.length - (intOf i).toNat)
  case atStart => exact ⟨0, Nat.zero_le _, rfl, Chg.refl _ _, fun j _ h => absurd h (Nat.not_lt_zero _)⟩
  case round =>
    obtain ⟨k, hk, rfl, hch, hall⟩ := hrel
    have HA := hid hall
    have HC := hid hch
    have S2 := H.out.chg hch (fun _ _ h => h)
    clear hall hch
    by_cases hkn : k < ss.length
    · have hkn' : (k : Int) < ss.length := by omega
      obtain ⟨ad, hix, hadc, hadb⟩ := S2.ix k hkn
      have hn := HF.out ss[k] (List.getElem_mem hkn)
      clear S2
      cases hw : Pn ss[k] with
      | false =>
        rw [hw] at hn
        have HW := hid hw
        clear hw
        generalize bs ss[k] = nm at *
        go_wp2_with (go_at_call 133; refine (hn _ HC.out).mono ?_; rintro e w' ⟨rfl, hc⟩)
        go_roundw
        case rel =>
          refine ⟨k + 1, by omega, by go_num, HC.out.trans hc (fun _ _ h => h), fun j hj hjk => ?_⟩
          by_cases e : j = k
          · subst e; exact HW.out
          · exact HA.out j hj (by omega)
        case measure => simp [intOf]; omega
      | true =>
        have hp : placeI Pn ss = k := placeI_at k hkn hw HA.out
        rw [hw] at hn
        have HP := hid hp
        clear hw hp
        generalize bs ss[k] = nm at *
        go_wp2_with (go_at_call 133; refine (hn _ HC.out).mono ?_; rintro e w' ⟨rfl, hc⟩)
        go_ret
        exact ⟨congrArg (fun z => Ending.returned (.int .i64 z)) HP.out.symm, HC.out.trans hc (fun _ _ h => h)⟩
    · obtain rfl : k = ss.length := by omega
      have hp : placeI Pn ss = -1 := placeI_none (fun s hs => by
        obtain ⟨j, hj, rfl⟩ := List.mem_iff_getElem.1 hs
        exact HA.out j hj hj)
      have HP := hid hp
      clear hp S2
      go_wp2_with fail
      go_ret
      exact ⟨congrArg (fun z => Ending.returned (.int .i64 z)) HP.out.symm, HC.out⟩
theorem cfs_waits (p q : Option Addr) (Pn : Nm → Bool) (v : Value) (ss : List Nm) (w : World) (hin : NamesAt w v ss)
    (hf : ∀ s ∈ ss, ∀ W, Chg (fun _ => False) w W → Calls Tryz.prog 133 #[.string (bs s), .pointer p, .pointer q] W (Rets (.bool (Pn s)) (Chg (fun _ => False) W))) :
    Calls Tryz.prog 57 #[v, .func (.func 133) #[] #[.pointer p, .pointer q]] w (Rets (.bool (ss.any Pn)) (Chg (fun _ => False) w)) := by
  have hix := ixs_waits p q Pn v ss w hin hf
  have hneg := placeI_neg (P := Pn) (l := ss)
  clear hin hf
  generalize placeI Pn ss = r at *
  have HN := hid hneg
  clear hneg
  go_enter Tryz.func57, Tryz.ntmps57
  go_wp2_with (go_at_call 92; refine hix.mono ?_; rintro e w' ⟨rfl, hc⟩)
  go_ret
  refine ⟨?_, hc⟩
  have h1 := HN.out
  by_cases h : r < 0
  · rw [h1.1 h]; simp [h]
  · have h2 : ss.any Pn = true := by
      cases h3 : ss.any Pn with
      | true => rfl
      | false => exact absurd (h1.2 h3) h
    rw [h2]; simp; omega
set_option maxRecDepth 100000 in
set_option maxHeartbeats 1000000 in
theorem ixs_hit (p q : Option Addr) (Pn : Nm → Bool) (v : Value) (ss : List Nm) (w : World) (hin : NamesAt w v ss)
    (hf : ∀ s ∈ ss, ∀ W, Chg (fun _ => False) w W → Calls Tryz.prog 75 #[.string (bs s), .pointer p, .pointer q] W (Rets (.bool (Pn s)) (Chg (fun _ => False) W))) :
    Calls Tryz.prog 92 #[v, .func (.func 75) #[] #[.pointer p, .pointer q]] w (Rets (.int .i64 (placeI Pn ss)) (Chg (fun _ => False) w)) := by
  have hlenI := hin.len
  have hmx := hin.le
  unfold maxLen at hmx
  have H := hid hin
  have HF := hid hf
  clear hin hf
  go_enter Tryz.func92, Tryz.ntmps92
  go_wp2_with fail
  go_loopw [8] (fun i wr => ∃ k : Nat, k ≤ ss.length ∧ i = .int .i64 k ∧ Chg (fun _ => False) w wr ∧ ∀ j (h : j < ss.length), j < k → Pn ss[j] = false) (fun i _ => ss.length - (intOf i).toNat)
  case atStart => exact ⟨0, Nat.zero_le _, rfl, Chg.refl _ _, fun j _ h => absurd h (Nat.not_lt_zero _)⟩
  case round =>
    obtain ⟨k, hk, rfl, hch, hall⟩ := hrel
    have HA := hid hall
    have HC := hid hch
    have S2 := H.out.chg hch (fun _ _ h => h)
    clear hall hch
    by_cases hkn : k < ss.length
    · have hkn' : (k : Int) < ss.length := by omega
      obtain ⟨ad, hix, hadc, hadb⟩ := S2.ix k hkn
      have hn := HF.out ss[k] (List.getElem_mem hkn)
      clear S2
      cases hw : Pn ss[k] with
      | false =>
        rw [hw] at hn
        have HW := hid hw
        clear hw
        generalize bs ss[k] = nm at *
        go_wp2_with (go_at_call 75; refine (hn _ HC.out).mono ?_; rintro e w' ⟨rfl, hc⟩)
        go_roundw
        case rel =>
          refine ⟨k + 1, by omega, by go_num, HC.out.trans hc (fun _ _ h => h), fun j hj hjk => ?_⟩
          by_cases e : j = k
          · subst e; exact HW.out
          · exact HA.out j hj (by omega)
        case measure => simp [intOf]; omega
      | true =>
        have hp : placeI Pn ss = k := placeI_at k hkn hw HA.out
        rw [hw] at hn
        have HP := hid hp
        clear hw hp
        generalize bs ss[k] = nm at *
        go_wp2_with (go_at_call 75; refine (hn _ HC.out).mono ?_; rintro e w' ⟨rfl, hc⟩)
        go_ret
        exact ⟨congrArg (fun z => Ending.returned (.int .i64 z)) HP.out.symm, HC.out.trans hc (fun _ _ h => h)⟩
    · obtain rfl : k = ss.length := by omega
      have hp : placeI Pn ss = -1 := placeI_none (fun s hs => by
        obtain ⟨j, hj, rfl⟩ := List.mem_iff_getElem.1 hs
        exact HA.out j hj hj)
      have HP := hid hp
      clear hp S2
      go_wp2_with fail
      go_ret
      exact ⟨congrArg (fun z => Ending.returned (.int .i64 z)) HP.out.symm, HC.out⟩
theorem cfs_hit (p q : Option Addr) (Pn : Nm → Bool) (v : Value) (ss : List Nm) (w : World) (hin : NamesAt w v ss)
    (hf : ∀ s ∈ ss, ∀ W, Chg (fun _ => False) w W → Calls Tryz.prog 75 #[.string (bs s), .pointer p, .pointer q] W (Rets (.bool (Pn s)) (Chg (fun _ => False) W))) :
    Calls Tryz.prog 57 #[v, .func (.func 75) #[] #[.pointer p, .pointer q]] w (Rets (.bool (ss.any Pn)) (Chg (fun _ => False) w)) := by
  have hix := ixs_hit p q Pn v ss w hin hf
  have hneg := placeI_neg (P := Pn) (l := ss)
  clear hin hf
  generalize placeI Pn ss = r at *
  have HN := hid hneg
  clear hneg
  go_enter Tryz.func57, Tryz.ntmps57
  go_wp2_with (go_at_call 92; refine hix.mono ?_; rintro e w' ⟨rfl, hc⟩)
  go_ret
  refine ⟨?_, hc⟩
  have h1 := HN.out
  by_cases h : r < 0
  · rw [h1.1 h]; simp [h]
  · have h2 : ss.any Pn = true := by
      cases h3 : ss.any Pn with
      | true => rfl
      | false => exact absurd (h1.2 h3) h
    rw [h2]; simp; omega
set_option maxRecDepth 100000 in
set_option maxHeartbeats 1000000 in
theorem ixa_ready (p q : Option Addr) (Pn : ActR → Bool) (v : Value) (xs : List ActR) (iv : Nat → Value) (w : World) (hin : ActsAt w v xs iv)
    (hf : ∀ k (h : k < xs.length), ∀ W, Chg (fun _ => False) w W → Calls Tryz.prog 134 #[actV xs[k] (iv k), .pointer p, .pointer q] W (Rets (.bool (Pn xs[k])) (Chg (fun _ => False) W))) :
    Calls Tryz.prog 135 #[v, .func (.func 134) #[] #[.pointer p, .pointer q]] w (Rets (.int .i64 (placeI Pn xs)) (Chg (fun _ => False) w)) := by
  have hlenI := hin.len
  have hmx := hin.rows.le
  unfold maxLen at hmx
  have H := hid hin
  have HF := hid hf
  clear hin hf
  go_enter Tryz.func135, Tryz.ntmps135
  go_wp2_with fail
  go_loopw [8] (fun i wr => ∃ k : Nat, k ≤ xs.length ∧ i = .int .i64 k ∧ Chg (fun _ => False) w wr ∧ ∀ j (h : j < xs.length), j < k → Pn xs[j] = false) (fun i _ => xs.length - (intOf i).toNat)
  case atStart => exact ⟨0, Nat.zero_le _, rfl, Chg.refl _ _, fun j _ h => absurd h (Nat.not_lt_zero _)⟩
  case round =>
    obtain ⟨k, hk, rfl, hch, hall⟩ := hrel
    have HA := hid hall
    have HC := hid hch
    have S2 := H.out.chg hch (fun _ _ h => h)
    clear hall hch
    by_cases hkn : k < xs.length
    · have hkn' : (k : Int) < xs.length := by omega
      obtain ⟨bb, oo, hix, hlt, e0, e1, e2, hns, hw1, hw2⟩ := S2.at k hkn
      have hn := HF.out k hkn
      unfold actV at hn
      clear S2 hns hw1 hw2
      cases hw : Pn xs[k] with
      | false =>
        rw [hw] at hn
        have HW := hid hw
        clear hw
        generalize bs xs[k].name = nm at *
        generalize bs xs[k].code = cd at *
        go_wp2_with (go_at_call 134; refine (hn _ HC.out).mono ?_; rintro e w' ⟨rfl, hc⟩)
        go_roundw
        case rel =>
          refine ⟨k + 1, by omega, by go_num, HC.out.trans hc (fun _ _ h => h), fun j hj hjk => ?_⟩
          by_cases e : j = k
          · subst e; exact HW.out
          · exact HA.out j hj (by omega)
        case measure => simp [intOf]; omega
      | true =>
        have hp : placeI Pn xs = k := placeI_at k hkn hw HA.out
        rw [hw] at hn
        have HP := hid hp
        clear hw hp
        generalize bs xs[k].name = nm at *
        generalize bs xs[k].code = cd at *
        go_wp2_with (go_at_call 134; refine (hn _ HC.out).mono ?_; rintro e w' ⟨rfl, hc⟩)
        go_ret
        exact ⟨congrArg (fun z => Ending.returned (.int .i64 z)) HP.out.symm, HC.out.trans hc (fun _ _ h => h)⟩
    · obtain rfl : k = xs.length := by omega
      have hp : placeI Pn xs = -1 := placeI_none (fun s hs => by
        obtain ⟨j, hj, rfl⟩ := List.mem_iff_getElem.1 hs
        exact HA.out j hj hj)
      have HP := hid hp
      clear hp S2
      go_wp2_with fail
      go_ret
      exact ⟨congrArg (fun z => Ending.returned (.int .i64 z)) HP.out.symm, HC.out⟩
end Go.Proofs.YthglfmacjoecgaaGreatDoor
namespace Go.Proofs.YthglfmacjoecgaaGreatDoor
open Go

def actIns (g : GrR) (s : Nm) : List Nm := match placeOf g s with
  | some i => insAt g i
  | none => []
/-- All on which an action stands. -/
inductive Needs (g : GrR) (i : Nat) : Nm → Prop
  | base {s : Nm} : s ∈ insAt g i → Needs g i s
  | step {t s : Nm} : Needs g i t → s ∈ actIns g t → Needs g i s
/-- .. over so many others. -/
inductive NeedsD (g : GrR) (i : Nat) : Nat → Nm → Prop
  | base {s : Nm} : s ∈ insAt g i → NeedsD g i 0 s
  | step {d : Nat} {t s : Nm} : NeedsD g i d t → s ∈ actIns g t → NeedsD g i (d + 1) s
theorem Needs.deep {g : GrR} {i : Nat} {s : Nm} (h : Needs g i s) : ∃ d, NeedsD g i d s := by
  induction h with
  | base h => exact ⟨0, .base h⟩
  | step _ h ih => obtain ⟨d, hd⟩ := ih; exact ⟨d + 1, .step hd h⟩
theorem NeedsD.needs {g : GrR} {i d : Nat} {s : Nm} (h : NeedsD g i d s) : Needs g i s := by
  induction h with
  | base h => exact .base h
  | step _ h ih => exact .step ih h
theorem Needs.names {g : GrR} (hw : Wov g) {i : Nat} (hi : i < g.acts.length) {s : Nm} (h : Needs g i s) : s ∈ namesL g := by
  cases h with
  | base h => exact hw.insAt hi h
  | step ht h =>
    unfold actIns at h
    split at h
    · rename_i j hj
      exact hw.insAt (placeOf_some hj).1 h
    · exact absurd h (by simp)
/-- The first step of a way. -/
theorem Needs.front {g : GrR} {i : Nat} {s : Nm} (h : Needs g i s) : s ∈ insAt g i ∨ ∃ t ∈ insAt g i, ∃ j, placeOf g t = some j ∧ Needs g j s := by
  induction h with
  | base h => exact .inl h
  | @step t s ht h ih =>
    right
    rcases ih with h1 | ⟨u, hu, j, hj, h2⟩
    · unfold actIns at h
      split at h
      · rename_i j hj
        exact ⟨t, h1, j, hj, .base h⟩
      · exact absurd h (by simp)
    · exact ⟨u, hu, j, hj, .step h2 h⟩
theorem Needs.behind {g : GrR} {i j : Nat} {t s : Nm} (ht : t ∈ insAt g i) (hj : placeOf g t = some j) (h : Needs g j s) : Needs g i s := by
  induction h with
  | base h => exact .step (.base ht) (by unfold actIns; rw [hj]; exact h)
  | step _ h ih => exact .step ih h

/-- Where a name stands in the order, that an action needs. -/
theorem NeedsD.rank {g : GrR} (hw : Wov g) {l : List Nat} (ho : Ordd g l) {k : Nat} (hk : k < l.length) {d : Nat} {s : Nm} (h : NeedsD g l[k] d s) :
    d ≤ k ∧ (s ∈ g.srcs ∨ ∃ j, ∃ (hj : j < l.length), nameAt g l[j] = s ∧ j + d < k) := by
  induction h with
  | base h =>
    refine ⟨Nat.zero_le _, ?_⟩
    rcases ho.sup k hk _ h with h1 | ⟨j, hj, h1⟩
    · exact .inl h1
    · exact .inr ⟨j, by omega, h1, by omega⟩
  | @step d t s ht h ih =>
    obtain ⟨h1, h2⟩ := ih
    rcases h2 with h2 | ⟨j, hj, rfl, hjd⟩
    · exfalso
      unfold actIns at h
      split at h
      · rename_i q hq
        obtain ⟨hq1, hq2⟩ := placeOf_some hq
        exact hw.apart hq1 (hq2 ▸ h2)
      · exact absurd h (by simp)
    · refine ⟨by omega, ?_⟩
      unfold actIns at h
      rw [hw.place (ho.lt _ (List.getElem_mem hj))] at h
      rcases ho.sup j hj _ h with h3 | ⟨q, hq, h3⟩
      · exact .inl h3
      · exact .inr ⟨q, by omega, h3, by omega⟩
/-- A build that can be. -/
structure Can (g : GrR) : Prop where
  w : Wov g
  full : (orderR g).length = g.acts.length
theorem can_iff {g : GrR} : checkR g = 0 ↔ Can g := checkR_zero.trans ⟨fun h => ⟨h.1, h.2⟩, fun h => ⟨h.1, h.2⟩⟩
theorem Can.pos {g : GrR} (h : Can g) {i : Nat} (hi : i < g.acts.length) : ∃ k, ∃ (hk : k < (orderR g).length), (orderR g)[k] = i := by
  obtain ⟨k, hk, e⟩ := List.mem_iff_getElem.1 ((orderR_ordd g).full h.full i hi)
  exact ⟨k, hk, e⟩
theorem Can.irrefl {g : GrR} (h : Can g) {i : Nat} (hi : i < g.acts.length) : ¬ Needs g i (nameAt g i) := by
  intro hn
  obtain ⟨k, hk, rfl⟩ := h.pos hi
  obtain ⟨d, hd⟩ := hn.deep
  have ho := orderR_ordd g
  obtain ⟨_, h2⟩ := hd.rank h.w ho hk
  rcases h2 with h2 | ⟨j, hj, e, hjd⟩
  · exact h.w.apart hi h2
  · have := h.w.inj (ho.lt _ (List.getElem_mem hj)) hi e
    have := (List.pairwise_iff_getElem.1 ho.nd) j k hj hk (by omega)
    exact this ‹_›
theorem Can.depth {g : GrR} (h : Can g) {i : Nat} (hi : i < g.acts.length) {s : Nm} (hn : Needs g i s) : ∃ d, d ≤ g.acts.length ∧ NeedsD g i d s := by
  obtain ⟨k, hk, rfl⟩ := h.pos hi
  obtain ⟨d, hd⟩ := hn.deep
  have := (hd.rank h.w (orderR_ordd g) hk).1
  exact ⟨d, by have := h.full; omega, hd⟩

/-- A text among rising ones, once. -/
def insL (s : Nm) : List Nm → List Nm
  | [] => [s]
  | x :: r => if s ≤ x then s :: (x :: r).filter (fun y => y != s) else x :: insL s r
def Rise (l : List Nm) : Prop := l.Pairwise (· < ·)
theorem mem_insL (s : Nm) : ∀ (l : List Nm) (x : Nm), x ∈ insL s l ↔ x = s ∨ x ∈ l
  | [], x => by simp [insL]
  | y :: r, x => by
    unfold insL
    split
    · simp only [List.mem_cons, List.mem_filter]
      by_cases hx : x = s
      · simp [hx]
      · simp [hx]
    · simp only [List.mem_cons, mem_insL s r x]
      constructor
      · rintro (h | h | h)
        · exact .inr (.inl h)
        · exact .inl h
        · exact .inr (.inr h)
      · rintro (h | h | h)
        · exact .inr (.inl h)
        · exact .inl h
        · exact .inr (.inr h)
theorem nm_lt_of_le_ne {a b : Nm} (h : a ≤ b) (hn : a ≠ b) : a < b := by
  rw [← List.not_le]
  intro h2
  exact hn (List.le_antisymm h h2)
theorem insL_rise (s : Nm) : ∀ (l : List Nm), Rise l → Rise (insL s l)
  | [], _ => by simp [Rise, insL]
  | x :: r, h => by
    unfold Rise at h ⊢
    have h0 := h
    rw [List.pairwise_cons] at h
    unfold insL
    split
    · rename_i hs
      rw [List.pairwise_cons]
      refine ⟨fun y hy => ?_, h0.filter _⟩
      obtain ⟨hy, hne⟩ := List.mem_filter.1 hy
      have hle : s ≤ y := by
        rcases List.mem_cons.1 hy with rfl | hy
        · exact hs
        · exact List.le_trans hs (List.le_of_lt (h.1 y hy))
      exact nm_lt_of_le_ne hle (fun e => by simp [e] at hne)
    · rename_i hs
      rw [List.pairwise_cons]
      refine ⟨fun y hy => ?_, insL_rise s r h.2⟩
      rcases (mem_insL s r y).1 hy with rfl | hy
      · exact List.not_le.1 hs
      · exact h.1 y hy
theorem rise_ext : ∀ {a b : List Nm}, Rise a → Rise b → (∀ x, x ∈ a ↔ x ∈ b) → a = b
  | [], [], _, _, _ => rfl
  | [], y :: b, _, _, h => absurd ((h y).2 List.mem_cons_self) (by simp)
  | x :: a, [], _, _, h => absurd ((h x).1 List.mem_cons_self) (by simp)
  | x :: a, y :: b, ha, hb, h => by
    unfold Rise at ha hb
    rw [List.pairwise_cons] at ha hb
    have hxy : x = y := by
      rcases List.mem_cons.1 ((h x).1 List.mem_cons_self) with e | h1
      · exact e
      · rcases List.mem_cons.1 ((h y).2 List.mem_cons_self) with e | h2
        · exact e.symm
        · exact absurd (List.lt_trans (hb.1 x h1) (ha.1 y h2)) (List.lt_irrefl _)
    subst hxy
    rw [rise_ext ha.2 hb.2 (fun z => ?_)]
    constructor
    · intro hz
      rcases List.mem_cons.1 ((h z).1 (List.mem_cons_of_mem _ hz)) with rfl | h1
      · exact absurd (ha.1 z hz) (List.lt_irrefl _)
      · exact h1
    · intro hz
      rcases List.mem_cons.1 ((h z).2 (List.mem_cons_of_mem _ hz)) with rfl | h1
      · exact absurd (hb.1 z hz) (List.lt_irrefl _)
      · exact h1

def insAll (l : List Nm) (ss : List Nm) : List Nm := ss.foldl (fun o s => insL s o) l
theorem mem_insAll : ∀ (ss l : List Nm) (x : Nm), x ∈ insAll l ss ↔ x ∈ l ∨ x ∈ ss
  | [], l, x => by simp [insAll]
  | s :: ss, l, x => by
    show x ∈ insAll (insL s l) ss ↔ _
    rw [mem_insAll ss (insL s l) x, mem_insL]
    simp only [List.mem_cons]
    constructor
    · rintro ((h | h) | h)
      · exact .inr (.inl h)
      · exact .inl h
      · exact .inr (.inr h)
    · rintro (h | h | h)
      · exact .inl (.inr h)
      · exact .inl (.inl h)
      · exact .inr h
theorem insAll_rise : ∀ (ss l : List Nm), Rise l → Rise (insAll l ss)
  | [], _, h => h
  | s :: ss, l, h => insAll_rise ss (insL s l) (insL_rise s l h)
/-- What the texts of a list stand on is laid to it. -/
def growR (g : GrR) (o l : List Nm) : List Nm := l.foldl (fun o t => insAll o (actIns g t)) o
theorem mem_growR (g : GrR) : ∀ (l o : List Nm) (x : Nm), x ∈ growR g o l ↔ x ∈ o ∨ ∃ t ∈ l, x ∈ actIns g t
  | [], o, x => by simp [growR]
  | t :: l, o, x => by
    show x ∈ growR g (insAll o (actIns g t)) l ↔ _
    rw [mem_growR g l _ x, mem_insAll]
    simp only [List.mem_cons]
    constructor
    · rintro ((h | h) | ⟨u, hu, h⟩)
      · exact .inl h
      · exact .inr ⟨t, .inl rfl, h⟩
      · exact .inr ⟨u, .inr hu, h⟩
    · rintro (h | ⟨u, rfl | hu, h⟩)
      · exact .inl (.inl h)
      · exact .inl (.inr h)
      · exact .inr ⟨u, hu, h⟩
theorem growR_rise (g : GrR) : ∀ (l o : List Nm), Rise o → Rise (growR g o l)
  | [], _, h => h
  | _ :: l, o, h => growR_rise g l _ (insAll_rise _ o h)
def needsK (g : GrR) (i : Nat) : Nat → List Nm
  | 0 => insAll [] (insAt g i)
  | r + 1 => growR g (needsK g i r) (needsK g i r)
def needsR (g : GrR) (i : Nat) : List Nm := needsK g i g.acts.length
theorem needsK_rise (g : GrR) (i : Nat) : ∀ r, Rise (needsK g i r)
  | 0 => insAll_rise _ _ List.Pairwise.nil
  | r + 1 => growR_rise g _ _ (needsK_rise g i r)
theorem needsK_needs (g : GrR) (i : Nat) : ∀ r x, x ∈ needsK g i r → Needs g i x
  | 0, x, h => by
    rcases (mem_insAll _ _ x).1 h with h | h
    · exact absurd h (by simp)
    · exact .base h
  | r + 1, x, h => by
    rcases (mem_growR g _ _ x).1 h with h | ⟨t, ht, h⟩
    · exact needsK_needs g i r x h
    · exact .step (needsK_needs g i r t ht) h
theorem needsK_mono (g : GrR) (i : Nat) : ∀ r d x, x ∈ needsK g i r → x ∈ needsK g i (r + d)
  | _, 0, _, h => h
  | r, d + 1, x, h => (mem_growR g _ _ x).2 (.inl (needsK_mono g i r d x h))
theorem needsK_deep (g : GrR) (i : Nat) {d : Nat} {x : Nm} (h : NeedsD g i d x) : x ∈ needsK g i d := by
  induction h with
  | base h => exact (mem_insAll _ _ _).2 (.inr h)
  | step _ h ih => exact (mem_growR g _ _ _).2 (.inr ⟨_, ih, h⟩)
theorem needsR_rise (g : GrR) (i : Nat) : Rise (needsR g i) := needsK_rise g i _
theorem Can.mem_needs {g : GrR} (h : Can g) {i : Nat} (hi : i < g.acts.length) {s : Nm} : s ∈ needsR g i ↔ Needs g i s := by
  constructor
  · exact needsK_needs g i _ s
  · intro hn
    obtain ⟨d, hd, hx⟩ := h.depth hi hn
    have := needsK_mono g i d (g.acts.length - d) s (needsK_deep g i hx)
    rwa [show d + (g.acts.length - d) = g.acts.length by omega] at this
/-- What is found by taking up each once is all. -/
theorem needs_closed {g : GrR} {i : Nat} {out : List Nm} (h0 : ∀ s ∈ insAt g i, s ∈ out) (h1 : ∀ t ∈ out, ∀ s ∈ actIns g t, s ∈ out) (h2 : ∀ s ∈ out, Needs g i s) (s : Nm) : s ∈ out ↔ Needs g i s := by
  refine ⟨h2 s, fun h => ?_⟩
  induction h with
  | base h => exact h0 _ h
  | step _ h ih => exact h1 _ ih _ h

def dirtyB (g : GrR) (names : List Nm) (i : Nat) : Bool := names.any fun s => s == nameAt g i || (needsR g i).contains s
def dirtyR (g : GrR) (names : List Nm) : List Nat := (List.range g.acts.length).filter (dirtyB g names)
theorem dirtyB_iff {g : GrR} {names : List Nm} {i : Nat} : dirtyB g names i = true ↔ nameAt g i ∈ names ∨ ∃ s ∈ needsR g i, s ∈ names := by
  unfold dirtyB
  rw [List.any_eq_true]
  constructor
  · rintro ⟨s, hs, h⟩
    simp only [Bool.or_eq_true, beq_iff_eq, List.contains_iff_mem] at h
    rcases h with rfl | h
    · exact .inl hs
    · exact .inr ⟨s, h, hs⟩
  · rintro (h | ⟨s, h, hs⟩)
    · exact ⟨_, h, by simp⟩
    · exact ⟨s, hs, by simp [h]⟩
end Go.Proofs.YthglfmacjoecgaaGreatDoor
