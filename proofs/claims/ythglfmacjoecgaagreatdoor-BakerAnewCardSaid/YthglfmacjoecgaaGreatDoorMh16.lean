/- Texts of the proof, one behind the other: slices.IndexFunc, slices.ContainsFunc at the closures of trellis, their answers given; What an action needs, in plain words: by rounds, sorted; that these are all on which it stands; rings. No program in sight; Maps as lists of pairs: what a map's block holds, and the operations on it; What is read of a map behind a store and a delete; A build by its names: the map of places, in plain words; the block that holds it; What a build comes to, in plain words, whatever makes an action's result of its code and its inputs' results. No program in sight. -/
import Derived.Test.YthglfmacjoecgaaGreatDoorMh06
import Derived.Test.YthglfmacjoecgaaGreatDoorMh15
import Derived.Test.YthglfmacjoecgaaGreatDoorMh01
import Derived.Maps.OwnSet
import Derived.Deep.QuietTactic
namespace Go.Proofs.YthglfmacjoecgaaGreatDoor
open Go.RowKit

/-- The place of the first one; -1: there is none. -/
def placeI {α : Type} (P : α → Bool) (l : List α) : Int := match l.findIdx? P with
  | some i => (i : Int)
  | none => -1
theorem placeI_none {α : Type} {P : α → Bool} {l : List α} (h : ∀ x ∈ l, P x = false) : placeI P l = -1 := by
  have : l.findIdx? P = none := by rw [List.findIdx?_eq_none_iff]; intro x hx; simp [h x hx]
  unfold placeI; rw [this]
theorem placeI_at {α : Type} {P : α → Bool} {l : List α} (k : Nat) (hk : k < l.length) (h1 : P l[k] = true) (h2 : ∀ j (h : j < l.length), j < k → P l[j] = false) : placeI P l = k := by
  have : l.findIdx? P = some k := by
    rw [List.findIdx?_eq_some_iff_getElem]
    exact ⟨hk, h1, fun j hj => by simp [h2 j (by omega) hj]⟩
  unfold placeI; rw [this]
theorem placeI_neg {α : Type} {P : α → Bool} {l : List α} : placeI P l < 0 ↔ l.any P = false := by
  unfold placeI
  cases h : l.findIdx? P with
  | none =>
    rw [List.findIdx?_eq_none_iff] at h
    have : l.any P = false := by rw [List.any_eq_false]; intro x hx; simp [h x hx]
    simp [this]
  | some i =>
    rw [List.findIdx?_eq_some_iff_getElem] at h
    obtain ⟨hi, hp, _⟩ := h
    have : l.any P = true := by rw [List.any_eq_true]; exact ⟨_, List.getElem_mem hi, hp⟩
    simp [this]

set_option maxRecDepth 100000 in
set_option maxHeartbeats 1000000 in
theorem ixs_waits (p q : Option Addr) (Pn : Nm → Bool) (v : Value) (ss : List Nm) (w : World) (hin : NamesAt w v ss)
    (hf : ∀ s ∈ ss, ∀ W, Chg (fun _ => False) w W → Calls Tryz.prog 133 #[.string (bs s), .pointer p, .pointer q] W (Rets (.bool (Pn s)) (Chg (fun _ => False) W))) :
    Calls Tryz.prog 92 #[v, .func (.func 133) #[] #[.pointer p, .pointer q]] w (Rets (.int .i64 (placeI Pn ss)) (Chg (fun _ => False) w)) := by
  have hlenI := hin.len
  have hmx := hin.le
  unfold maxLen at hmx
  have H := hid hin
  have HF := hid hf
  clear hin hf
  go_enter Tryz.func92, Tryz.ntmps92
  go_wp2_with fail
  go_loopw [8] (fun i wr => ∃ k : Nat, k ≤ ss.length ∧ i = .int .i64 k ∧ Chg (fun _ => False) w wr ∧ ∀ j (h : j < ss.length), j < k → Pn ss[j] = false) (fun i _ => ss.length - (intOf i).toNat)
  case atStart => exact ⟨0, Nat.zero_le _, rfl, Chg.refl _ _, fun j _ h => absurd h (Nat.not_lt_zero _)⟩
  case round =>
    obtain ⟨k, hk, rfl, hch, hall⟩ := hrel
    have HA := hid hall
    have HC := hid hch
    have S2 := H.out.chg hch (fun _ _ h => h)
    clear hall hch
    by_cases hkn : k < ss.length
    · have hkn' : (k : Int) < ss.length := by omega
      obtain ⟨ad, hix, hadc, hadb⟩ := S2.ix k hkn
      have hn := HF.out ss[k] (List.getElem_mem hkn)
      clear S2
      cases hw : Pn ss[k] with
      | false =>
        rw [hw] at hn
        have HW := hid hw
        clear hw
        generalize bs ss[k] = nm at *
        go_wp2_with (go_at_call 133; refine (hn _ HC.out).mono ?_; rintro e w' ⟨rfl, hc⟩)
        go_roundw
        case rel =>
          refine ⟨k + 1, by omega, by go_num, HC.out.trans hc (fun _ _ h => h), fun j hj hjk => ?_⟩
          by_cases e : j = k
          · subst e; exact HW.out
          · exact HA.out j hj (by omega)
        case measure => simp [intOf]; omega
      | true =>
        have hp : placeI Pn ss = k := placeI_at k hkn hw HA.out
        rw [hw] at hn
        have HP := hid hp
        clear hw hp
        generalize bs ss[k] = nm at *
        go_wp2_with (go_at_call 133; refine (hn _ HC.out).mono ?_; rintro e w' ⟨rfl, hc⟩)
        go_ret
        exact ⟨congrArg (fun z => Ending.returned (.int .i64 z)) HP.out.symm, HC.out.trans hc (fun _ _ h => h)⟩
    · obtain rfl : k = ss.length := by omega
      have hp : placeI Pn ss = -1 := placeI_none (fun s hs => by
        obtain ⟨j, hj, rfl⟩ := List.mem_iff_getElem.1 hs
        exact HA.out j hj hj)
      have HP := hid hp
      clear hp S2
      go_wp2_with fail
      go_ret
      exact ⟨congrArg (fun z => Ending.returned (.int .i64 z)) HP.out.symm, HC.out⟩
theorem cfs_waits (p q : Option Addr) (Pn : Nm → Bool) (v : Value) (ss : List Nm) (w : World) (hin : NamesAt w v ss)
    (hf : ∀ s ∈ ss, ∀ W, Chg (fun _ => False) w W → Calls Tryz.prog 133 #[.string (bs s), .pointer p, .pointer q] W (Rets (.bool (Pn s)) (Chg (fun _ => False) W))) :
    Calls Tryz.prog 57 #[v, .func (.func 133) #[] #[.pointer p, .pointer q]] w (Rets (.bool (ss.any Pn)) (Chg (fun _ => False) w)) := by
  have hix := ixs_waits p q Pn v ss w hin hf
  have hneg := placeI_neg (P := Pn) (l := ss)
  clear hin hf
  generalize placeI Pn ss = r at *
  have HN := hid hneg
  clear hneg
  go_enter Tryz.func57, Tryz.ntmps57
  go_wp2_with (go_at_call 92; refine hix.mono ?_; rintro e w' ⟨rfl, hc⟩)
  go_ret
  refine ⟨?_, hc⟩
  have h1 := HN.out
  by_cases h : r < 0
  · rw [h1.1 h]; simp [h]
  · have h2 : ss.any Pn = true := by
      cases h3 : ss.any Pn with
      | true => rfl
      | false => exact absurd (h1.2 h3) h
    rw [h2]; simp; omega
set_option maxRecDepth 100000 in
set_option maxHeartbeats 1000000 in
theorem ixa_ready (p q : Option Addr) (Pn : ActR → Bool) (v : Value) (xs : List ActR) (iv : Nat → Value) (w : World) (hin : ActsAt w v xs iv)
    (hf : ∀ k (h : k < xs.length), ∀ W, Chg (fun _ => False) w W → Calls Tryz.prog 134 #[actV xs[k] (iv k), .pointer p, .pointer q] W (Rets (.bool (Pn xs[k])) (Chg (fun _ => False) W))) :
    Calls Tryz.prog 135 #[v, .func (.func 134) #[] #[.pointer p, .pointer q]] w (Rets (.int .i64 (placeI Pn xs)) (Chg (fun _ => False) w)) := by
  have hlenI := hin.len
  have hmx := hin.rows.le
  unfold maxLen at hmx
  have H := hid hin
  have HF := hid hf
  clear hin hf
  go_enter Tryz.func135, Tryz.ntmps135
  go_wp2_with fail
  go_loopw [8] (fun i wr => ∃ k : Nat, k ≤ xs.length ∧ i = .int .i64 k ∧ Chg (fun _ => False) w wr ∧ ∀ j (h : j < xs.length), j < k → Pn xs[j] = false) (fun i _ => xs.length - (intOf i).toNat)
  case atStart => exact ⟨0, Nat.zero_le _, rfl, Chg.refl _ _, fun j _ h => absurd h (Nat.not_lt_zero _)⟩
  case round =>
    obtain ⟨k, hk, rfl, hch, hall⟩ := hrel
    have HA := hid hall
    have HC := hid hch
    have S2 := H.out.chg hch (fun _ _ h => h)
    clear hall hch
    by_cases hkn : k < xs.length
    · have hkn' : (k : Int) < xs.length := by omega
      obtain ⟨bb, oo, hix, hlt, e0, e1, e2, hns, hw1, hw2⟩ := S2.at k hkn
      have hn := HF.out k hkn
      unfold actV at hn
      clear S2 hns hw1 hw2
      cases hw : Pn xs[k] with
      | false =>
        rw [hw] at hn
        have HW := hid hw
        clear hw
        generalize bs xs[k].name = nm at *
        generalize bs xs[k].code = cd at *
        go_wp2_with (go_at_call 134; refine (hn _ HC.out).mono ?_; rintro e w' ⟨rfl, hc⟩)
        go_roundw
        case rel =>
          refine ⟨k + 1, by omega, by go_num, HC.out.trans hc (fun _ _ h => h), fun j hj hjk => ?_⟩
          by_cases e : j = k
          · subst e; exact HW.out
          · exact HA.out j hj (by omega)
        case measure => simp [intOf]; omega
      | true =>
        have hp : placeI Pn xs = k := placeI_at k hkn hw HA.out
        rw [hw] at hn
        have HP := hid hp
        clear hw hp
        generalize bs xs[k].name = nm at *
        generalize bs xs[k].code = cd at *
        go_wp2_with (go_at_call 134; refine (hn _ HC.out).mono ?_; rintro e w' ⟨rfl, hc⟩)
        go_ret
        exact ⟨congrArg (fun z => Ending.returned (.int .i64 z)) HP.out.symm, HC.out.trans hc (fun _ _ h => h)⟩
    · obtain rfl : k = xs.length := by omega
      have hp : placeI Pn xs = -1 := placeI_none (fun s hs => by
        obtain ⟨j, hj, rfl⟩ := List.mem_iff_getElem.1 hs
        exact HA.out j hj hj)
      have HP := hid hp
      clear hp S2
      go_wp2_with fail
      go_ret
      exact ⟨congrArg (fun z => Ending.returned (.int .i64 z)) HP.out.symm, HC.out⟩
end Go.Proofs.YthglfmacjoecgaaGreatDoor
namespace Go.Proofs.YthglfmacjoecgaaGreatDoor
open Go

def actIns (g : GrR) (s : Nm) : List Nm := match placeOf g s with
  | some i => insAt g i
  | none => []
/-- All on which an action stands. -/
inductive Needs (g : GrR) (i : Nat) : Nm → Prop
  | base {s : Nm} : s ∈ insAt g i → Needs g i s
  | step {t s : Nm} : Needs g i t → s ∈ actIns g t → Needs g i s
/-- .. over so many others. -/
inductive NeedsD (g : GrR) (i : Nat) : Nat → Nm → Prop
  | base {s : Nm} : s ∈ insAt g i → NeedsD g i 0 s
  | step {d : Nat} {t s : Nm} : NeedsD g i d t → s ∈ actIns g t → NeedsD g i (d + 1) s
theorem Needs.deep {g : GrR} {i : Nat} {s : Nm} (h : Needs g i s) : ∃ d, NeedsD g i d s := by
  induction h with
  | base h => exact ⟨0, .base h⟩
  | step _ h ih => obtain ⟨d, hd⟩ := ih; exact ⟨d + 1, .step hd h⟩
theorem NeedsD.needs {g : GrR} {i d : Nat} {s : Nm} (h : NeedsD g i d s) : Needs g i s := by
  induction h with
  | base h => exact .base h
  | step _ h ih => exact .step ih h
theorem Needs.names {g : GrR} (hw : Wov g) {i : Nat} (hi : i < g.acts.length) {s : Nm} (h : Needs g i s) : s ∈ namesL g := by
  cases h with
  | base h => exact hw.insAt hi h
  | step ht h =>
    unfold actIns at h
    split at h
    · rename_i j hj
      exact hw.insAt (placeOf_some hj).1 h
    · exact absurd h (by simp)
theorem Needs.behind {g : GrR} {i j : Nat} {t s : Nm} (ht : t ∈ insAt g i) (hj : placeOf g t = some j) (h : Needs g j s) : Needs g i s := by
  induction h with
  | base h => exact .step (.base ht) (by unfold actIns; rw [hj]; exact h)
  | step _ h ih => exact .step ih h

/-- Where a name stands in the order, that an action needs. -/
theorem NeedsD.rank {g : GrR} (hw : Wov g) {l : List Nat} (ho : Ordd g l) {k : Nat} (hk : k < l.length) {d : Nat} {s : Nm} (h : NeedsD g l[k] d s) :
    d ≤ k ∧ (s ∈ g.srcs ∨ ∃ j, ∃ (hj : j < l.length), nameAt g l[j] = s ∧ j + d < k) := by
  induction h with
  | base h =>
    refine ⟨Nat.zero_le _, ?_⟩
    rcases ho.sup k hk _ h with h1 | ⟨j, hj, h1⟩
    · exact .inl h1
    · exact .inr ⟨j, by omega, h1, by omega⟩
  | @step d t s ht h ih =>
    obtain ⟨h1, h2⟩ := ih
    rcases h2 with h2 | ⟨j, hj, rfl, hjd⟩
    · exfalso
      unfold actIns at h
      split at h
      · rename_i q hq
        obtain ⟨hq1, hq2⟩ := placeOf_some hq
        exact hw.apart hq1 (hq2 ▸ h2)
      · exact absurd h (by simp)
    · refine ⟨by omega, ?_⟩
      unfold actIns at h
      rw [hw.place (ho.lt _ (List.getElem_mem hj))] at h
      rcases ho.sup j hj _ h with h3 | ⟨q, hq, h3⟩
      · exact .inl h3
      · exact .inr ⟨q, by omega, h3, by omega⟩
/-- A build that can be. -/
structure Can (g : GrR) : Prop where
  w : Wov g
  full : (orderR g).length = g.acts.length
theorem can_iff {g : GrR} : checkR g = 0 ↔ Can g := checkR_zero.trans ⟨fun h => ⟨h.1, h.2⟩, fun h => ⟨h.1, h.2⟩⟩
theorem Can.pos {g : GrR} (h : Can g) {i : Nat} (hi : i < g.acts.length) : ∃ k, ∃ (hk : k < (orderR g).length), (orderR g)[k] = i := by
  obtain ⟨k, hk, e⟩ := List.mem_iff_getElem.1 ((orderR_ordd g).full h.full i hi)
  exact ⟨k, hk, e⟩
theorem Can.depth {g : GrR} (h : Can g) {i : Nat} (hi : i < g.acts.length) {s : Nm} (hn : Needs g i s) : ∃ d, d ≤ g.acts.length ∧ NeedsD g i d s := by
  obtain ⟨k, hk, rfl⟩ := h.pos hi
  obtain ⟨d, hd⟩ := hn.deep
  have := (hd.rank h.w (orderR_ordd g) hk).1
  exact ⟨d, by have := h.full; omega, hd⟩

/-- What is found by taking up each once is all. -/
theorem needs_closed {g : GrR} {i : Nat} {out : List Nm} (h0 : ∀ s ∈ insAt g i, s ∈ out) (h1 : ∀ t ∈ out, ∀ s ∈ actIns g t, s ∈ out) (h2 : ∀ s ∈ out, Needs g i s) (s : Nm) : s ∈ out ↔ Needs g i s := by
  refine ⟨h2 s, fun h => ?_⟩
  induction h with
  | base h => exact h0 _ h
  | step _ h ih => exact h1 _ ih _ h

end Go.Proofs.YthglfmacjoecgaaGreatDoor
namespace Go.Proofs.YthglfmacjoecgaaGreatDoor
open Go.RowKit

theorem ba_beq (a b : ByteArray) : (a == b) = decide (a = b) := by
  rcases a with ⟨a⟩; rcases b with ⟨b⟩
  show (a == b) = _
  by_cases h : a = b <;> simp [h]
def lfind {κ ν : Type} [DecidableEq κ] (k : κ) : List (κ × ν) → Nat → Option (Nat × ν)
  | [], _ => none
  | p :: r, i => if k = p.1 then some (i, p.2) else lfind k r (i + 1)

/-- How a key's type is compared. -/
structure KeyT (P : Program) (kt : TypeId) {κ : Type} [DecidableEq κ] (enc : κ → Value) : Prop where
  find : ∀ {ν : Type} (encv : ν → Value) (es : List MapEntry) (l : List (κ × ν)) (k : κ) (w : World), es.map (fun e => (e.key, e.val)) = l.map (fun p => (enc p.1, encv p.2)) →
    (Instr.findKey kt (enc k) es).run P w = .ok ((lfind k l 0).map fun x => (x.1, encv x.2)) w
  check : ∀ b k w, (Instr.checkKey b 10000 kt (enc k)).run P w = .ok () w
  same : ∀ k, Instr.sameBits 10000 (enc k) (enc k) = true

theorem findNow_run {κ ν : Type} [DecidableEq κ] (d : TypeDesc) (enc : κ → Value) (encv : ν → Value) (k : κ)
    (heq : ∀ k', Instr.sameNow d (enc k) (enc k') = some (decide (k = k'))) : ∀ (es : List MapEntry) (l : List (κ × ν)) (i : Nat), es.map (fun e => (e.key, e.val)) = l.map (fun p => (enc p.1, encv p.2)) →
    Instr.findNow d (enc k) es i = some ((lfind k l i).map fun x => (x.1, encv x.2))
  | [], [], i, _ => by simp [Instr.findNow, lfind]
  | [], _ :: _, _, h => by simp at h
  | _ :: _, [], _, h => by simp at h
  | e :: es, p :: l, i, h => by
    simp only [List.map_cons, List.cons.injEq, Prod.mk.injEq] at h
    have ih := findNow_run d enc encv k heq es l (i + 1) h.2
    unfold Instr.findNow lfind
    rw [h.1.1, heq]
    by_cases hk : k = p.1
    · simp [hk, h.1.2]
    · simp [hk, ih]

/-- Block r is a map; its entries, in the order in which they were born, are l. -/
def MapL (w : World) (r : Nat) {κ ν : Type} (enc : κ → Value) (encv : ν → Value) (l : List (κ × ν)) : Prop :=
  ∃ es clock, w.heap[r]? = some (.map es clock) ∧ es.toList.map (fun e => (e.key, e.val)) = l.map (fun p => (enc p.1, encv p.2))

def lput {κ ν : Type} [DecidableEq κ] (k : κ) (x : ν) (l : List (κ × ν)) : List (κ × ν) :=
  match lfind k l 0 with
  | some (i, _) => l.set i (k, x)
  | none => l ++ [(k, x)]
theorem setBlock_chg (w : World) (r : Nat) (o : Obj) : Chg (fun k => k = r) w (Go.ChangeMaps.setBlock w r o) :=
  ⟨rfl, rfl, rfl, by simp [Go.ChangeMaps.setBlock], fun k _ hn => by simp only [Go.ChangeMaps.setBlock]; rw [Array.getElem?_setIfInBounds, if_neg (fun e => hn e.symm)]⟩

section
variable {κ ν : Type} {enc : κ → Value} {encv : ν → Value} {l : List (κ × ν)} {P : Program} {w : World} {r : Nat}

theorem MapL.lt (h : MapL w r enc encv l) : r < w.heap.size := by obtain ⟨_, _, h, _⟩ := h; exact heap_lt h
theorem MapL.chg {F : Nat → Prop} {w' : World} (h : MapL w r enc encv l) (hc : Chg F w w') (hF : ¬ F r) : MapL w' r enc encv l := by
  obtain ⟨es, clock, h1, h2⟩ := h
  exact ⟨es, clock, hc.obj h1 hF, h2⟩
theorem MapL.fresh (w : World) : MapL (w.alloc (.map #[] 0)) w.heap.size enc encv ([] : List (κ × ν)) := ⟨#[], 0, heap_alloc_new w _, rfl⟩

theorem MapL.len (h : MapL w r enc encv l) {kt t e : TypeId} (ht : P.underlying t = some (.map kt e)) (ty : TypeId) :
    (Builtin.len_ #[t] ty #[.map (some r)]).run P w = .ok (.int .i64 l.length) w := by
  obtain ⟨es, clock, h1, h2⟩ := h
  have hs : es.size = l.length := by have := congrArg List.length h2; simpa using this
  simp [Builtin.len_, run_underlying ht, MapKept.run_getObj_map h1, hs]
  rfl

variable [DecidableEq κ]
theorem lfind_bound {k : κ} : ∀ {l : List (κ × ν)} {i j : Nat} {x : ν}, lfind k l i = some (j, x) → i ≤ j ∧ j < i + l.length ∧ l[j - i]? = some (k, x)
  | [], _, _, _, h => by simp [lfind] at h
  | p :: l, i, j, x, h => by
    unfold lfind at h
    split at h
    · rename_i hk
      simp only [Option.some.injEq, Prod.mk.injEq] at h
      obtain ⟨rfl, rfl⟩ := h
      refine ⟨Nat.le_refl _, by simp, by simp [hk]⟩
    · obtain ⟨h1, h2, h3⟩ := lfind_bound h
      refine ⟨by omega, by simp; omega, ?_⟩
      rw [show j - i = (j - (i + 1)) + 1 from by omega, List.getElem?_cons_succ]
      exact h3
theorem lfind_none {k : κ} : ∀ {l : List (κ × ν)} {i : Nat}, lfind k l i = none ↔ ∀ p ∈ l, p.1 ≠ k
  | [], _ => by simp [lfind]
  | p :: l, i => by
    unfold lfind
    split
    · rename_i hk; simp [hk]
    · rename_i hk
      rw [lfind_none]
      simp only [List.mem_cons, forall_eq_or_imp]
      exact ⟨fun h => ⟨fun e => hk e.symm, h⟩, fun h => h.2⟩

theorem MapL.look (h : MapL w r enc encv l) {kt t e : TypeId} (K : KeyT P kt enc) (ht : P.underlying t = some (.map kt e)) {z : Value} (hz : (zeroValue e).run P w = .ok z w) (k : κ) (c : Bool) :
    (Instr.lookup t (.map (some r)) (enc k) c).run P w = .ok (if c then .tuple #[((lfind k l 0).map fun x => encv x.2).getD z, .bool (lfind k l 0).isSome] else ((lfind k l 0).map fun x => encv x.2).getD z) w := by
  obtain ⟨es, clock, h1, h2⟩ := h
  have hf := K.find encv es.toList l k w h2
  cases hl : lfind k l 0 with
  | none =>
    rw [hl] at hf
    simp [Instr.lookup, run_underlying ht, MapKept.run_getObj_map h1, K.check, hf, hz]
  | some x =>
    rw [hl] at hf
    simp [Instr.lookup, run_underlying ht, MapKept.run_getObj_map h1, K.check, hf]

theorem MapL.put (h : MapL w r enc encv l) {kt t e : TypeId} (K : KeyT P kt enc) (ht : P.underlying t = some (.map kt e)) (k : κ) (x : ν) :
    ∃ w', (Instr.mapUpdate t (.map (some r)) (enc k) (encv x)).run P w = .ok () w' ∧ MapL w' r enc encv (lput k x l) ∧ Chg (fun i => i = r) w w' := by
  obtain ⟨es, clock, h1, h2⟩ := h
  have hf := K.find encv es.toList l k w h2
  cases hl : lfind k l 0 with
  | none =>
    rw [hl] at hf
    refine ⟨Go.ChangeMaps.setBlock w r (.map (es.push { key := enc k, val := encv x, born := clock }) (clock + 1)), ?_, ⟨es.push { key := enc k, val := encv x, born := clock }, clock + 1, ?_, ?_⟩, setBlock_chg _ _ _⟩
    · simp [Instr.mapUpdate, run_underlying ht, MapKept.run_getObj_map h1, K.check, hf, MapKept.run_setObj_map _ h1, Go.ChangeMaps.setBlock]
    · simp only [Go.ChangeMaps.setBlock]; rw [Array.getElem?_setIfInBounds_self_of_lt (heap_lt h1)]
    · simp [lput, hl, h2]
  | some j =>
    obtain ⟨j, y⟩ := j
    rw [hl] at hf
    obtain ⟨_, hj, hg⟩ := lfind_bound hl
    simp only [Nat.sub_zero, Nat.zero_add] at hj hg
    have hes : (es.toList.map (fun e => (e.key, e.val)))[j]? = some (enc k, encv y) := by rw [h2]; simp [hg]
    obtain ⟨e', he', hkv⟩ : ∃ e', es[j]? = some e' ∧ (e'.key, e'.val) = (enc k, encv y) := by simpa using hes
    simp only [Prod.mk.injEq] at hkv
    refine ⟨Go.ChangeMaps.setBlock w r (.map (es.modify j fun e => { e with key := enc k, val := encv x }) clock), ?_, ⟨es.modify j fun e => { e with key := enc k, val := encv x }, clock, ?_, ?_⟩, setBlock_chg _ _ _⟩
    · simp [Instr.mapUpdate, run_underlying ht, MapKept.run_getObj_map h1, K.check, hf, he', hkv.1, Instr.keyThatStays, K.same, MapKept.run_setObj_map _ h1, Go.ChangeMaps.setBlock]
    · simp only [Go.ChangeMaps.setBlock]; rw [Array.getElem?_setIfInBounds_self_of_lt (heap_lt h1)]
    · simp only [lput, hl]
      apply List.ext_getElem?
      intro m
      have hm : (es.toList.map (fun e => (e.key, e.val)))[m]? = (l.map (fun p => (enc p.1, encv p.2)))[m]? := by rw [h2]
      simp only [List.getElem?_map, Array.getElem?_toList] at hm ⊢
      rw [Array.getElem?_modify, List.getElem?_set]
      by_cases hjm : j = m
      · subst hjm
        simp [he', hj]
      · simp only [hjm, if_false]; exact hm

variable {ops : Array Oper} {rest : List Oper} {o : Oper} {a : Act} {Q : Exit → Act → World → Prop}
theorem wpList_lookup_l (hg : o.guard = none) (m x : Operand) (t : TypeId) (c : Bool) (hop : o.op = Op.lookup t m x c) {kt e : TypeId} (K : KeyT P kt enc) (ht : P.underlying t = some (.map kt e))
    {z : Value} (hz : (zeroValue e).run P w = .ok z w) (hown : MapL w r enc encv l) (hm : a.eval m = .map (some r)) (k : κ) (hx : a.eval x = enc k)
    (hK : wpList P ops Q rest (a.put o.dst (if c then .tuple #[((lfind k l 0).map fun x => encv x.2).getD z, .bool (lfind k l 0).isSome] else ((lfind k l 0).map fun x => encv x.2).getD z)) w) :
    wpList P ops Q (o :: rest) a w := by
  refine wpList_plain hg fun K' hK' => ?_
  have hrun := hown.look K ht hz k c
  unfold Oper.wp
  simp only [execOp, hop, hm, hx, hrun, Sem.run_bind, Result.andThen, Oper.upon, Sem.run_pure]
  exact hK' _ _ hK
theorem wpList_mapUpdate_l (hg : o.guard = none) (m x v : Operand) (t : TypeId) (hop : o.op = Op.mapUpdate t m x v) {kt e : TypeId} (K : KeyT P kt enc) (ht : P.underlying t = some (.map kt e))
    (hown : MapL w r enc encv l) (hm : a.eval m = .map (some r)) (k : κ) (hx : a.eval x = enc k) (y : ν) (hv : a.eval v = encv y)
    (hK : ∀ w', MapL w' r enc encv (lput k y l) → Chg (fun i => i = r) w w' → wpList P ops Q rest (a.put o.dst undef) w') :
    wpList P ops Q (o :: rest) a w := by
  refine wpList_plain hg fun K' hK' => ?_
  obtain ⟨w', hrun, r1, r2⟩ := hown.put K ht k y
  unfold Oper.wp
  simp [execOp, hop, hm, hx, hv, hrun, Result.andThen]
  exact hK' _ _ (hK w' r1 r2)
end
end Go.Proofs.YthglfmacjoecgaaGreatDoor
namespace Go.Proofs.YthglfmacjoecgaaGreatDoor
open Go.RowKit

section
variable {κ ν : Type} [DecidableEq κ]
def lval (k : κ) (l : List (κ × ν)) : Option ν := (lfind k l 0).map (·.2)
theorem lfind_shift (k : κ) : ∀ (l : List (κ × ν)) (i : Nat), lfind k l i = (lfind k l 0).map fun x => (x.1 + i, x.2)
  | [], _ => rfl
  | p :: l, i => by
    unfold lfind
    by_cases h : k = p.1
    · simp [h]
    · rw [if_neg h, if_neg h, lfind_shift k l (i + 1), lfind_shift k l 1]
      cases lfind k l 0 <;> simp; omega
theorem lval_nil (k : κ) : lval k ([] : List (κ × ν)) = none := rfl
theorem lval_cons (k : κ) (p : κ × ν) (l : List (κ × ν)) : lval k (p :: l) = if k = p.1 then some p.2 else lval k l := by
  unfold lval
  rw [lfind]
  by_cases h : k = p.1
  · simp [h]
  · rw [if_neg h, if_neg h, lfind_shift k l 1]
    cases lfind k l 0 <;> rfl
theorem lval_none {k : κ} {l : List (κ × ν)} : lval k l = none ↔ ∀ p ∈ l, p.1 ≠ k := by
  unfold lval
  rw [Option.map_eq_none_iff]
  exact lfind_none
theorem lput_cons (k : κ) (x : ν) (p : κ × ν) (l : List (κ × ν)) : lput k x (p :: l) = if k = p.1 then (k, x) :: l else p :: lput k x l := by
  unfold lput
  rw [lfind]
  by_cases h : k = p.1
  · simp [h]
  · rw [if_neg h, if_neg h, lfind_shift k l 1]
    cases lfind k l 0 <;> rfl
theorem lval_put (k k' : κ) (x : ν) : ∀ (l : List (κ × ν)), lval k (lput k' x l) = if k = k' then some x else lval k l
  | [] => by
    have : lput k' x ([] : List (κ × ν)) = [(k', x)] := rfl
    rw [this, lval_cons]
  | p :: l => by
    rw [lput_cons]
    by_cases h : k' = p.1
    · rw [if_pos h, lval_cons, lval_cons]
      by_cases h2 : k = k'
      · rw [if_pos h2, if_pos h2]
      · rw [if_neg h2, if_neg h2, if_neg (by rw [← h]; exact h2)]
    · rw [if_neg h, lval_cons, lval_cons, lval_put k k' x l]
      by_cases h2 : k = k'
      · subst h2; simp [h]
      · simp [h2]
theorem keys_put (k' : κ) (x : ν) : ∀ (l : List (κ × ν)) (k : κ), k ∈ (lput k' x l).map Prod.fst ↔ k = k' ∨ k ∈ l.map Prod.fst
  | [], k => by
    have : lput k' x ([] : List (κ × ν)) = [(k', x)] := rfl
    rw [this]; simp
  | p :: l, k => by
    rw [lput_cons]
    by_cases h : k' = p.1
    · rw [if_pos h]
      simp only [List.map_cons, List.mem_cons]
      rw [← h]
      constructor
      · rintro (h | h)
        · exact .inl h
        · exact .inr (.inr h)
      · rintro (h | h | h)
        · exact .inl h
        · exact .inl h
        · exact .inr h
    · rw [if_neg h]
      simp only [List.map_cons, List.mem_cons]
      rw [keys_put k' x l k]
      constructor
      · rintro (h | h | h)
        · exact .inr (.inl h)
        · exact .inl h
        · exact .inr (.inr h)
      · rintro (h | h | h)
        · exact .inr (.inl h)
        · exact .inl h
        · exact .inr (.inr h)
theorem nodup_put (k' : κ) (x : ν) : ∀ (l : List (κ × ν)), (l.map Prod.fst).Nodup → ((lput k' x l).map Prod.fst).Nodup
  | [], _ => by
    have : lput k' x ([] : List (κ × ν)) = [(k', x)] := rfl
    rw [this]; simp
  | p :: l, h => by
    rw [lput_cons]
    simp only [List.map_cons, List.nodup_cons] at h
    by_cases hk : k' = p.1
    · rw [if_pos hk]
      simp only [List.map_cons, List.nodup_cons]
      rw [hk]
      exact h
    · rw [if_neg hk]
      simp only [List.map_cons, List.nodup_cons]
      refine ⟨fun hm => ?_, nodup_put k' x l h.2⟩
      rcases (keys_put k' x l p.1).1 hm with h1 | h1
      · exact hk h1.symm
      · exact h.1 h1
end

end Go.Proofs.YthglfmacjoecgaaGreatDoor
namespace Go.Proofs.YthglfmacjoecgaaGreatDoor
open Go.RowKit

abbrev nmV : Nm → Value := fun s => .string (bs s)
abbrev intV : Int → Value := fun n => .int .i64 n
abbrev boolV : Bool → Value := fun b => .bool b
theorem keyT_nm {P : Program} {kt : TypeId} (hk : P.underlying kt = some .string) : KeyT P kt nmV where
  find encv es l k w h := by
    have h0 := findNow_run .string nmV encv k (fun k' => by
      simp only [Instr.sameNow]
      rw [ba_beq]
      by_cases e : k = k'
      · subst e; simp
      · have : ¬ bs k = bs k' := fun h => e (bs_inj h)
        simp [e, this]) es l 0 h
    simp [Instr.findKey, run_underlying hk, h0]
  check b k w := by show (Instr.checkKey b (9999 + 1) kt _).run P w = _; unfold Instr.checkKey; simp [run_underlying hk]
  same k := by show Instr.sameBits (9999 + 1) _ _ = _; unfold Instr.sameBits; simp [ba_beq]
theorem keyNm : KeyT Tryz.prog 9 nmV := keyT_nm Tryz.underlying9

section
variable {κ ν : Type} {enc : κ → Value} {encv : ν → Value} {l : List (κ × ν)} {P : Program} {w : World} {r : Nat} [DecidableEq κ]
theorem getD_lval (k : κ) (l : List (κ × ν)) (z : Value) : ((lfind k l 0).map fun x => encv x.2).getD z = ((lval k l).map encv).getD z := by
  unfold lval
  cases lfind k l 0 <;> rfl
theorem isSome_lval (k : κ) (l : List (κ × ν)) : (lfind k l 0).isSome = (lval k l).isSome := by
  unfold lval
  cases lfind k l 0 <;> rfl
variable {ops : Array Oper} {rest : List Oper} {o : Oper} {a : Act} {Q : Exit → Act → World → Prop}
/-- A look-up, its answer given. -/
theorem wpList_lookup_v (hg : o.guard = none) (m x : Operand) (t : TypeId) (hop : o.op = Op.lookup t m x false) {kt e : TypeId} (K : KeyT P kt enc) (ht : P.underlying t = some (.map kt e))
    {z : Value} (hz : (zeroValue e).run P w = .ok z w) (hown : MapL w r enc encv l) (hm : a.eval m = .map (some r)) (k : κ) (hx : a.eval x = enc k) (v : Value) (hv : ((lval k l).map encv).getD z = v)
    (hK : wpList P ops Q rest (a.put o.dst v) w) : wpList P ops Q (o :: rest) a w :=
  wpList_lookup_l hg m x t false hop K ht hz hown hm k hx (by rw [getD_lval, hv]; exact hK)
/-- The same where a guard stands ahead that is met. -/
theorem wpList_plainW (hw : Region.wanted o (yielded ops a.tmps) = true)
    (h : ∀ K : Act → World → Prop, (∀ a w, wpList P ops Q rest a w → K a w) → o.wp P a w K Q) : wpList P ops Q (o :: rest) a w :=
  wpList_step fun K hK => by rw [hw]; exact h K hK
theorem wpList_lookup_w (hw : Region.wanted o (yielded ops a.tmps) = true) (m x : Operand) (t : TypeId) (hop : o.op = Op.lookup t m x false) {kt e : TypeId} (K : KeyT P kt enc) (ht : P.underlying t = some (.map kt e))
    {z : Value} (hz : (zeroValue e).run P w = .ok z w) (hown : MapL w r enc encv l) (hm : a.eval m = .map (some r)) (k : κ) (hx : a.eval x = enc k) (v : Value) (hv : ((lval k l).map encv).getD z = v)
    (hK : wpList P ops Q rest (a.put o.dst v) w) : wpList P ops Q (o :: rest) a w := by
  refine wpList_plainW hw fun K' hK' => ?_
  have hrun := hown.look K ht hz k false
  rw [getD_lval, hv] at hrun
  unfold Oper.wp
  simp only [execOp, hop, hm, hx, hrun, Sem.run_bind, Result.andThen, Oper.upon, Sem.run_pure]
  exact hK' _ _ hK
theorem wpList_lookup_ok (hg : o.guard = none) (m x : Operand) (t : TypeId) (hop : o.op = Op.lookup t m x true) {kt e : TypeId} (K : KeyT P kt enc) (ht : P.underlying t = some (.map kt e))
    {z : Value} (hz : (zeroValue e).run P w = .ok z w) (hown : MapL w r enc encv l) (hm : a.eval m = .map (some r)) (k : κ) (hx : a.eval x = enc k) (v : Value) (hv : ((lval k l).map encv).getD z = v) (b : Bool) (hb : (lval k l).isSome = b)
    (hK : wpList P ops Q rest (a.put o.dst (.tuple #[v, .bool b])) w) : wpList P ops Q (o :: rest) a w :=
  wpList_lookup_l hg m x t true hop K ht hz hown hm k hx (by rw [getD_lval, isSome_lval, hv, hb]; exact hK)
theorem MapL.run_lookup (hown : MapL w r enc encv l) {t kt e : TypeId} (K : KeyT P kt enc) (ht : P.underlying t = some (.map kt e)) {z : Value} (hz : ∀ w, (zeroValue e).run P w = .ok z w) (k : κ) (v : Value) (hv : ((lval k l).map encv).getD z = v) (n : Nat) :
    (Instr.lookup t (.map (some r)) (enc k) false).run P (w.drewN n) = .ok v (w.drewN n) := by
  have h : MapL (w.drewN n) r enc encv l := hown
  rw [h.look K ht (hz _) k false, getD_lval, hv]
  rfl

def atL (ps : List (κ × ν)) : List (κ × ν) := ps.foldl (fun l p => lput p.1 p.2 l) []
theorem atL_snoc (ps : List (κ × ν)) (p : κ × ν) : atL (ps ++ [p]) = lput p.1 p.2 (atL ps) := by
  unfold atL; rw [List.foldl_append]; rfl
theorem atL_take (ps : List (κ × ν)) (n : Nat) (h : n < ps.length) : atL (ps.take (n + 1)) = lput ps[n].1 ps[n].2 (atL (ps.take n)) := by
  rw [List.take_succ_eq_append_getElem h, atL_snoc]
theorem lput_new {k : κ} {x : ν} {l : List (κ × ν)} (h : k ∉ l.map Prod.fst) : lput k x l = l ++ [(k, x)] := by
  unfold lput
  have : lfind k l 0 = none := by
    rw [lfind_none]
    intro p hp e
    exact h (List.mem_map.2 ⟨p, hp, e⟩)
  rw [this]
theorem lput_old {k : κ} {x : ν} {l : List (κ × ν)} (h : k ∈ l.map Prod.fst) : (lput k x l).length = l.length := by
  unfold lput
  cases hf : lfind k l 0 with
  | none =>
    obtain ⟨p, hp, e⟩ := List.mem_map.1 h
    exact absurd e (lfind_none.1 hf p hp)
  | some q => simp
theorem keys_foldl : ∀ (ps : List (κ × ν)) (l : List (κ × ν)) (k : κ), k ∈ (ps.foldl (fun l p => lput p.1 p.2 l) l).map Prod.fst ↔ k ∈ l.map Prod.fst ∨ k ∈ ps.map Prod.fst
  | [], l, k => by simp
  | p :: ps, l, k => by
    rw [List.foldl_cons, keys_foldl ps, keys_put]
    simp only [List.map_cons, List.mem_cons]
    constructor
    · rintro ((h | h) | h)
      · exact .inr (.inl h)
      · exact .inl h
      · exact .inr (.inr h)
    · rintro (h | h | h)
      · exact .inl (.inr h)
      · exact .inl (.inl h)
      · exact .inr h
theorem foldl_length : ∀ (ps : List (κ × ν)) (l : List (κ × ν)), (l.map Prod.fst).Nodup → (ps.foldl (fun l p => lput p.1 p.2 l) l).length ≤ l.length + ps.length ∧
    ((ps.foldl (fun l p => lput p.1 p.2 l) l).length = l.length + ps.length → ((l ++ ps).map Prod.fst).Nodup) ∧ (((l ++ ps).map Prod.fst).Nodup → ps.foldl (fun l p => lput p.1 p.2 l) l = l ++ ps)
  | [], l, h => by simp [h]
  | p :: ps, l, h => by
    rw [List.foldl_cons]
    have ih := foldl_length ps (lput p.1 p.2 l) (nodup_put _ _ l h)
    by_cases hk : p.1 ∈ l.map Prod.fst
    · have hl := lput_old (x := p.2) hk
      refine ⟨by have := ih.1; rw [hl] at this; simp; omega, fun e => ?_, fun e => ?_⟩
      · have := ih.1; rw [hl] at this; simp at e; omega
      · rw [List.map_append, List.nodup_append] at e
        exact absurd rfl (e.2.2 _ hk p.1 (by simp))
    · have hl : (lput p.1 p.2 l) = l ++ [p] := lput_new hk
      rw [hl] at ih ⊢
      rw [List.append_assoc] at ih
      refine ⟨by have := ih.1; simp at this ⊢; omega, fun e => ih.2.1 (by simp at e ⊢; omega), fun e => ih.2.2 e⟩
theorem atL_length (ps : List (κ × ν)) : (atL ps).length ≤ ps.length ∧ ((atL ps).length = ps.length ↔ (ps.map Prod.fst).Nodup) ∧ ((ps.map Prod.fst).Nodup → atL ps = ps) := by
  have h := foldl_length ps [] (by simp)
  simp only [List.length_nil, Nat.zero_add, List.nil_append] at h
  exact ⟨h.1, ⟨h.2.1, fun e => by unfold atL; rw [h.2.2 e]⟩, h.2.2⟩
theorem lval_mem {k : κ} {x : ν} : ∀ {l : List (κ × ν)}, (l.map Prod.fst).Nodup → (k, x) ∈ l → lval k l = some x
  | p :: l, hn, h => by
    rw [List.map_cons, List.nodup_cons] at hn
    rw [lval_cons]
    rcases List.mem_cons.1 h with rfl | h
    · simp
    · rw [if_neg]
      · exact lval_mem hn.2 h
      · intro e
        exact hn.1 (List.mem_map.2 ⟨_, h, by rw [← e]⟩)
end

/-- The places by names: -1 of sources. -/
def atPs (g : GrR) : List (Nm × Int) := g.srcs.map (fun s => (s, (-1 : Int))) ++ (List.range g.acts.length).map (fun i => (nameAt g i, (i : Int)))
theorem atPs_keys (g : GrR) : (atPs g).map Prod.fst = namesL g := by
  unfold atPs namesL
  rw [List.map_append, List.map_map, List.map_map]
  congr 1
  · calc g.srcs.map (Prod.fst ∘ fun s => (s, (-1 : Int))) = g.srcs.map id := List.map_congr_left (fun _ _ => rfl)
      _ = g.srcs := List.map_id _
  · apply List.ext_getElem
    · simp
    · intro i h1 h2
      simp only [List.length_map, List.length_range] at h1
      simp only [List.getElem_map, List.getElem_range, Function.comp]
      exact nameAt_lt g i h1
theorem atPs_length (g : GrR) : (atPs g).length = g.srcs.length + g.acts.length := by unfold atPs; simp
theorem atPs_src (g : GrR) (k : Nat) (h : k < g.srcs.length) : (atPs g)[k]'(by rw [atPs_length]; omega) = (g.srcs[k], -1) := by
  unfold atPs
  rw [List.getElem_append_left (by simpa using h)]
  simp
theorem atPs_act (g : GrR) (k : Nat) (h : k < g.acts.length) : (atPs g)[g.srcs.length + k]'(by rw [atPs_length]; omega) = (nameAt g k, (k : Int)) := by
  unfold atPs
  rw [List.getElem_append_right (by simp)]
  simp
/-- What the map of places holds. -/
def atV (g : GrR) (s : Nm) : Option Int := match placeOf g s with
  | some i => some (i : Int)
  | none => if s ∈ g.srcs then some (-1) else none
theorem Wov.at {g : GrR} (h : Wov g) (s : Nm) : lval s (atL (atPs g)) = atV g s := by
  have hn : ((atPs g).map Prod.fst).Nodup := by rw [atPs_keys]; exact h.nd
  rw [(atL_length (atPs g)).2.2 hn]
  unfold atV
  cases hp : placeOf g s with
  | some i =>
    obtain ⟨hi, e⟩ := placeOf_some hp
    refine lval_mem hn ?_
    have := List.getElem_mem (l := atPs g) (n := g.srcs.length + i) (by rw [atPs_length]; omega)
    rwa [atPs_act g i hi, e] at this
  | none =>
    by_cases hs : s ∈ g.srcs
    · simp only [hs, if_true]
      refine lval_mem hn ?_
      obtain ⟨k, hk, rfl⟩ := List.mem_iff_getElem.1 hs
      have := List.getElem_mem (l := atPs g) (n := k) (by rw [atPs_length]; omega)
      rwa [atPs_src g k hk] at this
    · simp only [hs, if_false]
      rw [lval_none]
      intro p hp2 e
      have : s ∈ namesL g := by rw [← atPs_keys]; exact List.mem_map.2 ⟨p, hp2, e⟩
      rcases mem_names.1 this with h1 | ⟨i, hi, e2⟩
      · exact hs h1
      · exact placeOf_none hp i hi e2
theorem dup_length (g : GrR) : (atL (atPs g)).length = g.srcs.length + g.acts.length ↔ dupB g = false := by
  have h := atL_length (atPs g)
  rw [← atPs_length, h.2.1, atPs_keys]
  unfold dupB
  simp

theorem at_isSome (g : GrR) (s : Nm) : (lval s (atL (atPs g))).isSome = (namesL g).contains s := by
  have h := keys_foldl (atPs g) [] s
  rw [atPs_keys] at h
  simp only [List.map_nil, List.not_mem_nil, false_or] at h
  cases hl : lval s (atL (atPs g)) with
  | none =>
    rw [lval_none] at hl
    have : s ∉ namesL g := fun hs => by
      obtain ⟨p, hp, e⟩ := List.mem_map.1 (h.2 hs)
      exact hl p hp e
    simp [this]
  | some x =>
    have : s ∈ namesL g := by
      apply h.1
      by_cases hc : s ∈ (List.foldl (fun l p => lput p.1 p.2 l) [] (atPs g)).map Prod.fst
      · exact hc
      · exfalso
        have h2 : lval s (atL (atPs g)) = none := lval_none.2 (fun p hp e => hc (List.mem_map.2 ⟨p, hp, e⟩))
        rw [hl] at h2; cases h2
    simp [this]

/-- Block b holds the build g by its names. -/
structure WebAt (w : World) (b : Nat) (g : GrR) (sv av : Value) (iv : Nat → Value) (r : Nat) (l : List (Nm × Int)) : Prop where
  blk : w.heap[b]? = some (.cells #[sv, av, .map (some r)] 150 (0, 0))
  srcs : NamesAt w sv g.srcs
  acts : ActsAt w av g.acts iv
  map : MapL w r nmV intV l
  look : ∀ s, lval s l = atV g s
theorem WebAt.chg {F : Nat → Prop} {w w' : World} {b : Nat} {g : GrR} {sv av : Value} {iv : Nat → Value} {r : Nat} {l : List (Nm × Int)} (h : WebAt w b g sv av iv r l) (hc : Chg F w w') (hF : ∀ k, k < w.heap.size → ¬ F k) : WebAt w' b g sv av iv r l :=
  ⟨hc.obj h.blk (hF _ (heap_lt h.blk)), h.srcs.chg hc hF, h.acts.chg hc hF, h.map.chg hc (hF _ h.map.lt), h.look⟩
def IsWeb (w : World) (b : Nat) (g : GrR) : Prop := ∃ sv av iv r l, WebAt w b g sv av iv r l
theorem IsWeb.chg {F : Nat → Prop} {w w' : World} {b : Nat} {g : GrR} (h : IsWeb w b g) (hc : Chg F w w') (hF : ∀ k, k < w.heap.size → ¬ F k) : IsWeb w' b g := by
  obtain ⟨sv, av, iv, r, l, h⟩ := h
  exact ⟨sv, av, iv, r, l, h.chg hc hF⟩
end Go.Proofs.YthglfmacjoecgaaGreatDoor
namespace Go.Proofs.YthglfmacjoecgaaGreatDoor
open Go

abbrev ResR := Int × ByteArray
abbrev SrcR := Nm × ByteArray
def noRes : ResR := (0, ByteArray.empty)
def codeAt (g : GrR) (i : Nat) : List UInt8 := (g.acts.getD i noAct).code
theorem codeAt_lt (g : GrR) (i : Nat) (h : i < g.acts.length) : codeAt g i = g.acts[i].code := by unfold codeAt; rw [getD_of_lt _ _ _ h]

section
variable (F : List UInt8 → List ResR → ResR) (g : GrR)
/-- What lies under a name. -/
def valT (t : List (Nm × ResR)) (s : Nm) : ResR := (lval s t).getD noRes
def insT2 (t : List (Nm × ResR)) (i : Nat) : List ResR := (insAt g i).map (valT t)
def stepT (t : List (Nm × ResR)) (i : Nat) : List (Nm × ResR) := lput (nameAt g i) (F (codeAt g i) (insT2 g t i)) t
def srcT (srcs : List SrcR) : List (Nm × ResR) := atL (srcs.map fun s => (s.1, ((0 : Int), s.2)))
def foldT (srcs : List SrcR) (l : List Nat) : List (Nm × ResR) := l.foldl (stepT F g) (srcT srcs)
/-- All that is there in the end. -/
def madeT (srcs : List SrcR) : List (Nm × ResR) := foldT F g srcs (orderR g)

theorem foldT_snoc (srcs : List SrcR) (l : List Nat) (i : Nat) : foldT F g srcs (l ++ [i]) = stepT F g (foldT F g srcs l) i := by unfold foldT; rw [List.foldl_append]; rfl
theorem stepT_val (t : List (Nm × ResR)) (i : Nat) (s : Nm) : lval s (stepT F g t i) = if s = nameAt g i then some (F (codeAt g i) (insT2 g t i)) else lval s t := by
  unfold stepT
  rw [lval_put]
/-- What is not made by these places is as it was. -/
theorem foldl_other : ∀ (l : List Nat) (t : List (Nm × ResR)) (s : Nm), (∀ j ∈ l, nameAt g j ≠ s) → lval s (l.foldl (stepT F g) t) = lval s t
  | [], _, _, _ => rfl
  | i :: l, t, s, h => by
    rw [List.foldl_cons, foldl_other l _ s (fun j hj => h j (by simp [hj])), stepT_val, if_neg (fun e => h i (by simp) e.symm)]
/-- The sources fit the build: just those that it names, each once. -/
structure Fit (srcs : List SrcR) : Prop where
  nd : (srcs.map Prod.fst).Nodup
  mem : ∀ s, s ∈ srcs.map Prod.fst ↔ s ∈ g.srcs
variable {F g}
theorem srcT_eq {srcs : List SrcR} (h : (srcs.map Prod.fst).Nodup) : srcT srcs = srcs.map fun s => (s.1, ((0 : Int), s.2)) := by
  unfold srcT
  refine (atL_length _).2.2 ?_
  rw [List.map_map]
  exact h
theorem srcT_mem {srcs : List SrcR} (h : (srcs.map Prod.fst).Nodup) {s : SrcR} (hs : s ∈ srcs) : lval s.1 (srcT srcs) = some (0, s.2) := by
  rw [srcT_eq h]
  refine lval_mem ?_ (List.mem_map.2 ⟨s, hs, rfl⟩)
  rw [List.map_map]
  exact h
theorem Ordd.left {l : List Nat} {i : Nat} (h : Ordd g (l ++ [i])) : Ordd g l ∧ i ∉ l ∧ i < g.acts.length ∧ ∀ s ∈ insAt g i, s ∈ g.srcs ∨ ∃ j ∈ l, nameAt g j = s := by
  have hn := List.nodup_append.1 h.nd
  refine ⟨⟨hn.1, fun j hj => h.lt j (by simp [hj]), fun k hk s hs => ?_⟩, fun hi => hn.2.2 i hi i (by simp) rfl, h.lt i (by simp), fun s hs => ?_⟩
  · rcases h.sup k (by simp; omega) s (by rw [List.getElem_append_left hk]; exact hs) with h1 | ⟨j, hj, h1⟩
    · exact .inl h1
    · exact .inr ⟨j, hj, by rw [List.getElem_append_left (by omega)] at h1; exact h1⟩
  · rcases h.sup l.length (by simp) s (by rw [List.getElem_append_right (Nat.le_refl _)]; simpa using hs) with h1 | ⟨j, hj, h1⟩
    · exact .inl h1
    · exact .inr ⟨l[j], List.getElem_mem hj, by rw [List.getElem_append_left hj] at h1; exact h1⟩
/-- What lies under the names of a prefix of the order is there in the end. -/
theorem foldl_keep (hw : Wov g) {l m : List Nat} (ho : Ordd g (l ++ m)) (srcs : List SrcR) {s : Nm} (hs : s ∈ g.srcs ∨ ∃ j ∈ l, nameAt g j = s) : lval s (foldT F g srcs (l ++ m)) = lval s (foldT F g srcs l) := by
  unfold foldT
  rw [List.foldl_append]
  refine foldl_other F g m _ s (fun j hj e => ?_)
  have hj2 := ho.lt j (by simp [hj])
  rcases hs with h | ⟨q, hq, h⟩
  · exact hw.apart hj2 (e ▸ h)
  · have := hw.inj (ho.lt q (by simp [hq])) hj2 (h.trans e.symm)
    subst this
    exact (List.nodup_append.1 ho.nd).2.2 q hq q hj rfl
end
end Go.Proofs.YthglfmacjoecgaaGreatDoor
