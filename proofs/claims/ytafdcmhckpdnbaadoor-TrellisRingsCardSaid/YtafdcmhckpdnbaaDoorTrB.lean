/- slices.IndexFunc, slices.ContainsFunc at the closures of trellis, their answers given. -/
import Derived.Test.YtafdcmhckpdnbaaDoorReI
import Derived.Test.YtafdcmhckpdnbaaDoorTrA
namespace Go.Proofs.YtafdcmhckpdnbaaDoor
open Go.RowKit

/-- The place of the first one; -1: there is none. -/
def placeI {α : Type} (P : α → Bool) (l : List α) : Int := match l.findIdx? P with
  | some i => (i : Int)
  | none => -1
theorem placeI_none {α : Type} {P : α → Bool} {l : List α} (h : ∀ x ∈ l, P x = false) : placeI P l = -1 := by
  have : l.findIdx? P = none := by rw [List.findIdx?_eq_none_iff]; intro x hx; simp [h x hx]
  unfold placeI; rw [this]
theorem placeI_at {α : Type} {P : α → Bool} {l : List α} (k : Nat) (hk : k < l.length) (h1 : P l[k] = true) (h2 : ∀ j (h : j < l.length), j < k → P l[j] = false) : placeI P l = k := by
  have : l.findIdx? P = some k := by
    rw [List.findIdx?_eq_some_iff_getElem]
    exact ⟨hk, h1, fun j hj => by simp [h2 j (by omega) hj]⟩
  unfold placeI; rw [this]
theorem placeI_neg {α : Type} {P : α → Bool} {l : List α} : placeI P l < 0 ↔ l.any P = false := by
  unfold placeI
  cases h : l.findIdx? P with
  | none =>
    rw [List.findIdx?_eq_none_iff] at h
    have : l.any P = false := by rw [List.any_eq_false]; intro x hx; simp [h x hx]
    simp [this]
  | some i =>
    rw [List.findIdx?_eq_some_iff_getElem] at h
    obtain ⟨hi, hp, _⟩ := h
    have : l.any P = true := by rw [List.any_eq_true]; exact ⟨_, List.getElem_mem hi, hp⟩
    simp [this]

set_option maxRecDepth 100000 in
set_option maxHeartbeats 1000000 in
theorem ixs_waits (p q : Option Addr) (Pn : Nm → Bool) (v : Value) (ss : List Nm) (w : World) (hin : NamesAt w v ss)
    (hf : ∀ s ∈ ss, ∀ W, Chg (fun _ => False) w W → Calls Tryd.prog 38 #[.string (bs s), .pointer p, .pointer q] W (Rets (.bool (Pn s)) (Chg (fun _ => False) W))) :
    Calls Tryd.prog 46 #[v, .func (.func 38) #[] #[.pointer p, .pointer q]] w (Rets (.int .i64 (placeI Pn ss)) (Chg (fun _ => False) w)) := by
  have hlenI := hin.len
  have hmx := hin.le
  unfold maxLen at hmx
  have H := hid hin
  have HF := hid hf
  clear hin hf
  go_enter Tryd.func46, Tryd.ntmps46
  go_wp2_with fail
  go_loopw [8] (fun i wr => ∃ k : Nat, k ≤ ss.length ∧ i = .int .i64 k ∧ Chg (fun _ => False) w wr ∧ ∀ j (h : j < ss.length), j < k → Pn ss[j] = false) (fun i _ => ss.length - (intOf i).toNat)
  case atStart => exact ⟨0, Nat.zero_le _, rfl, Chg.refl _ _, fun j _ h => absurd h (Nat.not_lt_zero _)⟩
  case round =>
    obtain ⟨k, hk, rfl, hch, hall⟩ := hrel
    have HA := hid hall
    have HC := hid hch
    have S2 := H.out.chg hch (fun _ _ h => h)
    clear hall hch
    by_cases hkn : k < ss.length
    · have hkn' : (k : Int) < ss.length := by omega
      obtain ⟨ad, hix, hadc, hadb⟩ := S2.ix k hkn
      have hn := HF.out ss[k] (List.getElem_mem hkn)
      clear S2
      cases hw : Pn ss[k] with
      | false =>
        rw [hw] at hn
        have HW := hid hw
        clear hw
        generalize bs ss[k] = nm at *
        go_wp2_with (go_at_call 38; refine (hn _ HC.out).mono ?_; rintro e w' ⟨rfl, hc⟩)
        go_roundw
        case rel =>
          refine ⟨k + 1, by omega, by go_num, HC.out.trans hc (fun _ _ h => h), fun j hj hjk => ?_⟩
          by_cases e : j = k
          · subst e; exact HW.out
          · exact HA.out j hj (by omega)
        case measure => simp [intOf]; omega
      | true =>
        have hp : placeI Pn ss = k := placeI_at k hkn hw HA.out
        rw [hw] at hn
        have HP := hid hp
        clear hw hp
        generalize bs ss[k] = nm at *
        go_wp2_with (go_at_call 38; refine (hn _ HC.out).mono ?_; rintro e w' ⟨rfl, hc⟩)
        go_ret
        exact ⟨congrArg (fun z => Ending.returned (.int .i64 z)) HP.out.symm, HC.out.trans hc (fun _ _ h => h)⟩
    · obtain rfl : k = ss.length := by omega
      have hp : placeI Pn ss = -1 := placeI_none (fun s hs => by
        obtain ⟨j, hj, rfl⟩ := List.mem_iff_getElem.1 hs
        exact HA.out j hj hj)
      have HP := hid hp
      clear hp S2
      go_wp2_with fail
      go_ret
      exact ⟨congrArg (fun z => Ending.returned (.int .i64 z)) HP.out.symm, HC.out⟩
theorem cfs_waits (p q : Option Addr) (Pn : Nm → Bool) (v : Value) (ss : List Nm) (w : World) (hin : NamesAt w v ss)
    (hf : ∀ s ∈ ss, ∀ W, Chg (fun _ => False) w W → Calls Tryd.prog 38 #[.string (bs s), .pointer p, .pointer q] W (Rets (.bool (Pn s)) (Chg (fun _ => False) W))) :
    Calls Tryd.prog 33 #[v, .func (.func 38) #[] #[.pointer p, .pointer q]] w (Rets (.bool (ss.any Pn)) (Chg (fun _ => False) w)) := by
  have hix := ixs_waits p q Pn v ss w hin hf
  have hneg := placeI_neg (P := Pn) (l := ss)
  clear hin hf
  generalize placeI Pn ss = r at *
  have HN := hid hneg
  clear hneg
  go_enter Tryd.func33, Tryd.ntmps33
  go_wp2_with (go_at_call 46; refine hix.mono ?_; rintro e w' ⟨rfl, hc⟩)
  go_ret
  refine ⟨?_, hc⟩
  have h1 := HN.out
  by_cases h : r < 0
  · rw [h1.1 h]; simp [h]
  · have h2 : ss.any Pn = true := by
      cases h3 : ss.any Pn with
      | true => rfl
      | false => exact absurd (h1.2 h3) h
    rw [h2]; simp; omega
set_option maxRecDepth 100000 in
set_option maxHeartbeats 1000000 in
theorem ixs_hit (p q : Option Addr) (Pn : Nm → Bool) (v : Value) (ss : List Nm) (w : World) (hin : NamesAt w v ss)
    (hf : ∀ s ∈ ss, ∀ W, Chg (fun _ => False) w W → Calls Tryd.prog 34 #[.string (bs s), .pointer p, .pointer q] W (Rets (.bool (Pn s)) (Chg (fun _ => False) W))) :
    Calls Tryd.prog 46 #[v, .func (.func 34) #[] #[.pointer p, .pointer q]] w (Rets (.int .i64 (placeI Pn ss)) (Chg (fun _ => False) w)) := by
  have hlenI := hin.len
  have hmx := hin.le
  unfold maxLen at hmx
  have H := hid hin
  have HF := hid hf
  clear hin hf
  go_enter Tryd.func46, Tryd.ntmps46
  go_wp2_with fail
  go_loopw [8] (fun i wr => ∃ k : Nat, k ≤ ss.length ∧ i = .int .i64 k ∧ Chg (fun _ => False) w wr ∧ ∀ j (h : j < ss.length), j < k → Pn ss[j] = false) (fun i _ => ss.length - (intOf i).toNat)
  case atStart => exact ⟨0, Nat.zero_le _, rfl, Chg.refl _ _, fun j _ h => absurd h (Nat.not_lt_zero _)⟩
  case round =>
    obtain ⟨k, hk, rfl, hch, hall⟩ := hrel
    have HA := hid hall
    have HC := hid hch
    have S2 := H.out.chg hch (fun _ _ h => h)
    clear hall hch
    by_cases hkn : k < ss.length
    · have hkn' : (k : Int) < ss.length := by omega
      obtain ⟨ad, hix, hadc, hadb⟩ := S2.ix k hkn
      have hn := HF.out ss[k] (List.getElem_mem hkn)
      clear S2
      cases hw : Pn ss[k] with
      | false =>
        rw [hw] at hn
        have HW := hid hw
        clear hw
        generalize bs ss[k] = nm at *
        go_wp2_with (go_at_call 34; refine (hn _ HC.out).mono ?_; rintro e w' ⟨rfl, hc⟩)
        go_roundw
        case rel =>
          refine ⟨k + 1, by omega, by go_num, HC.out.trans hc (fun _ _ h => h), fun j hj hjk => ?_⟩
          by_cases e : j = k
          · subst e; exact HW.out
          · exact HA.out j hj (by omega)
        case measure => simp [intOf]; omega
      | true =>
        have hp : placeI Pn ss = k := placeI_at k hkn hw HA.out
        rw [hw] at hn
        have HP := hid hp
        clear hw hp
        generalize bs ss[k] = nm at *
        go_wp2_with (go_at_call 34; refine (hn _ HC.out).mono ?_; rintro e w' ⟨rfl, hc⟩)
        go_ret
        exact ⟨congrArg (fun z => Ending.returned (.int .i64 z)) HP.out.symm, HC.out.trans hc (fun _ _ h => h)⟩
    · obtain rfl : k = ss.length := by omega
      have hp : placeI Pn ss = -1 := placeI_none (fun s hs => by
        obtain ⟨j, hj, rfl⟩ := List.mem_iff_getElem.1 hs
        exact HA.out j hj hj)
      have HP := hid hp
      clear hp S2
      go_wp2_with fail
      go_ret
      exact ⟨congrArg (fun z => Ending.returned (.int .i64 z)) HP.out.symm, HC.out⟩
theorem cfs_hit (p q : Option Addr) (Pn : Nm → Bool) (v : Value) (ss : List Nm) (w : World) (hin : NamesAt w v ss)
    (hf : ∀ s ∈ ss, ∀ W, Chg (fun _ => False) w W → Calls Tryd.prog 34 #[.string (bs s), .pointer p, .pointer q] W (Rets (.bool (Pn s)) (Chg (fun _ => False) W))) :
    Calls Tryd.prog 33 #[v, .func (.func 34) #[] #[.pointer p, .pointer q]] w (Rets (.bool (ss.any Pn)) (Chg (fun _ => False) w)) := by
  have hix := ixs_hit p q Pn v ss w hin hf
  have hneg := placeI_neg (P := Pn) (l := ss)
  clear hin hf
  generalize placeI Pn ss = r at *
  have HN := hid hneg
  clear hneg
  go_enter Tryd.func33, Tryd.ntmps33
  go_wp2_with (go_at_call 46; refine hix.mono ?_; rintro e w' ⟨rfl, hc⟩)
  go_ret
  refine ⟨?_, hc⟩
  have h1 := HN.out
  by_cases h : r < 0
  · rw [h1.1 h]; simp [h]
  · have h2 : ss.any Pn = true := by
      cases h3 : ss.any Pn with
      | true => rfl
      | false => exact absurd (h1.2 h3) h
    rw [h2]; simp; omega
set_option maxRecDepth 100000 in
set_option maxHeartbeats 1000000 in
theorem ixa_ready (p q : Option Addr) (Pn : ActR → Bool) (v : Value) (xs : List ActR) (iv : Nat → Value) (w : World) (hin : ActsAt w v xs iv)
    (hf : ∀ k (h : k < xs.length), ∀ W, Chg (fun _ => False) w W → Calls Tryd.prog 39 #[actV xs[k] (iv k), .pointer p, .pointer q] W (Rets (.bool (Pn xs[k])) (Chg (fun _ => False) W))) :
    Calls Tryd.prog 40 #[v, .func (.func 39) #[] #[.pointer p, .pointer q]] w (Rets (.int .i64 (placeI Pn xs)) (Chg (fun _ => False) w)) := by
  have hlenI := hin.len
  have hmx := hin.rows.le
  unfold maxLen at hmx
  have H := hid hin
  have HF := hid hf
  clear hin hf
  go_enter Tryd.func40, Tryd.ntmps40
  go_wp2_with fail
  go_loopw [8] (fun i wr => ∃ k : Nat, k ≤ xs.length ∧ i = .int .i64 k ∧ Chg (fun _ => False) w wr ∧ ∀ j (h : j < xs.length), j < k → Pn xs[j] = false) (fun i _ => xs.length - (intOf i).toNat)
  case atStart => exact ⟨0, Nat.zero_le _, rfl, Chg.refl _ _, fun j _ h => absurd h (Nat.not_lt_zero _)⟩
  case round =>
    obtain ⟨k, hk, rfl, hch, hall⟩ := hrel
    have HA := hid hall
    have HC := hid hch
    have S2 := H.out.chg hch (fun _ _ h => h)
    clear hall hch
    by_cases hkn : k < xs.length
    · have hkn' : (k : Int) < xs.length := by omega
      obtain ⟨bb, oo, hix, hlt, e0, e1, e2, hns, hw1, hw2⟩ := S2.at k hkn
      have hn := HF.out k hkn
      unfold actV at hn
      clear S2 hns hw1 hw2
      cases hw : Pn xs[k] with
      | false =>
        rw [hw] at hn
        have HW := hid hw
        clear hw
        generalize bs xs[k].name = nm at *
        generalize bs xs[k].code = cd at *
        go_wp2_with (go_at_call 39; refine (hn _ HC.out).mono ?_; rintro e w' ⟨rfl, hc⟩)
        go_roundw
        case rel =>
          refine ⟨k + 1, by omega, by go_num, HC.out.trans hc (fun _ _ h => h), fun j hj hjk => ?_⟩
          by_cases e : j = k
          · subst e; exact HW.out
          · exact HA.out j hj (by omega)
        case measure => simp [intOf]; omega
      | true =>
        have hp : placeI Pn xs = k := placeI_at k hkn hw HA.out
        rw [hw] at hn
        have HP := hid hp
        clear hw hp
        generalize bs xs[k].name = nm at *
        generalize bs xs[k].code = cd at *
        go_wp2_with (go_at_call 39; refine (hn _ HC.out).mono ?_; rintro e w' ⟨rfl, hc⟩)
        go_ret
        exact ⟨congrArg (fun z => Ending.returned (.int .i64 z)) HP.out.symm, HC.out.trans hc (fun _ _ h => h)⟩
    · obtain rfl : k = xs.length := by omega
      have hp : placeI Pn xs = -1 := placeI_none (fun s hs => by
        obtain ⟨j, hj, rfl⟩ := List.mem_iff_getElem.1 hs
        exact HA.out j hj hj)
      have HP := hid hp
      clear hp S2
      go_wp2_with fail
      go_ret
      exact ⟨congrArg (fun z => Ending.returned (.int .i64 z)) HP.out.symm, HC.out⟩
end Go.Proofs.YtafdcmhckpdnbaaDoor
