/- apiaryref08.has, At walked. -/
import Derived.Test.YtafdcmhckpdnbaaDoorTrQ
namespace Go.Proofs.YtafdcmhckpdnbaaDoor
open Go.RowKit

set_option maxRecDepth 100000 in
theorem has_any (v : Value) (l : List Nm) (s : Nm) (w : World) (hl : NamesAt w v l) :
    Calls Tryd.prog 25 #[v, .string (bs s)] w (Rets (.bool (l.contains s)) (fun w' => w = w')) := by
  have hlen := hl.len
  have hmx := hl.le
  unfold maxLen at hmx
  have H := hid hl
  clear hl
  go_enter Tryd.func25, Tryd.ntmps25
  go_wp2_with fail
  go_loopw [5] (fun i wr => ∃ k : Nat, k ≤ l.length ∧ i = .int .i64 k ∧ wr = w ∧ ∀ j (h : j < l.length), j < k → ¬ l[j] = s) (fun i _ => l.length - (intOf i).toNat)
  case atStart => exact ⟨0, Nat.zero_le _, rfl, rfl, fun j _ h => absurd h (Nat.not_lt_zero _)⟩
  case round =>
    obtain ⟨k, hk, rfl, rfl, hall⟩ := hrel
    have HA := hid hall
    clear hall
    by_cases hkn : k < l.length
    · have hkn' : (k : Int) < l.length := by omega
      obtain ⟨ad, hix, hadc, hadb⟩ := H.out.ix k hkn
      by_cases he : l[k] = s
      · have hc : l.contains s = true := by simp; rw [← he]; exact List.getElem_mem hkn
        have HC := hid hc
        rw [he] at hadc
        clear he hc
        generalize bs s = x at *
        go_wp2_with fail
        go_ret
        exact ⟨by rw [HC.out]; rfl, rfl⟩
      · have hne := bs_eq l[k] s
        rw [decide_eq_false he] at hne
        have HE := hid he
        clear he
        generalize bs l[k] = x at *
        generalize bs s = y at *
        go_wp2_with fail
        go_roundw
        case rel =>
          refine ⟨k + 1, by omega, by go_num, by first | rfl | trivial, fun j hj hjk => ?_⟩
          by_cases e : j = k
          · subst e; exact HE.out
          · exact HA.out j hj (by omega)
        case measure => simp [intOf]; omega
    · obtain rfl : k = l.length := by omega
      have hc : l.contains s = false := by
        simp
        intro hm
        obtain ⟨j, hj, e⟩ := List.mem_iff_getElem.1 hm
        exact HA.out j hj hj e
      have HC := hid hc
      clear hc
      go_wp2_with fail
      go_ret
      exact ⟨by rw [HC.out]; rfl, rfl⟩

/-- The place of the action of a name; -1: there is none. -/
def placeZ (g : GrR) (s : Nm) : Int := match placeOf g s with
  | some i => (i : Int)
  | none => -1
set_option maxRecDepth 100000 in
set_option maxHeartbeats 1000000 in
theorem rat_any (g : GrR) (s : Nm) (v : Value) (w : World) (hg : GrAt w v g) :
    Calls Tryd.prog 31 #[v, .string (bs s)] w (Rets (.int .i64 (placeZ g s)) (Chg (fun _ => False) w)) := by
  obtain ⟨oa, c, ob, d, iv, rfl, hs, ha⟩ := hg.form
  have hmx := ha.rows.le
  unfold maxLen at hmx
  have hlen := ha.len
  have hC1 : Chg (fun _ => False) w (w.alloc (.cells #[.slice oa g.srcs.length c, .slice ob g.acts.length d] 25)) := (Chg.refl _ w).alloc _
  have hgb := heap_alloc_new' w (.cells #[.slice oa g.srcs.length c, .slice ob g.acts.length d] 25)
  have HA := hid (ha.chg hC1 (fun _ _ h => h))
  have HC1 := hid hC1
  have HGB := hid hgb
  clear hg hs ha hC1 hgb
  go_enter Tryd.func31, Tryd.ntmps31
  go_wp2_with fail
  generalize w.alloc (.cells #[.slice oa g.srcs.length c, .slice ob g.acts.length d] 25) = W0 at *
  generalize w.heap.size = gb at *
  go_loopw [5] (fun i wr => ∃ k : Nat, k ≤ g.acts.length ∧ i = .int .i64 k ∧ Chg (fun _ => False) W0 wr ∧ ∀ j (h : j < g.acts.length), j < k → ¬ g.acts[j].name = s) (fun i _ => g.acts.length - (intOf i).toNat)
  case atStart => exact ⟨0, Nat.zero_le _, rfl, Chg.refl _ _, fun j _ h => absurd h (Nat.not_lt_zero _)⟩
  case round =>
    obtain ⟨k, hk, rfl, hch, hall⟩ := hrel
    have HAL := hid hall
    have HC := hid hch
    have a1 := cell_of (hch.obj HGB.out (fun h => h)) 1
    simp at a1
    clear hall hch
    by_cases hkn : k < g.acts.length
    · have hkn' : (k : Int) < g.acts.length := by omega
      obtain ⟨bb, oo, hix, hlt, e0, e1, e2, hns, hw1, hw2⟩ := (HA.out.chg HC.out (fun _ _ h => h)).at k hkn
      clear hns hw1 hw2 e1 e2
      by_cases he : g.acts[k].name = s
      · have hp : placeZ g s = k := by
          have : placeOf g s = some k := by
            unfold placeOf
            rw [List.findIdx?_eq_some_iff_getElem]
            exact ⟨hkn, by simp [he], fun j hj => by simp [HAL.out j (by omega) hj]⟩
          unfold placeZ; rw [this]
        have HP := hid hp
        rw [he] at e0
        clear he hp
        generalize bs s = x at *
        go_wp2_with fail
        go_ret
        exact ⟨congrArg (fun z => Ending.returned (.int .i64 z)) HP.out.symm, HC1.out.trans HC.out (fun _ _ h => h)⟩
      · have hne := bs_eq g.acts[k].name s
        rw [decide_eq_false he] at hne
        have HE := hid he
        clear he
        generalize bs g.acts[k].name = x at *
        generalize bs s = y at *
        go_wp2_with fail
        go_roundw
        case rel =>
          refine ⟨k + 1, by omega, by go_num, HC.out, fun j hj hjk => ?_⟩
          by_cases e : j = k
          · subst e; exact HE.out
          · exact HAL.out j hj (by omega)
        case measure => simp [intOf]; omega
    · obtain rfl : k = g.acts.length := by omega
      have hp : placeZ g s = -1 := by
        have : placeOf g s = none := by
          unfold placeOf
          rw [List.findIdx?_eq_none_iff]
          intro a ha
          obtain ⟨j, hj, rfl⟩ := List.mem_iff_getElem.1 ha
          simp [HAL.out j hj hj]
        unfold placeZ; rw [this]
      have HP := hid hp
      clear hp
      go_wp2_with fail
      go_ret
      exact ⟨congrArg (fun z => Ending.returned (.int .i64 z)) HP.out.symm, HC1.out.trans HC.out (fun _ _ h => h)⟩
end Go.Proofs.YtafdcmhckpdnbaaDoor
