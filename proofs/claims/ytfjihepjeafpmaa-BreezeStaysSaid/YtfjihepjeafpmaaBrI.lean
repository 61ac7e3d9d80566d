/- BreezeStays: the walk. -/
import Derived.Test.YtfjihepjeafpmaaBrG
namespace Go.Proofs.Ytfjihepjeafpmaa
open Go.RowKit

def stLd (ss : List ByteArray) (i : Nat) : Ld := ⟨1, 2, ss.getD i ByteArray.empty, false⟩
def stFl (ss : List ByteArray) (k : Nat) : Ld := if 0 < (ss.getD k ByteArray.empty).size then ⟨1, 2, flipS (ss.getD k ByteArray.empty) 0 1, true⟩ else stLd ss k
/-- What comes at place i of the row, after what was done at place k (c 0: taken, 1: copied, 2: turned). -/
def stAt (c : Nat) (ss : List ByteArray) (k i : Nat) : List Ld := if i = k then (if c = 0 then [] else if c = 1 then [stLd ss k] else [stFl ss k]) else [stLd ss i]
def stRest (c : Nat) (ss : List ByteArray) (k i : Nat) : List Ld := (List.range' i (ss.length - i)).flatMap (stAt c ss k) ++ (if c = 1 then [stLd ss k] else [])
theorem stRest_lt (c : Nat) (ss : List ByteArray) (k i : Nat) (h : i < ss.length) : stRest c ss k i = stAt c ss k i ++ stRest c ss k (i + 1) := by
  unfold stRest
  rw [show ss.length - i = (ss.length - (i + 1)) + 1 from by omega, List.range'_succ, List.flatMap_cons, List.append_assoc]
theorem stRest_end (c : Nat) (ss : List ByteArray) (k : Nat) : stRest c ss k ss.length = if c = 1 then [stLd ss k] else [] := by
  simp [stRest]
def stLs (ss : List ByteArray) (n : Nat) : List Ld := (List.range n).map (stLd ss)
theorem stLs_len (ss : List ByteArray) (k : Nat) : (stLs ss k).length = k := by simp [stLs]
theorem stLs_succ (ss : List ByteArray) (k : Nat) (h : k < ss.length) : stLs ss (k + 1) = stLs ss k ++ [⟨1, 2, ss[k], false⟩] := by
  simp [stLs, stLd, List.range_succ, List.getD_eq_getElem?_getD, h]
theorem flatMap_one {α β : Type} (f : α → β) (g : α → List β) : ∀ (l : List α), (∀ x ∈ l, g x = [f x]) → l.flatMap g = l.map f
  | [], _ => rfl
  | x :: l, h => by
    rw [List.flatMap_cons, List.map_cons, h x (by simp), flatMap_one f g l (fun y hy => h y (by simp [hy]))]; rfl
theorem stLs_parts (ss : List ByteArray) (n k : Nat) (h : k < n) : stLs ss n = stLs ss k ++ stLd ss k :: (List.range' (k + 1) (n - (k + 1))).map (stLd ss) := by
  unfold stLs
  rw [List.range_eq_range', List.range_eq_range', show n = k + ((n - (k + 1)) + 1) from by omega, ← List.range'_append_1 (s := 0) (m := k)]
  rw [List.range'_succ, List.map_append, List.map_cons]
  simp only [Nat.zero_add, show k + (n - (k + 1) + 1) - (k + 1) = n - (k + 1) from by omega]
theorem stRest_parts (c : Nat) (ss : List ByteArray) (k : Nat) (h : k < ss.length) :
    stRest c ss k 0 = stLs ss k ++ stAt c ss k k ++ (List.range' (k + 1) (ss.length - (k + 1))).map (stLd ss) ++ (if c = 1 then [stLd ss k] else []) := by
  unfold stRest
  congr 1
  rw [show ss.length - 0 = k + ((ss.length - (k + 1)) + 1) from by omega, ← List.range'_append_1 (s := 0) (m := k), List.flatMap_append, List.range'_succ, List.flatMap_cons]
  rw [flatMap_one (stLd ss) _ _ (fun x hx => by have := List.mem_range'_1.1 hx; unfold stAt; rw [if_neg (by omega)])]
  rw [show 0 + k = k from by omega, flatMap_one (stLd ss) _ _ (fun x hx => by have := List.mem_range'_1.1 hx; unfold stAt; rw [if_neg (by omega)])]
  unfold stLs
  rw [List.range_eq_range', List.append_assoc]

theorem stLs_getD (ss : List ByteArray) (n k : Nat) (h : k < n) : (stLs ss n).getD k Ld.none = stLd ss k := by
  simp [stLs, h]
theorem stLd_at (ss : List ByteArray) (k : Nat) (h : k < ss.length) : stLd ss k = ⟨1, 2, ss[k], false⟩ := by
  simp [stLd, List.getD_eq_getElem?_getD, h]
theorem takeLd_cons (x : Ld) (r : List Ld) : takeLd (x :: r) 0 = x := by
  have : isB (x :: r) 0 = true := by simp [isB]
  unfold takeLd; rw [if_pos this]; rfl
theorem takeLs_cons (x : Ld) (r : List Ld) : takeLs (x :: r) 0 = r := by
  have : isB (x :: r) 0 = true := by simp [isB]
  unfold takeLs; rw [if_pos this]; rfl
theorem isB_cons (x : Ld) (r : List Ld) : isB (x :: r) 0 = true := by simp [isB]
theorem stRest0 (ss : List ByteArray) (k : Nat) (h : k < ss.length) : takeLs (stLs ss ss.length) k = stRest 0 ss k 0 := by
  have hb : isB (stLs ss ss.length) k = true := by simp [isB, stLs_len]; omega
  unfold takeLs
  rw [if_pos hb, stRest_parts 0 ss k h, stLs_parts ss ss.length k h]
  have hl := stLs_len ss k
  rw [show ((k : Int).toNat) = k from by omega, List.eraseIdx_append_of_length_le (by omega), hl]
  simp [stAt]
theorem stRest1 (ss : List ByteArray) (k : Nat) (h : k < ss.length) (hn : ss.length ≤ 100) : copyLs (stLs ss ss.length) k = stRest 1 ss k 0 := by
  have hb : copyB (stLs ss ss.length) k = true := by simp [copyB, isB, stLs_len]; omega
  unfold copyLs
  rw [if_pos hb, stRest_parts 1 ss k h, show ((k : Int).toNat) = k from by omega, stLs_getD ss _ k h, stLs_parts ss ss.length k h]
  simp [stAt]
theorem stRest2 (ss : List ByteArray) (k : Nat) (h : k < ss.length) : flipLs (stLs ss ss.length) k 0 1 = stRest 2 ss k 0 := by
  have hb : isB (stLs ss ss.length) k = true := by simp [isB, stLs_len]; omega
  have hg := stLs_getD ss _ k h
  have hk : ((k : Int).toNat) = k := by omega
  have hr : flipR (stLs ss ss.length) k 0 1 = flipRes (stLd ss k) 0 1 := by unfold flipR; rw [if_pos hb, hk, hg]
  unfold flipLs
  rw [hr, hk, hg, stRest_parts 2 ss k h, stLs_parts ss ss.length k h]
  have hl := stLs_len ss k
  by_cases hs : 0 < (ss.getD k ByteArray.empty).size
  · have e : flipRes (stLd ss k) 0 1 = 0 := by unfold flipRes stLd; rw [if_neg (by simp), if_neg (by simp only []; omega)]
    have e2 : stFl ss k = ⟨1, 2, flipS (ss.getD k ByteArray.empty) 0 1, true⟩ := by unfold stFl; rw [if_pos hs]
    rw [if_pos e, List.set_append_right _ _ (by omega), hl]
    simp [stAt, e2]
    simp [stLd]
  · have e : flipRes (stLd ss k) 0 1 = 1 := by unfold flipRes stLd; rw [if_neg (by simp), if_pos (by simp only []; omega)]
    rw [if_neg (by rw [e]; decide)]
    have e2 : stFl ss k = stLd ss k := by unfold stFl; rw [if_neg hs]
    simp [stAt, e2]

set_option maxRecDepth 100000 in
set_option maxHeartbeats 2000000 in
theorem stays_walk (w : World) (v : Value) (ss : List ByteArray) (hS : StrsAt w v ss) (at_ what : Int) (c : Nat) (hc : c = 0 ∨ c = 1 ∨ c = 2) (hw : (IntKind.u64.wrap what).tmod 3 = c) (kk : Nat) (hkk : wrap64 ((IntKind.u64.wrap at_).tmod ss.length) = kk) (hkl : kk < ss.length) (h0 : 0 < ss.length) (hn : ss.length ≤ 100) :
    Calls Try.prog 4 #[v, .int .i64 at_, .int .i64 what] w (Rets (.bool true) (fun w' => Chg (fun _ => False) w w')) := by
  have hlen := hS.len (P := Try.prog) Try.underlying22
  have hn' : (ss.length : Int) ≤ 100 := by omega
  have h0' : ((ss.length : Int) == 0) = false := by simp; intro h; rw [h] at h0; exact absurd h0 (by simp)
  have HW := hid hw
  have HK := hid hkk
  clear hw hkk
  go_enter Try.func4, Try.ntmps4
  go_wp2_with (first | (go_at_call 8; refine (awake_any _).mono ?_; rintro e w1 ⟨rfl, hc1⟩) | (go_at_call 9; refine (new_in _).mono ?_; rintro e w2 ⟨rfl, hB2, hc2⟩))
  have hst2 : InPost w1.heap.size w1 (w1.heap.size + 1) w1.heap.size (stLs ss 0) [] w2 := ⟨hB2, hc2.mono (fun _ _ h => h.elim)⟩
  clear hB2 hc2
  go_loopw [8] (fun i wr => ∃ k : Nat, k ≤ ss.length ∧ i = .int .i64 k ∧ InPost w1.heap.size w1 (w1.heap.size + 1) w1.heap.size (stLs ss k) [] wr) (fun i _ => ss.length - (intOf i).toNat)
  case atStart => exact ⟨0, Nat.zero_le _, rfl, hst2⟩
  case round =>
    obtain ⟨k, hk, rfl, hI, hC⟩ := hrel
    have hol := stLs_len ss k
    by_cases hkn : k < ss.length
    · obtain ⟨a, hix, hca, hlt⟩ := hS.ix (P := Try.prog) Try.underlying22 sz9 k hkn
      have hca2 := hC.cell (hc1.cell hca (fun h => h)) (by simp; have := hc1.size; omega)
      have hsz := hS.2.2 ss[k] (List.getElem_mem _)
      unfold maxLen at hsz
      have hkn' : (k : Int) < ss.length := by omega
      by_cases hbig : ss[k].size ≤ 4096
      · have hbig' : (ss[k].size : Int) ≤ 4096 := by omega
        have hput : putRes (stLs ss k) 1 2 ss[k] = 0 := by
          unfold putRes
          rw [if_neg (by simp [pairB]; omega), if_neg (by omega)]
        have hls : putLs (stLs ss k) 1 2 ss[k] = stLs ss (k + 1) := by
          unfold putLs; rw [if_pos hput, stLs_succ ss k hkn]
        have HL := hid hls
        clear hls hol
        go_wp2_with (go_at_call 10; refine (put_in hI 1 2 ss[k] (by omega)).mono ?_; rintro e w3 ⟨rfl, hI3⟩)
        go_roundw
        case rel => exact ⟨k + 1, by omega, by go_num, by rw [← HL.out]; exact hI3.1, hC.upto hI3.2 (fun _ h => h)⟩
        case measure => simp [intOf]; omega
      · have hbig' : 4096 < (ss[k].size : Int) := by omega
        go_wp2_with fail
        go_ret
        exact ⟨rfl, hc1.trans hC (fun i hi h => by have := hc1.size; omega)⟩
    · obtain rfl : k = ss.length := by omega
      have hkk := HK.out
      have hw := HW.out
      have hkl' : (kk : Int) < ss.length := by omega
      rcases hc with rfl | rfl | rfl
      · simp only [Int.natCast_zero] at hw
        go_wp2_with (go_at_call 11; refine (take_in hI kk).mono ?_; rintro e w3 ⟨rfl, hI3⟩; rw [stRest0 ss kk hkl] at hI3)
        have hst3 : InPost w1.heap.size w1 (w1.heap.size + 1) w1.heap.size (stRest 0 ss kk 0) [] w3 := ⟨hI3.1, hC.upto hI3.2 (fun _ h => h)⟩
        clear hI3 hI hC hst2 hol
        go_loopw [10] (fun i wr => ∃ k : Nat, k ≤ ss.length ∧ i = .int .i64 k ∧ InPost w1.heap.size w1 (w1.heap.size + 1) w1.heap.size (stRest 0 ss kk k) [] wr) (fun i _ => ss.length - (intOf i).toNat)
        case atStart => exact ⟨0, Nat.zero_le _, rfl, hst3⟩
        case round =>
          obtain ⟨k, hk, rfl, hI, hC⟩ := hrel
          by_cases hkn : k < ss.length
          · have hkn' : (k : Int) < ss.length := by omega
            rw [stRest_lt 0 ss kk k hkn] at hI
            by_cases hkk2 : k = kk
            · have hkk3 : ((k : Int) == (kk : Int)) = true := by simp; omega
              have e : stAt 0 ss kk k = [] := by unfold stAt; rw [if_pos hkk2, if_pos rfl]
              rw [e, List.nil_append] at hI
              clear e hkk2
              go_wp2_with fail
              go_roundw
              case rel => exact ⟨k + 1, by omega, by go_num, hI, hC⟩
              case measure => simp [intOf]; omega
            · have hkk3 : ((k : Int) == (kk : Int)) = false := by simp; omega
              have hkk4 : ((k : Int) != (kk : Int)) = true := by simp; omega
              obtain ⟨a, hix, hca, hlt⟩ := hS.ix (P := Try.prog) Try.underlying22 sz9 k hkn
              have e : stAt 0 ss kk k = [⟨1, 2, ss[k], false⟩] := by unfold stAt; rw [if_neg hkk2, stLd_at ss k hkn]
              rw [e, List.singleton_append] at hI
              clear e hkk2
              go_wp2_with (go_at_call 11; refine (take_in hI 0).mono ?_; rintro e w4 ⟨rfl, hI4⟩; rw [isB_cons, takeLd_cons]; rw [takeLs_cons] at hI4; unfold Ld.val)
              have hC4 := hC.upto hI4.2 (fun _ h => h)
              have hca4 := hC4.cell (hc1.cell hca (fun h => h)) (by simp; have := hc1.size; omega)
              have hlt4 : a.block < w4.heap.size := by have := hC4.size; have := hc1.size; omega
              go_quiet (fail)
              go_wp2_with fail
              go_roundw
              case rel => first | exact ⟨k + 1, by omega, by go_num, hI4.1.chg (((Chg.refl _ w4).alloc _).drewN nq), (hC4.alloc _).drewN nq⟩ | exact ⟨_, ⟨k + 1, by omega, by go_num, hI4.1.chg (((Chg.refl _ w4).alloc _).drewN nq), (hC4.alloc _).drewN nq⟩, rfl⟩ | exact ⟨_, _, ⟨k + 1, by omega, by go_num, hI4.1.chg (((Chg.refl _ w4).alloc _).drewN nq), (hC4.alloc _).drewN nq⟩, rfl⟩ | ((repeat apply Exists.intro); exact ⟨⟨k + 1, by omega, by go_num, hI4.1.chg (((Chg.refl _ w4).alloc _).drewN nq), (hC4.alloc _).drewN nq⟩, rfl⟩)
              case measure => simp [intOf]; omega
          · obtain rfl : k = ss.length := by omega
            rw [stRest_end] at hI
            rw [if_neg (by decide)] at hI
            go_wp2_with (go_at_call 11; refine (take_in hI 0).mono ?_; rintro e w4 ⟨rfl, hI4⟩; rw [show isB ([] : List Ld) 0 = false from rfl, show takeLd [] 0 = Ld.none from rfl]; unfold Ld.val Ld.none)
            have hC4 := hC.upto hI4.2 (fun _ h => h)
            go_quiet (fail)
            go_wp2_with fail
            go_ret
            exact ⟨rfl, (hc1.trans ((hC4.alloc _).drewN nq) (fun i hi h => by have := hc1.size; omega))⟩
      · simp only [Int.natCast_one] at hw
        go_wp2_with (go_at_call 12; refine (copy_in hI kk).mono ?_; rintro e w3 ⟨rfl, hI3⟩; rw [stRest1 ss kk hkl hn] at hI3)
        have hst3 : InPost w1.heap.size w1 (w1.heap.size + 1) w1.heap.size (stRest 1 ss kk 0) [] w3 := ⟨hI3.1, hC.upto hI3.2 (fun _ h => h)⟩
        clear hI3 hI hC hst2 hol
        go_loopw [10] (fun i wr => ∃ k : Nat, k ≤ ss.length ∧ i = .int .i64 k ∧ InPost w1.heap.size w1 (w1.heap.size + 1) w1.heap.size (stRest 1 ss kk k) [] wr) (fun i _ => ss.length - (intOf i).toNat)
        case atStart => exact ⟨0, Nat.zero_le _, rfl, hst3⟩
        case round =>
          obtain ⟨k, hk, rfl, hI, hC⟩ := hrel
          by_cases hkn : k < ss.length
          · have hkn' : (k : Int) < ss.length := by omega
            rw [stRest_lt 1 ss kk k hkn] at hI
            by_cases hkk2 : k = kk
            · have hkk3 : ((k : Int) == (kk : Int)) = true := by simp; omega
              have hkk4 : ((k : Int) != (kk : Int)) = false := by simp; omega
              obtain ⟨x, hx, hx1, hx2⟩ : ∃ x, stAt 1 ss kk k = [x] ∧ x.fr = 1 ∧ x.to = 2 := ⟨stLd ss kk, by unfold stAt; rw [if_pos hkk2]; rfl, rfl, rfl⟩
              rw [hx, List.singleton_append] at hI
              obtain ⟨xf, xt, xb, xl⟩ := x
              simp only at hx1 hx2
              subst hx1 hx2
              clear hx hkk2
              go_wp2_with (go_at_call 11; refine (take_in hI 0).mono ?_; rintro e w4 ⟨rfl, hI4⟩; rw [isB_cons, takeLd_cons]; rw [takeLs_cons] at hI4; unfold Ld.val)
              have hC4 := hC.upto hI4.2 (fun _ h => h)
              go_quiet (fail)
              go_wp2_with fail
              go_roundw
              case rel => exact ⟨k + 1, by omega, by go_num, hI4.1.chg (((Chg.refl _ w4).alloc _).drewN nq), (hC4.alloc _).drewN nq⟩
              case measure => simp [intOf]; omega
            · have hkk3 : ((k : Int) == (kk : Int)) = false := by simp; omega
              have hkk4 : ((k : Int) != (kk : Int)) = true := by simp; omega
              obtain ⟨a, hix, hca, hlt⟩ := hS.ix (P := Try.prog) Try.underlying22 sz9 k hkn
              have e : stAt 1 ss kk k = [⟨1, 2, ss[k], false⟩] := by unfold stAt; rw [if_neg hkk2, stLd_at ss k hkn]
              rw [e, List.singleton_append] at hI
              clear e hkk2
              go_wp2_with (go_at_call 11; refine (take_in hI 0).mono ?_; rintro e w4 ⟨rfl, hI4⟩; rw [isB_cons, takeLd_cons]; rw [takeLs_cons] at hI4; unfold Ld.val)
              have hC4 := hC.upto hI4.2 (fun _ h => h)
              have hca4 := hC4.cell (hc1.cell hca (fun h => h)) (by simp; have := hc1.size; omega)
              have hlt4 : a.block < w4.heap.size := by have := hC4.size; have := hc1.size; omega
              go_quiet (fail)
              go_wp2_with fail
              go_roundw
              case rel => exact ⟨k + 1, by omega, by go_num, hI4.1.chg (((Chg.refl _ w4).alloc _).drewN nq), (hC4.alloc _).drewN nq⟩
              case measure => simp [intOf]; omega
          · obtain rfl : k = ss.length := by omega
            rw [stRest_end] at hI
            rw [if_pos rfl, stLd_at ss kk hkl] at hI
            obtain ⟨a, hix, hca, hlt⟩ := hS.ix (P := Try.prog) Try.underlying22 sz9 kk hkl
            go_wp2_with (go_at_call 11; refine (take_in hI 0).mono ?_; rintro e w4 ⟨rfl, hI4⟩; rw [isB_cons, takeLd_cons]; rw [takeLs_cons] at hI4; unfold Ld.val)
            have hC4 := hC.upto hI4.2 (fun _ h => h)
            have hca4 := hC4.cell (hc1.cell hca (fun h => h)) (by simp; have := hc1.size; omega)
            have hlt4 : a.block < w4.heap.size := by have := hC4.size; have := hc1.size; omega
            go_quiet (fail)
            go_wp2_with fail
            go_ret
            exact ⟨rfl, (hc1.trans ((hC4.alloc _).drewN nq) (fun i hi h => by have := hc1.size; omega))⟩
      · have hw2 : (IntKind.u64.wrap what).tmod 3 = 2 := hw
        clear hw
        go_wp2_with (go_at_call 13; refine (flip_in hI kk 0 1).mono ?_; rintro e w3 ⟨rfl, hI3⟩; rw [stRest2 ss kk hkl] at hI3)
        have hst3 : InPost w1.heap.size w1 (w1.heap.size + 1) w1.heap.size (stRest 2 ss kk 0) [] w3 := ⟨hI3.1, hC.upto hI3.2 (fun _ h => h)⟩
        clear hI3 hI hC hst2 hol
        go_loopw [10] (fun i wr => ∃ k : Nat, k ≤ ss.length ∧ i = .int .i64 k ∧ InPost w1.heap.size w1 (w1.heap.size + 1) w1.heap.size (stRest 2 ss kk k) [] wr) (fun i _ => ss.length - (intOf i).toNat)
        case atStart => exact ⟨0, Nat.zero_le _, rfl, hst3⟩
        case round =>
          obtain ⟨k, hk, rfl, hI, hC⟩ := hrel
          by_cases hkn : k < ss.length
          · have hkn' : (k : Int) < ss.length := by omega
            rw [stRest_lt 2 ss kk k hkn] at hI
            by_cases hkk2 : k = kk
            · have hkk3 : ((k : Int) == (kk : Int)) = true := by simp; omega
              have hkk4 : ((k : Int) != (kk : Int)) = false := by simp; omega
              obtain ⟨x, hx, hx1, hx2⟩ : ∃ x, stAt 2 ss kk k = [x] ∧ x.fr = 1 ∧ x.to = 2 := ⟨stFl ss kk, by unfold stAt; rw [if_pos hkk2]; rfl, by unfold stFl; split <;> rfl, by unfold stFl; split <;> rfl⟩
              rw [hx, List.singleton_append] at hI
              obtain ⟨xf, xt, xb, xl⟩ := x
              simp only at hx1 hx2
              subst hx1 hx2
              clear hx hkk2
              go_wp2_with (go_at_call 11; refine (take_in hI 0).mono ?_; rintro e w4 ⟨rfl, hI4⟩; rw [isB_cons, takeLd_cons]; rw [takeLs_cons] at hI4; unfold Ld.val)
              have hC4 := hC.upto hI4.2 (fun _ h => h)
              go_quiet (fail)
              go_wp2_with fail
              go_roundw
              case rel => exact ⟨k + 1, by omega, by go_num, hI4.1.chg (((Chg.refl _ w4).alloc _).drewN nq), (hC4.alloc _).drewN nq⟩
              case measure => simp [intOf]; omega
            · have hkk3 : ((k : Int) == (kk : Int)) = false := by simp; omega
              have hkk4 : ((k : Int) != (kk : Int)) = true := by simp; omega
              obtain ⟨a, hix, hca, hlt⟩ := hS.ix (P := Try.prog) Try.underlying22 sz9 k hkn
              have e : stAt 2 ss kk k = [⟨1, 2, ss[k], false⟩] := by unfold stAt; rw [if_neg hkk2, stLd_at ss k hkn]
              rw [e, List.singleton_append] at hI
              clear e hkk2
              go_wp2_with (go_at_call 11; refine (take_in hI 0).mono ?_; rintro e w4 ⟨rfl, hI4⟩; rw [isB_cons, takeLd_cons]; rw [takeLs_cons] at hI4; unfold Ld.val)
              have hC4 := hC.upto hI4.2 (fun _ h => h)
              have hca4 := hC4.cell (hc1.cell hca (fun h => h)) (by simp; have := hc1.size; omega)
              have hlt4 : a.block < w4.heap.size := by have := hC4.size; have := hc1.size; omega
              go_quiet (fail)
              go_wp2_with fail
              go_roundw
              case rel => exact ⟨k + 1, by omega, by go_num, hI4.1.chg (((Chg.refl _ w4).alloc _).drewN nq), (hC4.alloc _).drewN nq⟩
              case measure => simp [intOf]; omega
          · obtain rfl : k = ss.length := by omega
            rw [stRest_end] at hI
            rw [if_neg (by decide)] at hI
            go_wp2_with (go_at_call 11; refine (take_in hI 0).mono ?_; rintro e w4 ⟨rfl, hI4⟩; rw [show isB ([] : List Ld) 0 = false from rfl, show takeLd [] 0 = Ld.none from rfl]; unfold Ld.val Ld.none)
            have hC4 := hC.upto hI4.2 (fun _ h => h)
            go_quiet (fail)
            go_wp2_with fail
            go_ret
            exact ⟨rfl, (hc1.trans ((hC4.alloc _).drewN nq) (fun i hi h => by have := hc1.size; omega))⟩

set_option maxRecDepth 100000 in
set_option maxHeartbeats 1000000 in
theorem stays_short (w : World) (v : Value) (ss : List ByteArray) (hS : StrsAt w v ss) (at_ what : Int) (h : ss.length = 0 ∨ 100 < ss.length) :
    Calls Try.prog 4 #[v, .int .i64 at_, .int .i64 what] w (Rets (.bool true) (fun w' => Chg (fun _ => False) w w')) := by
  have hlen := hS.len (P := Try.prog) Try.underlying22
  rcases h with h | h
  · have h0' : ((ss.length : Int) == 0) = true := by rw [h]; rfl
    clear h
    go_enter Try.func4, Try.ntmps4
    go_wp2_with (go_at_call 8; refine (awake_any _).mono ?_; rintro e w1 ⟨rfl, hc1⟩)
    go_ret
    exact ⟨rfl, hc1⟩
  · have h0' : ((ss.length : Int) == 0) = false := by simp; intro h0; rw [h0] at h; exact absurd h (by simp)
    have h' : 100 < (ss.length : Int) := by omega
    clear h
    go_enter Try.func4, Try.ntmps4
    go_wp2_with (go_at_call 8; refine (awake_any _).mono ?_; rintro e w1 ⟨rfl, hc1⟩)
    go_ret
    exact ⟨rfl, hc1⟩

theorem stays_any (w : World) (v : Value) (ss : List ByteArray) (hS : StrsAt w v ss) (at_ what : Int) :
    Calls Try.prog 4 #[v, .int .i64 at_, .int .i64 what] w (Rets (.bool true) (fun w' => Chg (fun _ => False) w w')) := by
  by_cases h : ss.length = 0 ∨ 100 < ss.length
  · exact stays_short w v ss hS at_ what h
  · have h0 : 0 < ss.length := by omega
    have hn : ss.length ≤ 100 := by omega
    have hw0 : 0 ≤ IntKind.u64.wrap what := by rw [IntKind.wrap_u64]; omega
    have ha0 : 0 ≤ IntKind.u64.wrap at_ := by rw [IntKind.wrap_u64]; omega
    have hw : (IntKind.u64.wrap what).tmod 3 = ((IntKind.u64.wrap what % 3).toNat : Int) := by rw [Int.tmod_eq_emod_of_nonneg hw0]; omega
    have hpos : (0 : Int) < ss.length := by omega
    have hk1 : (IntKind.u64.wrap at_).tmod ss.length = IntKind.u64.wrap at_ % ss.length := Int.tmod_eq_emod_of_nonneg ha0
    have hk2 := Int.emod_nonneg (IntKind.u64.wrap at_) (show (ss.length : Int) ≠ 0 by omega)
    have hk3 := Int.emod_lt_of_pos (IntKind.u64.wrap at_) hpos
    refine stays_walk w v ss hS at_ what (IntKind.u64.wrap what % 3).toNat (by omega) hw ((IntKind.u64.wrap at_) % ss.length).toNat ?_ (by omega) h0 hn
    rw [hk1, IntWalk.wrap64_in _ (by omega)]
    omega
end Go.Proofs.Ytfjihepjeafpmaa
