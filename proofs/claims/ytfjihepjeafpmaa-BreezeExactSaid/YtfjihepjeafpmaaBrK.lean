/- BreezeApart: the walk. -/
import Derived.Test.YtfjihepjeafpmaaBrG
import Derived.Test.YtfjihepjeafpmaaRowsAt
import Derived.Test.YtfjihepjeafpmaaMapsB
import Derived.StillTailTactics
import Derived.Test.YtfjihepjeafpmaaBig
namespace Go.Proofs.Ytfjihepjeafpmaa
open Go.RowKit

theorem encK_comm (x y : Int) : encK x y = encK y x := by
  unfold encK
  by_cases h1 : x < y
  · rw [if_pos h1, if_neg (show ¬ y < x by omega), if_neg (show ¬ y < x by omega), if_pos h1]
  · by_cases h2 : y < x
    · rw [if_pos h2, if_neg h1, if_neg h1, if_pos h2]
    · obtain rfl : x = y := by omega
      rfl
theorem encK_eq (x y p q : Int) : encK x y = encK p q ↔ (x = p ∧ y = q) ∨ (x = q ∧ y = p) := by
  unfold encK
  simp only [Prod.mk.injEq]
  split <;> split <;> split <;> split <;> omega
theorem apartB_val (l : List ((Int × Int) × Bool)) (x y : Int) : apartB l x y = (lval (encK x y) l).getD false := rfl

/-- The map says what the table A of 49 says. -/
structure Tab (A : List Bool) (l : List ((Int × Int) × Bool)) : Prop where
  len : A.length = 49
  nd : (l.map Prod.fst).Nodup
  diag : ∀ x : Int, lval (encK x x) l = none
  eq : ∀ x y : Nat, 1 ≤ x → x ≤ 6 → 1 ≤ y → y ≤ 6 → A.getD (x * 7 + y) false = apartB l x y
theorem tab0 : Tab (List.replicate 49 false) [] := ⟨by simp, by simp, fun _ => rfl, fun x y _ _ _ _ => by
  show (List.replicate 49 false).getD _ false = false
  rw [List.getD_eq_getElem?_getD, List.getElem?_replicate]; split <;> rfl⟩
theorem getD_set (A : List Bool) (i j : Nat) (b : Bool) (h : i < A.length) : (A.set i b).getD j false = if j = i then b else A.getD j false := by
  rw [List.getD_eq_getElem?_getD, List.getD_eq_getElem?_getD, List.getElem?_set]
  by_cases hij : i = j
  · subst hij; simp [h]
  · rw [if_neg hij, if_neg (fun e => hij e.symm)]
theorem Tab.cut {A : List Bool} {l : List ((Int × Int) × Bool)} (h : Tab A l) {x y : Nat} (hx : 1 ≤ x) (hx6 : x ≤ 6) (hy : 1 ≤ y) (hy6 : y ≤ 6) (hne : x ≠ y) : Tab ((A.set (x * 7 + y) true).set (y * 7 + x) true) (cutL l x y) := by
  have hp : pairB (x : Int) y = true := by simp [pairB]; omega
  unfold cutL
  rw [if_pos hp]
  refine ⟨by simp [h.len], nodup_put _ _ _ h.nd, fun z => ?_, fun p q hp1 hp6 hq1 hq6 => ?_⟩
  · rw [lval_put, if_neg (by rw [encK_eq]; omega)]; exact h.diag z
  · have h1 := h.eq p q hp1 hp6 hq1 hq6
    rw [apartB_val] at h1 ⊢
    rw [lval_put, getD_set _ _ _ _ (by simp [h.len]; omega), getD_set _ _ _ _ (by rw [h.len]; omega)]
    by_cases he : encK (p : Int) q = encK (x : Int) y
    · rw [if_pos he]
      rw [encK_eq] at he
      by_cases h2 : p * 7 + q = y * 7 + x
      · rw [if_pos h2]; rfl
      · rw [if_neg h2, if_pos (by omega)]; rfl
    · rw [if_neg he]
      rw [encK_eq] at he
      rw [if_neg (by omega), if_neg (by omega)]
      exact h1
theorem Tab.heal {A : List Bool} {l : List ((Int × Int) × Bool)} (h : Tab A l) {x y : Nat} (hx : 1 ≤ x) (hx6 : x ≤ 6) (hy : 1 ≤ y) (hy6 : y ≤ 6) : Tab ((A.set (x * 7 + y) false).set (y * 7 + x) false) (ldel (encK y x) l) := by
  rw [encK_comm]
  refine ⟨by simp [h.len], nodup_del _ _ h.nd, fun z => ?_, fun p q hp1 hp6 hq1 hq6 => ?_⟩
  · rw [lval_del _ _ _ h.nd]; split
    · rfl
    · exact h.diag z
  · have h1 := h.eq p q hp1 hp6 hq1 hq6
    rw [apartB_val] at h1 ⊢
    rw [lval_del _ _ _ h.nd, getD_set _ _ _ _ (by simp [h.len]; omega), getD_set _ _ _ _ (by rw [h.len]; omega)]
    by_cases he : encK (p : Int) q = encK (x : Int) y
    · rw [if_pos he]
      rw [encK_eq] at he
      by_cases h2 : p * 7 + q = y * 7 + x
      · rw [if_pos h2]; rfl
      · rw [if_neg h2, if_pos (by omega)]; rfl
    · rw [if_neg he]
      rw [encK_eq] at he
      rw [if_neg (by omega), if_neg (by omega)]
      exact h1
theorem Tab.heal_same {A : List Bool} {l : List ((Int × Int) × Bool)} (h : Tab A l) (x : Nat) (hx : 1 ≤ x) (hx6 : x ≤ 6) : Tab A (ldel (encK x x) l) := by
  have := h.heal hx hx6 hx hx6
  have e : (A.set (x * 7 + x) false).set (x * 7 + x) false = A := by
    rw [List.set_set]
    apply List.ext_getElem?
    intro i
    rw [List.getElem?_set]
    by_cases hi : x * 7 + x = i
    · subst hi
      have hlt : x * 7 + x < A.length := by rw [h.len]; omega
      rw [if_pos rfl, if_pos hlt]
      have h1 := h.eq x x hx hx6 hx hx6
      rw [apartB_val, h.diag, List.getD_eq_getElem?_getD, List.getElem?_eq_getElem hlt] at h1
      rw [List.getElem?_eq_getElem hlt]
      exact congrArg some h1.symm
    · rw [if_neg hi]
  rw [e] at this
  exact this
theorem Tab.cut_same {A : List Bool} {l : List ((Int × Int) × Bool)} (h : Tab A l) (x : Nat) : Tab A (cutL l x x) := by
  have hp : pairB (x : Int) x = false := by simp [pairB]
  unfold cutL
  rw [hp]
  exact h

theorem sz46 (w : World) : (sizeOf 46).run Try.prog w = .ok 7 w := by kernel_rfl

def zc42 : Array Value := Array.replicate 49 (.bool false)
def z42 : Value := .agg zc42
theorem build42 (w : World) : (Instr.build 42 #[]).run Try.prog w = .ok z42 w := by kernel_rfl
theorem alloc42 (w : World) : (Instr.alloc 42 true (.tuple #[])).run Try.prog w = .ok (.pointer (some ⟨w.heap.size, 0, none⟩)) (w.alloc (.cells zc42 42)) := by kernel_rfl
theorem size42 (w : World) : (sizeOf 42).run Try.prog w = .ok zc42.size w := by kernel_rfl
theorem zc42_list : zc42 = ((List.replicate 49 false).map Value.bool).toArray := rfl

/-- Where the law stands: the Breeze, and its own table in block bi. -/
def ApSt (B b mb bi : Nat) (w0 w : World) (A : List Bool) (l : List ((Int × Int) × Bool)) : Prop :=
  ∃ v, BrAt w b mb v [] l ∧ v.ownBlock ≠ some bi ∧ (∀ k, v.ownBlock = some k → B ≤ k) ∧ w.heap[bi]? = some (.cells (A.map Value.bool).toArray 42 (0, 0)) ∧ Chg (fun k => B ≤ k) w0 w
section
variable {B b mb bi : Nat} {w0 w w' : World} {A : List Bool} {l l' : List ((Int × Int) × Bool)}
theorem ApSt.step {v : Value} (h1 : BrAt w b mb v [] l) (h2 : v.ownBlock ≠ some bi) (h3 : ∀ k, v.ownBlock = some k → B ≤ k) (h4 : w.heap[bi]? = some (.cells (A.map Value.bool).toArray 42 (0, 0))) (h5 : Chg (fun k => B ≤ k) w0 w)
    (hb : B ≤ b) (hm : B ≤ mb) (hib : bi ≠ b) (him : bi ≠ mb) (hp : BrPost w b mb v [] l' w') : ApSt B b mb bi w0 w' A l' := by
  obtain ⟨v', g1, g2, g3⟩ := hp
  have hlt := heap_lt h4
  refine ⟨v', g1, fun e => ?_, fun k hk => ?_, g2.obj h4 (fun h => ?_), h5.upto g2 (fun k h => ?_)⟩
  · rcases g3 bi e with h | h
    · exact h2 h
    · omega
  · rcases g3 k hk with h | h
    · exact h3 k h
    · have := heap_lt h1.blk; omega
  · rcases h with h | h | h
    · exact hib h
    · exact him h
    · exact h2 h
  · rcases h with rfl | rfl | h
    · exact hb
    · exact hm
    · exact h3 k h
theorem ApSt.drewN (h : ApSt B b mb bi w0 w A l) (n : Nat) : ApSt B b mb bi w0 (w.drewN n) A l := by
  obtain ⟨v, h1, h2, h3, h4, h5⟩ := h
  exact ⟨v, h1.chg ((Chg.refl (fun _ => False) w).drewN n) (fun h => h) (fun h => h) (fun _ _ h => h), h2, h3, h4, h5.drewN n⟩
theorem ApSt.drew (h : ApSt B b mb bi w0 w A l) : ApSt B b mb bi w0 w.drew A l := h.drewN 1
theorem ApSt.set (h : ApSt B b mb bi w0 w A l) (hbi : B ≤ bi) (hib : bi ≠ b) (him : bi ≠ mb) (i : Nat) (x : Bool) : ApSt B b mb bi w0 (w.setCell ⟨bi, i, none⟩ (.bool x)) (A.set i x) l := by
  obtain ⟨v, h1, h2, h3, h4, h5⟩ := h
  have hc : Chg (fun k => k = bi) w (w.setCell ⟨bi, i, none⟩ (.bool x)) := (Chg.refl (fun k => k = bi) w).setCell (fun _ => rfl) _
  refine ⟨v, h1.chg hc (fun h => hib h.symm) (fun h => him h.symm) (fun k hk e => h2 (by rw [hk, e])), h2, h3, ?_, h5.upto hc (fun k h => by rw [h]; exact hbi)⟩
  have := heap_set_same h4 i (.bool x)
  rw [this]
  simp [List.map_set]
theorem ApSt.cell (h : ApSt B b mb bi w0 w A l) (i : Nat) (hi : i < A.length) : w.cell? ⟨bi, i, none⟩ = some (.bool (A.getD i false)) := by
  obtain ⟨v, h1, h2, h3, h4, h5⟩ := h
  rw [cell_of h4]
  simp [List.getD_eq_getElem?_getD, hi]
theorem ApSt.frozen (h : ApSt B b mb bi w0 w A l) (i : Nat) : w.frozen? ⟨bi, i, none⟩ = false := by
  obtain ⟨v, h1, h2, h3, h4, h5⟩ := h
  exact frozen_of h4 i
end

set_option maxRecDepth 100000 in
set_option maxHeartbeats 2000000 in
theorem apart_walk (w : World) (v : Value) (xs : List Deed) (hS : ActsAt w v xs) :
    Calls Try.prog 7 #[v] w (Rets (.bool true) (fun w' => Chg (fun _ => False) w w')) := by
  have hlen := hS.1.len (P := Try.prog) Try.underlying37
  go_enter Try.func7, Try.ntmps7
  go_wp2_with (first | (go_at_call 8; refine (awake_any _).mono ?_; rintro e w1 ⟨rfl, hc1⟩) | (go_at_call 9; refine (new_in _).mono ?_; rintro e w2 ⟨rfl, hB2, hc2⟩) | (refine wpList_build0 rfl 42 rfl z42 (build42 _) ?_) | (refine wpList_alloc0 rfl 42 rfl zc42 (alloc42 _) ?_; intro w3 ha3 hs3 hc3) | (refine wpList_store0 rfl 42 _ _ rfl _ zc42 zc42 rfl rfl ha3 size42 rfl rfl ?_; intro w4 ha4 hs4 hc4))
  have hst : ApSt w1.heap.size (w1.heap.size + 1) w1.heap.size w2.heap.size w1 w4 (List.replicate 49 false) [] := by
    obtain ⟨v2, g1, g2, g3, g4, g5⟩ := hB2
    have hlt := heap_lt g1.blk
    have hc24 : Chg (fun k => k = w2.heap.size) w2 w4 := (hc3.mono (fun _ _ h => h.elim)).trans hc4 (fun _ _ h => h)
    refine ⟨v2, g1.chg hc24 (fun h => by omega) (fun h => by omega) (fun k hk h => by have := (g1.own.lt k hk).2; omega), fun e => by have := (g1.own.lt _ e).2; omega, g4, by rw [← zc42_list]; exact ha4, (hc2.mono (fun _ _ h => h.elim)).trans hc24 (fun i hi h => by have := hc2.size; omega)⟩
  have hbi1 : w1.heap.size + 1 < w2.heap.size := by obtain ⟨v2, g1, _⟩ := hB2; exact heap_lt g1.blk
  have hib : w2.heap.size ≠ w1.heap.size + 1 := by omega
  have him : w2.heap.size ≠ w1.heap.size := by omega
  clear hB2 hc2 ha3 ha4 hc3 hc4 hs3 hs4
  go_loopw [5] (fun i wr => ∃ k : Nat, k ≤ xs.length ∧ i = .int .i64 k ∧ ∃ A l, ApSt w1.heap.size (w1.heap.size + 1) w1.heap.size w2.heap.size w1 wr A l ∧ Tab A l) (fun i _ => xs.length - (intOf i).toNat)
  case atStart => exact ⟨0, Nat.zero_le _, rfl, _, _, hst, tab0⟩
  case round =>
    obtain ⟨k, hk, rfl, A, l, hI, hT⟩ := hrel
    by_cases hkn : k < xs.length ∧ k < 250
    · obtain ⟨hkn, hk250⟩ := hkn
      have hkn' : (k : Int) < xs.length := by omega
      have hk250' : (k : Int) < 250 := by omega
      obtain ⟨bb, oo, hix, hcs, hlt⟩ := hS.1.ix (P := Try.prog) Try.underlying37 sz46 (by decide) k hkn
      generalize hd : xs.getD k Deed.none = d at *
      obtain ⟨X, hX, hX5⟩ : ∃ X : Nat, wrap64 ((IntKind.u64.wrap d.fr).tmod 6) = X ∧ X < 6 := by
        have h0 : 0 ≤ IntKind.u64.wrap d.fr := by rw [IntKind.wrap_u64]; omega
        refine ⟨(IntKind.u64.wrap d.fr % 6).toNat, ?_, by omega⟩
        rw [Int.tmod_eq_emod_of_nonneg h0, IntWalk.wrap64_in _ (by omega)]; omega
      obtain ⟨Y, hY, hY5⟩ : ∃ Y : Nat, wrap64 ((IntKind.u64.wrap d.to).tmod 6) = Y ∧ Y < 6 := by
        have h0 : 0 ≤ IntKind.u64.wrap d.to := by rw [IntKind.wrap_u64]; omega
        refine ⟨(IntKind.u64.wrap d.to % 6).toNat, ?_, by omega⟩
        rw [Int.tmod_eq_emod_of_nonneg h0, IntWalk.wrap64_in _ (by omega)]; omega
      have hX5' : (X : Int) < 6 := by omega
      have hY5' : (Y : Int) < 6 := by omega
      have bX0 : (0 : Int) ≤ 1 + (X : Int) := by omega
      have bX7 : 1 + (X : Int) < 7 := by omega
      have bY0 : (0 : Int) ≤ 1 + (Y : Int) := by omega
      have bY7 : 1 + (Y : Int) < 7 := by omega
      have nX : (1 + (X : Int)).toNat = 1 + X := by omega
      have nY : (1 + (Y : Int)).toNat = 1 + Y := by omega
      have cAt : ∀ (W : World) (A' : List Bool) (l' : List ((Int × Int) × Bool)), ApSt w1.heap.size (w1.heap.size + 1) w1.heap.size w2.heap.size w1 W A' l' → W.cell? ⟨bb, oo, none⟩ = some (.int .i64 d.kd) ∧ W.cell? ⟨bb, oo + 1, none⟩ = some (.int .i64 d.fr) ∧ W.cell? ⟨bb, oo + 2, none⟩ = some (.int .i64 d.to) := by
        rintro W A' l' ⟨v', _, _, _, _, g5⟩
        have hsz := hc1.size
        exact ⟨g5.cell (hc1.cell (hcs 0 (by decide)) (fun h => h)) (by simp; omega), g5.cell (hc1.cell (hcs 1 (by decide)) (fun h => h)) (by simp; omega), g5.cell (hc1.cell (hcs 2 (by decide)) (fun h => h)) (by simp; omega)⟩
      obtain ⟨c0, c1, c2⟩ := cAt _ _ _ hI
      have HA := hid cAt
      clear cAt hcs
      obtain ⟨v3, p1, p2, p3, p4, p5⟩ := hI
      by_cases h6 : d.kd = 6
      · have h6a : (d.kd == 6) = true := by simp [h6]
        have h6b : (d.kd != 6) = false := by simp [h6]
        clear h6
        by_cases hxy : X = Y
        · skip
          subst hxy
          have hxy' : ((1 + (X : Int)) != (1 + (X : Int))) = false := by simp
          go_wp2_with (go_at_call 21; refine (heal_any p1 (1 + X) (1 + X)).mono ?_; rintro e w5 ⟨rfl, hp5⟩)
          have hI9 := ApSt.step p1 p2 p3 p4 p5 (by omega) (by omega) hib him hp5
          have hT9 := hT.heal_same (1 + X) (by omega) (by omega)
          rw [show ((1 + X : Nat) : Int) = 1 + (X : Int) from by omega] at hT9
          generalize ldel (encK (1 + (X : Int)) (1 + X)) l = l9 at *
          generalize hA9 : A = A9 at *
          clear hA9
          clear hxy' hX hY nX nY hix c0 c1 c2 h6a h6b p1 p2 p3 p4 p5 hp5
          go_loopw [8] (fun i wr => ∃ kk : Nat, 1 ≤ kk ∧ kk ≤ 7 ∧ i = .int .i64 kk ∧ ApSt w1.heap.size (w1.heap.size + 1) w1.heap.size w2.heap.size w1 wr A9 l9) (fun i _ => 7 - (intOf i).toNat)
          case atStart => exact ⟨1, by omega, by omega, rfl, hI9⟩
          case round =>
            clear hI9
            obtain ⟨kk, hk1, hk7, rfl, hI9⟩ := hrel
            by_cases hk77 : kk < 7
            · have hk77' : (kk : Int) < 7 := by omega
              go_wp2_with fail
              go_loopw [9] (fun i wr => ∃ jj : Nat, 1 ≤ jj ∧ jj ≤ 7 ∧ i = .int .i64 jj ∧ ApSt w1.heap.size (w1.heap.size + 1) w1.heap.size w2.heap.size w1 wr A9 l9) (fun i _ => 7 - (intOf i).toNat)
              case atStart => exact ⟨1, by omega, by omega, rfl, hI9⟩
              case round =>
                clear hI9
                obtain ⟨jj, hj1, hj7, rfl, hI9⟩ := hrel
                by_cases hj77 : jj < 7
                · have hj77' : (jj : Int) < 7 := by omega
                  have hcell := hI9.cell (kk * 7 + jj) (by rw [hT9.len]; omega)
                  rw [hT9.eq kk jj hk1 (by omega) hj1 (by omega)] at hcell
                  obtain ⟨vz, z1, z2, z3, z4, z5⟩ := hI9
                  have hI10 : ApSt w1.heap.size (w1.heap.size + 1) w1.heap.size w2.heap.size w1 _ A9 l9 := ⟨vz, z1, z2, z3, z4, z5⟩
                  go_wp2_with fail
                  go_quiet ((go_at_call 23; exact quietR (apart_any (z1.chg ((Chg.refl (fun _ => False) _).drewN _) (fun h => h) (fun h => h) (fun _ _ h => h)) _ _)))
                  go_wp2_with fail
                  go_roundw
                  case rel => exact ⟨jj + 1, by omega, by omega, by go_num, hI10.drewN nq⟩
                  case measure => simp [intOf]; omega
                · obtain rfl : jj = 7 := by omega
                  go_wp2_with fail
                  go_roundw
                  case rel => exact ⟨kk + 1, by omega, by omega, by go_num, hI9⟩
                  case measure => simp [intOf]; omega
            · obtain rfl : kk = 7 := by omega
              go_wp2_with fail
              go_roundw
              case rel => exact ⟨k + 1, by omega, by go_num, A9, l9, hI9, hT9⟩
              case measure => simp [intOf]; omega
        · skip
          have hxy' : ((1 + (X : Int)) != (1 + (Y : Int))) = true := by simp; omega
          go_wp2_with (go_at_call 21; refine (heal_any p1 (1 + Y) (1 + X)).mono ?_; rintro e w5 ⟨rfl, hp5⟩)
          have hI5 := ApSt.step p1 p2 p3 p4 p5 (by omega) (by omega) hib him hp5
          obtain ⟨e0, _, _⟩ := HA.out _ _ _ hI5
          go_still_tail 10, (by kernel_rfl)
          change wpList _ _ _ _ _ w5.drew
          obtain ⟨w6, hw6⟩ : ∃ w6, w6 = w5.drew := ⟨_, rfl⟩
          rw [← hw6]
          have hI6 := hI5.drew; rw [← hw6] at hI6; clear hw6
          have f0 := hI6.frozen ((1 + X) * 7 + (1 + Y))
          have g0 := hI6.cell ((1 + X) * 7 + (1 + Y)) (by rw [hT.len]; omega)
          go_wp2_with fail
          generalize hw7 : World.setCell _ _ _ = w7
          have hI7 := hI6.set (by omega) hib him ((1 + X) * 7 + (1 + Y)) false; rw [hw7] at hI7; clear hw7 f0 g0
          obtain ⟨e0, _, _⟩ := HA.out _ _ _ hI7
          go_still_tail 10, (by kernel_rfl)
          change wpList _ _ _ _ _ w7.drew
          obtain ⟨w8, hw8⟩ : ∃ w8, w8 = w7.drew := ⟨_, rfl⟩
          rw [← hw8]
          have hI8 := hI7.drew; rw [← hw8] at hI8; clear hw8
          have f0 := hI8.frozen ((1 + Y) * 7 + (1 + X))
          have g0 := hI8.cell ((1 + Y) * 7 + (1 + X)) (by simp [hT.len]; omega)
          go_wp2_with fail
          generalize hw9 : World.setCell _ _ _ = w9
          have hI9 := hI8.set (by omega) hib him ((1 + Y) * 7 + (1 + X)) false; rw [hw9] at hI9; clear hw9 f0 g0 hI5 hI6 hI7 hI8
          have hT9 := hT.heal (x := 1 + X) (y := 1 + Y) (by omega) (by omega) (by omega) (by omega)
          rw [show ((1 + X : Nat) : Int) = 1 + (X : Int) from by omega, show ((1 + Y : Nat) : Int) = 1 + (Y : Int) from by omega] at hT9
          generalize ldel (encK (1 + (Y : Int)) (1 + X)) l = l9 at *
          generalize hA9 : (A.set ((1 + X) * 7 + (1 + Y)) false).set ((1 + Y) * 7 + (1 + X)) false = A9 at *
          clear hA9
          clear hxy' hX hY nX nY hix c0 c1 c2 h6a h6b p1 p2 p3 p4 p5 hp5 e0
          go_loopw [8] (fun i wr => ∃ kk : Nat, 1 ≤ kk ∧ kk ≤ 7 ∧ i = .int .i64 kk ∧ ApSt w1.heap.size (w1.heap.size + 1) w1.heap.size w2.heap.size w1 wr A9 l9) (fun i _ => 7 - (intOf i).toNat)
          case atStart => exact ⟨1, by omega, by omega, rfl, hI9⟩
          case round =>
            clear hI9
            obtain ⟨kk, hk1, hk7, rfl, hI9⟩ := hrel
            by_cases hk77 : kk < 7
            · have hk77' : (kk : Int) < 7 := by omega
              go_wp2_with fail
              go_loopw [9] (fun i wr => ∃ jj : Nat, 1 ≤ jj ∧ jj ≤ 7 ∧ i = .int .i64 jj ∧ ApSt w1.heap.size (w1.heap.size + 1) w1.heap.size w2.heap.size w1 wr A9 l9) (fun i _ => 7 - (intOf i).toNat)
              case atStart => exact ⟨1, by omega, by omega, rfl, hI9⟩
              case round =>
                clear hI9
                obtain ⟨jj, hj1, hj7, rfl, hI9⟩ := hrel
                by_cases hj77 : jj < 7
                · have hj77' : (jj : Int) < 7 := by omega
                  have hcell := hI9.cell (kk * 7 + jj) (by rw [hT9.len]; omega)
                  rw [hT9.eq kk jj hk1 (by omega) hj1 (by omega)] at hcell
                  obtain ⟨vz, z1, z2, z3, z4, z5⟩ := hI9
                  have hI10 : ApSt w1.heap.size (w1.heap.size + 1) w1.heap.size w2.heap.size w1 _ A9 l9 := ⟨vz, z1, z2, z3, z4, z5⟩
                  go_wp2_with fail
                  go_quiet ((go_at_call 23; exact quietR (apart_any (z1.chg ((Chg.refl (fun _ => False) _).drewN _) (fun h => h) (fun h => h) (fun _ _ h => h)) _ _)))
                  go_wp2_with fail
                  go_roundw
                  case rel => exact ⟨jj + 1, by omega, by omega, by go_num, hI10.drewN nq⟩
                  case measure => simp [intOf]; omega
                · obtain rfl : jj = 7 := by omega
                  go_wp2_with fail
                  go_roundw
                  case rel => exact ⟨kk + 1, by omega, by omega, by go_num, hI9⟩
                  case measure => simp [intOf]; omega
            · obtain rfl : kk = 7 := by omega
              go_wp2_with fail
              go_roundw
              case rel => exact ⟨k + 1, by omega, by go_num, A9, l9, hI9, hT9⟩
              case measure => simp [intOf]; omega
      · have h6a : (d.kd == 6) = false := by simp [h6]
        have h6b : (d.kd != 6) = true := by simp [h6]
        clear h6
        by_cases hxy : X = Y
        · skip
          subst hxy
          have hxy' : ((1 + (X : Int)) != (1 + (X : Int))) = false := by simp
          go_wp2_with (go_at_call 19; refine (cut_any p1 (1 + X) (1 + X)).mono ?_; rintro e w5 ⟨rfl, hp5⟩)
          have hI9 := ApSt.step p1 p2 p3 p4 p5 (by omega) (by omega) hib him hp5
          have hT9 := hT.cut_same (1 + X)
          rw [show ((1 + X : Nat) : Int) = 1 + (X : Int) from by omega] at hT9
          generalize cutL l (1 + (X : Int)) (1 + X) = l9 at *
          generalize hA9 : A = A9 at *
          clear hA9
          clear hxy' hX hY nX nY hix c0 c1 c2 h6a h6b p1 p2 p3 p4 p5 hp5
          go_loopw [8] (fun i wr => ∃ kk : Nat, 1 ≤ kk ∧ kk ≤ 7 ∧ i = .int .i64 kk ∧ ApSt w1.heap.size (w1.heap.size + 1) w1.heap.size w2.heap.size w1 wr A9 l9) (fun i _ => 7 - (intOf i).toNat)
          case atStart => exact ⟨1, by omega, by omega, rfl, hI9⟩
          case round =>
            clear hI9
            obtain ⟨kk, hk1, hk7, rfl, hI9⟩ := hrel
            by_cases hk77 : kk < 7
            · have hk77' : (kk : Int) < 7 := by omega
              go_wp2_with fail
              go_loopw [9] (fun i wr => ∃ jj : Nat, 1 ≤ jj ∧ jj ≤ 7 ∧ i = .int .i64 jj ∧ ApSt w1.heap.size (w1.heap.size + 1) w1.heap.size w2.heap.size w1 wr A9 l9) (fun i _ => 7 - (intOf i).toNat)
              case atStart => exact ⟨1, by omega, by omega, rfl, hI9⟩
              case round =>
                clear hI9
                obtain ⟨jj, hj1, hj7, rfl, hI9⟩ := hrel
                by_cases hj77 : jj < 7
                · have hj77' : (jj : Int) < 7 := by omega
                  have hcell := hI9.cell (kk * 7 + jj) (by rw [hT9.len]; omega)
                  rw [hT9.eq kk jj hk1 (by omega) hj1 (by omega)] at hcell
                  obtain ⟨vz, z1, z2, z3, z4, z5⟩ := hI9
                  have hI10 : ApSt w1.heap.size (w1.heap.size + 1) w1.heap.size w2.heap.size w1 _ A9 l9 := ⟨vz, z1, z2, z3, z4, z5⟩
                  go_wp2_with fail
                  go_quiet ((go_at_call 23; exact quietR (apart_any (z1.chg ((Chg.refl (fun _ => False) _).drewN _) (fun h => h) (fun h => h) (fun _ _ h => h)) _ _)))
                  go_wp2_with fail
                  go_roundw
                  case rel => exact ⟨jj + 1, by omega, by omega, by go_num, hI10.drewN nq⟩
                  case measure => simp [intOf]; omega
                · obtain rfl : jj = 7 := by omega
                  go_wp2_with fail
                  go_roundw
                  case rel => exact ⟨kk + 1, by omega, by omega, by go_num, hI9⟩
                  case measure => simp [intOf]; omega
            · obtain rfl : kk = 7 := by omega
              go_wp2_with fail
              go_roundw
              case rel => exact ⟨k + 1, by omega, by go_num, A9, l9, hI9, hT9⟩
              case measure => simp [intOf]; omega
        · skip
          have hxy' : ((1 + (X : Int)) != (1 + (Y : Int))) = true := by simp; omega
          go_wp2_with (go_at_call 19; refine (cut_any p1 (1 + X) (1 + Y)).mono ?_; rintro e w5 ⟨rfl, hp5⟩)
          have hI5 := ApSt.step p1 p2 p3 p4 p5 (by omega) (by omega) hib him hp5
          obtain ⟨e0, _, _⟩ := HA.out _ _ _ hI5
          go_still_tail 10, (by kernel_rfl)
          change wpList _ _ _ _ _ w5.drew
          obtain ⟨w6, hw6⟩ : ∃ w6, w6 = w5.drew := ⟨_, rfl⟩
          rw [← hw6]
          have hI6 := hI5.drew; rw [← hw6] at hI6; clear hw6
          have f0 := hI6.frozen ((1 + X) * 7 + (1 + Y))
          have g0 := hI6.cell ((1 + X) * 7 + (1 + Y)) (by rw [hT.len]; omega)
          go_wp2_with fail
          generalize hw7 : World.setCell _ _ _ = w7
          have hI7 := hI6.set (by omega) hib him ((1 + X) * 7 + (1 + Y)) true; rw [hw7] at hI7; clear hw7 f0 g0
          obtain ⟨e0, _, _⟩ := HA.out _ _ _ hI7
          go_still_tail 10, (by kernel_rfl)
          change wpList _ _ _ _ _ w7.drew
          obtain ⟨w8, hw8⟩ : ∃ w8, w8 = w7.drew := ⟨_, rfl⟩
          rw [← hw8]
          have hI8 := hI7.drew; rw [← hw8] at hI8; clear hw8
          have f0 := hI8.frozen ((1 + Y) * 7 + (1 + X))
          have g0 := hI8.cell ((1 + Y) * 7 + (1 + X)) (by simp [hT.len]; omega)
          go_wp2_with fail
          generalize hw9 : World.setCell _ _ _ = w9
          have hI9 := hI8.set (by omega) hib him ((1 + Y) * 7 + (1 + X)) true; rw [hw9] at hI9; clear hw9 f0 g0 hI5 hI6 hI7 hI8
          have hT9 := hT.cut (x := 1 + X) (y := 1 + Y) (by omega) (by omega) (by omega) (by omega) (by omega)
          rw [show ((1 + X : Nat) : Int) = 1 + (X : Int) from by omega, show ((1 + Y : Nat) : Int) = 1 + (Y : Int) from by omega] at hT9
          generalize cutL l (1 + (X : Int)) (1 + Y) = l9 at *
          generalize hA9 : (A.set ((1 + X) * 7 + (1 + Y)) true).set ((1 + Y) * 7 + (1 + X)) true = A9 at *
          clear hA9
          clear hxy' hX hY nX nY hix c0 c1 c2 h6a h6b p1 p2 p3 p4 p5 hp5 e0
          go_loopw [8] (fun i wr => ∃ kk : Nat, 1 ≤ kk ∧ kk ≤ 7 ∧ i = .int .i64 kk ∧ ApSt w1.heap.size (w1.heap.size + 1) w1.heap.size w2.heap.size w1 wr A9 l9) (fun i _ => 7 - (intOf i).toNat)
          case atStart => exact ⟨1, by omega, by omega, rfl, hI9⟩
          case round =>
            clear hI9
            obtain ⟨kk, hk1, hk7, rfl, hI9⟩ := hrel
            by_cases hk77 : kk < 7
            · have hk77' : (kk : Int) < 7 := by omega
              go_wp2_with fail
              go_loopw [9] (fun i wr => ∃ jj : Nat, 1 ≤ jj ∧ jj ≤ 7 ∧ i = .int .i64 jj ∧ ApSt w1.heap.size (w1.heap.size + 1) w1.heap.size w2.heap.size w1 wr A9 l9) (fun i _ => 7 - (intOf i).toNat)
              case atStart => exact ⟨1, by omega, by omega, rfl, hI9⟩
              case round =>
                clear hI9
                obtain ⟨jj, hj1, hj7, rfl, hI9⟩ := hrel
                by_cases hj77 : jj < 7
                · have hj77' : (jj : Int) < 7 := by omega
                  have hcell := hI9.cell (kk * 7 + jj) (by rw [hT9.len]; omega)
                  rw [hT9.eq kk jj hk1 (by omega) hj1 (by omega)] at hcell
                  obtain ⟨vz, z1, z2, z3, z4, z5⟩ := hI9
                  have hI10 : ApSt w1.heap.size (w1.heap.size + 1) w1.heap.size w2.heap.size w1 _ A9 l9 := ⟨vz, z1, z2, z3, z4, z5⟩
                  go_wp2_with fail
                  go_quiet ((go_at_call 23; exact quietR (apart_any (z1.chg ((Chg.refl (fun _ => False) _).drewN _) (fun h => h) (fun h => h) (fun _ _ h => h)) _ _)))
                  go_wp2_with fail
                  go_roundw
                  case rel => exact ⟨jj + 1, by omega, by omega, by go_num, hI10.drewN nq⟩
                  case measure => simp [intOf]; omega
                · obtain rfl : jj = 7 := by omega
                  go_wp2_with fail
                  go_roundw
                  case rel => exact ⟨kk + 1, by omega, by omega, by go_num, hI9⟩
                  case measure => simp [intOf]; omega
            · obtain rfl : kk = 7 := by omega
              go_wp2_with fail
              go_roundw
              case rel => exact ⟨k + 1, by omega, by go_num, A9, l9, hI9, hT9⟩
              case measure => simp [intOf]; omega
    · have hor : (k : Int) < xs.length → 250 ≤ (k : Int) := by omega
      obtain ⟨v3, p1, p2, p3, p4, p5⟩ := hI
      go_wp2_with fail
      all_goals first | (exfalso; omega) | (go_ret; exact ⟨rfl, hc1.trans p5 (fun i hi h => by have := hc1.size; omega)⟩)
end Go.Proofs.Ytfjihepjeafpmaa
