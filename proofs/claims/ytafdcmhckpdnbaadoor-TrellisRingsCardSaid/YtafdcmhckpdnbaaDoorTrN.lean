/- apiarylaw08.great walked: it answers. -/
import Derived.Test.YtafdcmhckpdnbaaDoorTrM
namespace Go.Proofs.YtafdcmhckpdnbaaDoor
open Go.RowKit

def GreatB (g : GrR) (names : List Nm) (w : World) (e : Ending) (w' : World) : Prop := ∃ B : Bool, e = .returned (.bool B) ∧ Chg (fun _ => False) w w' ∧ (B = false → g.srcs.length ≤ 30 ∧ g.acts.length ≤ 30 ∧ names.length ≤ 50)
set_option maxRecDepth 100000 in
set_option maxHeartbeats 4000000 in
theorem great_any (g : GrR) (names : List Nm) (v nv : Value) (w : World) (hg : GrAt w v g) (hns : NamesAt w nv names) : Calls Tryd.prog 10 #[v, nv] w (GreatB g names w) := by
  obtain ⟨oa, c, ob, d, iv, rfl, hs, ha⟩ := hg.form
  obtain ⟨on, cn, rfl⟩ := hns.form
  have hmn := hns.le
  have HNS := hid hns
  have hms := hs.le
  have hma := ha.rows.le
  unfold maxLen at hms hma hmn
  have hC1 : Chg (fun _ => False) w (w.alloc (.cells #[.slice oa g.srcs.length c, .slice ob g.acts.length d] 25)) := (Chg.refl _ w).alloc _
  have k1 := heap_alloc_new' w (.cells #[.slice oa g.srcs.length c, .slice ob g.acts.length d] 25)
  have HC1 := hid hC1
  have HK := hid k1
  have HS := hid hs
  have HA := hid ha
  clear hg hs ha hC1 k1 hns
  by_cases h30 : g.srcs.length ≤ 30
  · have h30' : ¬ (30 : Int) < (g.srcs.length : Int) := by omega
    have d30 : decide ((30 : Int) < (g.srcs.length : Int)) = false := decide_eq_false h30'
    by_cases h31 : g.acts.length ≤ 30
    · have h31' : ¬ (30 : Int) < (g.acts.length : Int) := by omega
      have d31 : decide ((30 : Int) < (g.acts.length : Int)) = false := decide_eq_false h31'
      by_cases h50 : names.length ≤ 50
      · have h50' : ¬ (50 : Int) < (names.length : Int) := by omega
        have d50 : decide ((50 : Int) < (names.length : Int)) = false := decide_eq_false h50'
        go_enter Tryd.func10, Tryd.ntmps10
        go_wp2_with fail
        generalize w.alloc (.cells #[.slice oa g.srcs.length c, .slice ob g.acts.length d] 25) = W1 at *
        have c0 := cell_of HK.out 0
        have c1 := cell_of HK.out 1
        simp at c0 c1
        go_loopw [5] (fun i wr => ∃ k : Nat, k ≤ g.srcs.length ∧ i = .int .i64 k ∧ wr = W1) (fun i _ => g.srcs.length - (intOf i).toNat)
        case atStart => exact ⟨0, Nat.zero_le _, rfl, rfl⟩
        case round =>
          obtain ⟨k, hk, rfl, rfl⟩ := hrel
          by_cases hkn : k < g.srcs.length
          · have hkn' : (k : Int) < g.srcs.length := by omega
            obtain ⟨ad, hix, hadc, hadb⟩ := (HS.out.chg HC1.out (fun _ _ h => h)).ix k hkn
            have hwd := (HS.out.chg HC1.out (fun _ _ h => h)).wide _ (List.getElem_mem hkn)
            have hsz := bs_size g.srcs[k]
            unfold maxLen at hwd
            rw [← hsz] at hwd
            clear hsz
            generalize bs g.srcs[k] = x at *
            by_cases h200 : (200 : Int) < (x.size : Int)
            · go_wp2_with fail
              go_ret
              exact ⟨true, rfl, HC1.out, fun h => by cases h⟩
            · go_wp2_with fail
              go_roundw
              case rel => exact ⟨k + 1, by omega, by go_num, by first | rfl | trivial⟩
              case measure => simp [intOf]; omega
          · obtain rfl : k = g.srcs.length := by omega
            go_wp2_with fail
            obtain ⟨wo, hwo⟩ : ∃ wo, wo = wr := ⟨_, rfl⟩
            rw [← hwo] at HC1 HK c0 c1 ⊢
            clear hwo
            go_loopw [6] (fun i wr => ∃ k : Nat, k ≤ g.acts.length ∧ i = .int .i64 k ∧ Chg (fun _ => False) wo wr) (fun i _ => g.acts.length - (intOf i).toNat)
            case atStart => exact ⟨0, Nat.zero_le _, rfl, Chg.refl _ _⟩
            case round =>
              obtain ⟨k, hk, rfl, hch⟩ := hrel
              have e0 := hch.cell c0 (fun h => h)
              have e1 := hch.cell c1 (fun h => h)
              have HCH := hid hch
              have HW := hid (HC1.out.trans hch (fun _ _ h => h))
              clear hch
              by_cases hkn : k < g.acts.length
              · have hkn' : (k : Int) < g.acts.length := by omega
                obtain ⟨bb, oo, hix, hlt, p0, p1, p2, hns, hw1, hw2⟩ := (HA.out.chg HW.out (fun _ _ h => h)).at k hkn
                obtain ⟨oi, ci, hiv⟩ := hns.form
                rw [hiv] at p1 hns
                have hli := hns.le
                unfold maxLen at hw1 hw2 hli
                have hz1 := bs_size g.acts[k].name
                have hz2 := bs_size g.acts[k].code
                rw [← hz1] at hw1
                rw [← hz2] at hw2
                clear hz1 hz2 hiv
                have HNS := hid hns
                clear hns
                generalize bs g.acts[k].name = x1 at *
                generalize bs g.acts[k].code = x2 at *
                generalize g.acts[k].ins = ins at *
                by_cases t1 : (200 : Int) < (x1.size : Int)
                · go_wp2_with fail
                  go_ret
                  exact ⟨true, rfl, HW.out.alloc _, fun h => by cases h⟩
                · have d1 : decide ((200 : Int) < (x1.size : Int)) = false := decide_eq_false t1
                  by_cases t2 : (200 : Int) < (x2.size : Int)
                  · go_wp2_with fail
                    go_ret
                    exact ⟨true, rfl, HW.out.alloc _, fun h => by cases h⟩
                  · have d2 : decide ((200 : Int) < (x2.size : Int)) = false := decide_eq_false t2
                    by_cases t3 : (10 : Int) < (ins.length : Int)
                    · go_wp2_with fail
                      go_ret
                      exact ⟨true, rfl, HW.out.alloc _, fun h => by cases h⟩
                    · have d3 : decide ((10 : Int) < (ins.length : Int)) = false := decide_eq_false t3
                      have hwa : Chg (fun _ => False) wr (wr.alloc (.cells #[.string x1, .slice oi ins.length ci, .string x2] 41)) := (Chg.refl _ wr).alloc _
                      have kA := heap_alloc_new' wr (.cells #[.string x1, .slice oi ins.length ci, .string x2] 41)
                      have HN3 := hid (HNS.out.chg hwa (fun _ _ h => h))
                      have HWA := hid hwa
                      have HKA := hid kA
                      clear hwa kA
                      go_wp2_with fail
                      generalize wr.alloc (.cells #[.string x1, .slice oi ins.length ci, .string x2] 41) = wa at *
                      obtain ⟨A6, hA6⟩ : ∃ A6, A6 = wr.heap.size := ⟨_, rfl⟩
                      rw [← hA6] at HKA ⊢
                      clear hA6
                      have r1 : wa.cell? ⟨A6, 1, none⟩ = some (.slice oi ins.length ci) := (cell_of HKA.out 1).trans rfl
                      go_loopw [8] (fun i wb => ∃ q : Nat, q ≤ ins.length ∧ i = .int .i64 q ∧ wb = wa) (fun i _ => ins.length - (intOf i).toNat)
                      case atStart => exact ⟨0, Nat.zero_le _, rfl, rfl⟩
                      case round =>
                        obtain ⟨q, hq, rfl, rfl⟩ := hrel
                        by_cases hqn : q < ins.length
                        · have hqn' : (q : Int) < ins.length := by omega
                          obtain ⟨ad3, hix3, hadc3, hadb3⟩ := HN3.out.ix q hqn
                          have hwd3 := HN3.out.wide _ (List.getElem_mem hqn)
                          have hsz3 := bs_size ins[q]
                          unfold maxLen at hwd3
                          rw [← hsz3] at hwd3
                          clear hsz3
                          generalize bs ins[q] = x3 at *
                          by_cases t4 : (200 : Int) < (x3.size : Int)
                          · go_wp2_with fail
                            go_ret
                            exact ⟨true, rfl, HW.out.trans HWA.out (fun _ _ h => h), fun h => by cases h⟩
                          · go_wp2_with fail
                            go_roundw
                            case rel => exact ⟨q + 1, by omega, by go_num, by first | rfl | trivial⟩
                            case measure => simp [intOf]; omega
                        · obtain rfl : q = ins.length := by omega
                          go_wp2_with fail
                          go_roundw
                          case rel => exact ⟨k + 1, by omega, by go_num, HCH.out.trans HWA.out (fun _ _ h => h)⟩
                          case measure => simp [intOf]; omega
              · obtain rfl : k = g.acts.length := by omega
                go_wp2_with fail
                obtain ⟨wp, hwp⟩ : ∃ wp, wp = wr := ⟨_, rfl⟩
                rw [← hwp] at HW ⊢
                clear hwp HCH e0 e1
                have HN3 := hid (HNS.out.chg HW.out (fun _ _ h => h))
                go_loopw [9] (fun i wr => ∃ k : Nat, k ≤ names.length ∧ i = .int .i64 k ∧ wr = wp) (fun i _ => names.length - (intOf i).toNat)
                case atStart => exact ⟨0, Nat.zero_le _, rfl, rfl⟩
                case round =>
                  obtain ⟨k, hk, rfl, rfl⟩ := hrel
                  by_cases hkn : k < names.length
                  · have hkn' : (k : Int) < names.length := by omega
                    obtain ⟨ad, hix, hadc, hadb⟩ := HN3.out.ix k hkn
                    have hwd := HN3.out.wide _ (List.getElem_mem hkn)
                    have hsz := bs_size names[k]
                    unfold maxLen at hwd
                    rw [← hsz] at hwd
                    clear hsz
                    generalize bs names[k] = x at *
                    by_cases h200 : (200 : Int) < (x.size : Int)
                    · go_wp2_with fail
                      go_ret
                      exact ⟨true, rfl, HW.out, fun h => by cases h⟩
                    · go_wp2_with fail
                      go_roundw
                      case rel => exact ⟨k + 1, by omega, by go_num, by first | rfl | trivial⟩
                      case measure => simp [intOf]; omega
                  · obtain rfl : k = names.length := by omega
                    go_wp2_with fail
                    go_ret
                    exact ⟨false, rfl, HW.out, fun _ => ⟨h30, h31, h50⟩⟩
      · have h50' : (50 : Int) < (names.length : Int) := by omega
        go_enter Tryd.func10, Tryd.ntmps10
        go_wp2_with fail
        go_ret
        exact ⟨true, rfl, HC1.out, fun h => by cases h⟩
    · have h31' : (30 : Int) < (g.acts.length : Int) := by omega
      go_enter Tryd.func10, Tryd.ntmps10
      go_wp2_with fail
      go_ret
      exact ⟨true, rfl, HC1.out, fun h => by cases h⟩
  · have h30' : (30 : Int) < (g.srcs.length : Int) := by omega
    go_enter Tryd.func10, Tryd.ntmps10
    go_wp2_with fail
    go_ret
    exact ⟨true, rfl, HC1.out, fun h => by cases h⟩
end Go.Proofs.YtafdcmhckpdnbaaDoor
