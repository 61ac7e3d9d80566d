/- Texts of the proof, one behind the other: apiarylaw09.great, blob, built walked. -/
import Derived.Test.YthglfmacjoecgaaGreatDoorMg22
import Derived.Test.YthglfmacjoecgaaGreatDoorMg13
namespace Go.Proofs.YthglfmacjoecgaaGreatDoor
open Go.RowKit

/-- It answers, and leaves all as it was. -/
def Says (w : World) (e : Ending) (w' : World) : Prop := ∃ B : Bool, e = .returned (.bool B) ∧ Chg (fun _ => False) w w'
set_option maxRecDepth 100000 in
set_option maxHeartbeats 4000000 in
theorem ogreat_any (g : GrR) (srcs : List SrcR) (v sv0 : Value) (w : World) (hg : GrAt w v g) (hss : SrcsAt w sv0 srcs) : Calls Tryz.prog 16 #[v, sv0] w (Says w) := by
  obtain ⟨oa, c, ob, d, iv, rfl, hs, ha⟩ := hg.form
  obtain ⟨os, cs, rfl⟩ := hss.form
  have hmn := hss.rows.le
  have hms := hs.le
  have hma := ha.rows.le
  unfold maxLen at hms hma hmn
  have hC1 : Chg (fun _ => False) w (w.alloc (.cells #[.slice oa g.srcs.length c, .slice ob g.acts.length d] 25)) := (Chg.refl _ w).alloc _
  have k1 := heap_alloc_new' w (.cells #[.slice oa g.srcs.length c, .slice ob g.acts.length d] 25)
  have HC1 := hid hC1
  have HK := hid k1
  have HS := hid hs
  have HA := hid ha
  have HSS := hid hss
  clear hg hs ha hC1 k1 hss
  go_enter Tryz.func16, Tryz.ntmps16
  by_cases h30 : (30 : Int) < (g.srcs.length : Int)
  · go_wp2_with fail
    go_ret
    exact ⟨true, rfl, HC1.out⟩
  have d30 : decide ((30 : Int) < (g.srcs.length : Int)) = false := decide_eq_false h30
  by_cases h31 : (30 : Int) < (g.acts.length : Int)
  · go_wp2_with fail
    go_ret
    exact ⟨true, rfl, HC1.out⟩
  have d31 : decide ((30 : Int) < (g.acts.length : Int)) = false := decide_eq_false h31
  by_cases h32 : (30 : Int) < (srcs.length : Int)
  · go_wp2_with fail
    go_ret
    exact ⟨true, rfl, HC1.out⟩
  have d32 : decide ((30 : Int) < (srcs.length : Int)) = false := decide_eq_false h32
  go_wp2_with fail
  clear d30 d31 d32
  generalize w.alloc (.cells #[.slice oa g.srcs.length c, .slice ob g.acts.length d] 25) = W1 at *
  have c0 := cell_of HK.out 0
  have c1 := cell_of HK.out 1
  simp at c0 c1
  go_loopw [5] (fun i wr => ∃ k : Nat, k ≤ g.srcs.length ∧ i = .int .i64 k ∧ wr = W1) (fun i _ => g.srcs.length - (intOf i).toNat)
  case atStart => exact ⟨0, Nat.zero_le _, rfl, rfl⟩
  case round =>
    obtain ⟨k, hk, rfl, rfl⟩ := hrel
    by_cases hkn : k < g.srcs.length
    · have hkn' : (k : Int) < g.srcs.length := by omega
      obtain ⟨ad, hix, hadc, hadb⟩ := (HS.out.chg HC1.out (fun _ _ h => h)).ix k hkn
      generalize bs g.srcs[k] = x at *
      by_cases h200 : (200 : Int) < (x.size : Int)
      · go_wp2_with fail
        go_ret
        exact ⟨true, rfl, HC1.out⟩
      · go_wp2_with fail
        go_roundw
        case rel => exact ⟨k + 1, by omega, by go_num, by first | rfl | trivial⟩
        case measure => simp [intOf]; omega
    · obtain rfl : k = g.srcs.length := by omega
      go_wp2_with fail
      go_loopw [6] (fun i wr2 => ∃ k : Nat, k ≤ srcs.length ∧ i = .int .i64 k ∧ wr2 = wr) (fun i _ => srcs.length - (intOf i).toNat)
      case atStart => exact ⟨0, Nat.zero_le _, rfl, rfl⟩
      case round =>
        obtain ⟨k, hk, rfl, rfl⟩ := hrel
        by_cases hkn : k < srcs.length
        · have hkn' : (k : Int) < srcs.length := by omega
          obtain ⟨bb, oo, hix, e0, e1, hlt⟩ := (HSS.out.chg HC1.out (fun _ _ h => h)).ix k hkn
          generalize bs srcs[k].1 = x at *
          generalize srcs[k].2 = y at *
          by_cases h200 : (200 : Int) < (x.size : Int)
          · go_wp2_with fail
            go_ret
            exact ⟨true, rfl, HC1.out⟩
          · have d1 : decide ((200 : Int) < (x.size : Int)) = false := decide_eq_false h200
            by_cases h1000 : (1000 : Int) < (y.size : Int)
            · go_wp2_with fail
              go_ret
              exact ⟨true, rfl, HC1.out⟩
            · have d2 : decide ((1000 : Int) < (y.size : Int)) = false := decide_eq_false h1000
              go_wp2_with fail
              go_roundw
              case rel => exact ⟨k + 1, by omega, by go_num, by first | rfl | trivial⟩
              case measure => simp [intOf]; omega
        · obtain rfl : k = srcs.length := by omega
          go_wp2_with fail
          obtain ⟨wo, hwo⟩ : ∃ wo, wo = wr := ⟨_, rfl⟩
          rw [← hwo] at HC1 HK c0 c1 ⊢
          clear hwo
          go_loopw [7] (fun i wr => ∃ k : Nat, k ≤ g.acts.length ∧ i = .int .i64 k ∧ Chg (fun _ => False) wo wr) (fun i _ => g.acts.length - (intOf i).toNat)
          case atStart => exact ⟨0, Nat.zero_le _, rfl, Chg.refl _ _⟩
          case round =>
            obtain ⟨k, hk, rfl, hch⟩ := hrel
            have e0 := hch.cell c0 (fun h => h)
            have e1 := hch.cell c1 (fun h => h)
            have HCH := hid hch
            have HW := hid (HC1.out.trans hch (fun _ _ h => h))
            clear hch
            by_cases hkn : k < g.acts.length
            · have hkn' : (k : Int) < g.acts.length := by omega
              obtain ⟨bb, oo, hix, hlt, p0, p1, p2, hns, hw1, hw2⟩ := (HA.out.chg HW.out (fun _ _ h => h)).at k hkn
              obtain ⟨oi, ci, hiv⟩ := hns.form
              rw [hiv] at p1 hns
              have hli := hns.le
              unfold maxLen at hli
              clear hiv hw1 hw2
              have HNS := hid hns
              clear hns
              generalize bs g.acts[k].name = x1 at *
              generalize bs g.acts[k].code = x2 at *
              generalize g.acts[k].ins = ins at *
              by_cases t1 : (200 : Int) < (x1.size : Int)
              · go_wp2_with fail
                go_ret
                exact ⟨true, rfl, HW.out.alloc _⟩
              have d1 : decide ((200 : Int) < (x1.size : Int)) = false := decide_eq_false t1
              by_cases t2 : (200 : Int) < (x2.size : Int)
              · go_wp2_with fail
                go_ret
                exact ⟨true, rfl, HW.out.alloc _⟩
              have d2 : decide ((200 : Int) < (x2.size : Int)) = false := decide_eq_false t2
              by_cases t3 : (10 : Int) < (ins.length : Int)
              · go_wp2_with fail
                go_ret
                exact ⟨true, rfl, HW.out.alloc _⟩
              have d3 : decide ((10 : Int) < (ins.length : Int)) = false := decide_eq_false t3
              have hwa : Chg (fun _ => False) wr (wr.alloc (.cells #[.string x1, .slice oi ins.length ci, .string x2] 43)) := (Chg.refl _ wr).alloc _
              have kA := heap_alloc_new' wr (.cells #[.string x1, .slice oi ins.length ci, .string x2] 43)
              have HN3 := hid (HNS.out.chg hwa (fun _ _ h => h))
              have HWA := hid hwa
              have HKA := hid kA
              clear hwa kA
              go_wp2_with fail
              generalize wr.alloc (.cells #[.string x1, .slice oi ins.length ci, .string x2] 43) = wa at *
              obtain ⟨A6, hA6⟩ : ∃ A6, A6 = wr.heap.size := ⟨_, rfl⟩
              rw [← hA6] at HKA ⊢
              clear hA6
              have r1 : wa.cell? ⟨A6, 1, none⟩ = some (.slice oi ins.length ci) := (cell_of HKA.out 1).trans rfl
              have HWW := hid (HW.out.trans HWA.out (fun _ _ h => h))
              have HCC := hid (HCH.out.trans HWA.out (fun _ _ h => h))
              go_loopw [9] (fun i wb => ∃ q : Nat, q ≤ ins.length ∧ i = .int .i64 q ∧ wb = wa) (fun i _ => ins.length - (intOf i).toNat)
              case atStart => exact ⟨0, Nat.zero_le _, rfl, rfl⟩
              case round =>
                obtain ⟨q, hq, rfl, rfl⟩ := hrel
                by_cases hqn : q < ins.length
                · have hqn' : (q : Int) < ins.length := by omega
                  obtain ⟨ad3, hix3, hadc3, hadb3⟩ := HN3.out.ix q hqn
                  generalize bs ins[q] = x3 at *
                  by_cases t4 : (200 : Int) < (x3.size : Int)
                  · go_wp2_with fail
                    go_ret
                    exact ⟨true, rfl, HWW.out⟩
                  · go_wp2_with fail
                    go_roundw
                    case rel => exact ⟨q + 1, by omega, by go_num, by first | rfl | trivial⟩
                    case measure => simp [intOf]; omega
                · obtain rfl : q = ins.length := by omega
                  go_wp2_with fail
                  go_roundw
                  case rel => exact ⟨k + 1, by omega, by go_num, HCC.out⟩
                  case measure => simp [intOf]; omega
            · obtain rfl : k = g.acts.length := by omega
              go_wp2_with fail
              go_ret
              exact ⟨false, rfl, HW.out⟩
def BlobPost (w : World) (srcs : List SrcR) (s : Nm) (e : Ending) (w' : World) : Prop :=
  ∃ (b : ByteArray) (B : Bool), e = .returned (.tuple #[.string b, .bool B]) ∧ ((B = true ∧ ∃ k, ∃ (hk : k < srcs.length), srcs[k].1 = s ∧ b = srcs[k].2) ∨ (B = false ∧ s ∉ srcs.map Prod.fst)) ∧ w = w'
set_option maxRecDepth 100000 in
set_option maxHeartbeats 4000000 in
theorem oblob_any (srcs : List SrcR) (s : Nm) (v : Value) (w : World) (hss : SrcsAt w v srcs) : Calls Tryz.prog 23 #[v, .string (bs s)] w (BlobPost w srcs s) := by
  have hlen := hss.len
  have hmx := hss.rows.le
  unfold maxLen at hmx
  have H := hid hss
  clear hss
  go_enter Tryz.func23, Tryz.ntmps23
  go_wp2_with fail
  go_loopw [6] (fun i wr => ∃ k : Nat, k ≤ srcs.length ∧ i = .int .i64 k ∧ wr = w ∧ ∀ j (h : j < srcs.length), j < k → ¬ srcs[j].1 = s) (fun i _ => srcs.length - (intOf i).toNat)
  case atStart => exact ⟨0, Nat.zero_le _, rfl, rfl, fun j _ h => absurd h (Nat.not_lt_zero _)⟩
  case round =>
    obtain ⟨k, hk, rfl, rfl, hall⟩ := hrel
    have HA := hid hall
    clear hall
    by_cases hkn : k < srcs.length
    · have hkn' : (k : Int) < srcs.length := by omega
      obtain ⟨bb, oo, hix, e0, e1, hlt⟩ := H.out.ix k hkn
      by_cases he : srcs[k].1 = s
      · have HE := hid he
        rw [he] at e0
        clear he
        generalize hx : bs s = x at *
        go_wp2_with fail
        go_ret2
        exact ⟨_, true, rfl, .inl ⟨rfl, k, hkn, HE.out, rfl⟩, rfl⟩
      · have hne := bs_eq srcs[k].1 s
        rw [decide_eq_false he] at hne
        have HE := hid he
        clear he
        generalize bs srcs[k].1 = nm at *
        generalize bs s = y at *
        go_wp2_with fail
        go_roundw
        case rel =>
          refine ⟨k + 1, by omega, by go_num, by first | rfl | trivial, fun j hj hjk => ?_⟩
          by_cases e : j = k
          · subst e
            exact HE.out
          · exact HA.out j hj (by omega)
        case measure => simp [intOf]; omega
    · obtain rfl : k = srcs.length := by omega
      go_wp2_with fail
      go_ret2
      refine ⟨_, false, rfl, .inr ⟨rfl, fun hm => ?_⟩, rfl⟩
      obtain ⟨x, hx, e⟩ := List.mem_map.1 hm
      obtain ⟨j, hj, rfl⟩ := List.mem_iff_getElem.1 hx
      exact HA.out j hj hj e
def ThatPost (w : World) (xs : List BltR) (s : Nm) (e : Ending) (w' : World) : Prop :=
  ∃ (rc : Int) (rb : ByteArray) (B : Bool), e = .returned (.tuple #[.agg #[.int .i64 rc, .string rb], .bool B]) ∧ ((B = true ∧ ∃ k, ∃ (hk : k < xs.length), xs[k].1 = s ∧ (rc, rb) = xs[k].2) ∨ (B = false ∧ s ∉ xs.map Prod.fst)) ∧ Chg (fun _ => False) w w'
set_option maxRecDepth 100000 in
set_option maxHeartbeats 4000000 in
theorem obuilt_any (xs : List BltR) (s : Nm) (v : Value) (w : World) (hss : BltAt w v xs) : Calls Tryz.prog 24 #[v, .string (bs s)] w (ThatPost w xs s) := by
  have hlen := hss.len
  have hmx := hss.rows.le
  unfold maxLen at hmx
  have H := hid hss
  clear hss
  have HK := hid (heap_alloc_new' w (.cells #[.int .i64 0, .string { data := #[] }] 47))
  have HC1 := hid (al_chg w (.cells #[.int .i64 0, .string { data := #[] }] 47))
  go_enter Tryz.func24, Tryz.ntmps24
  go_wp2_with fail
  generalize w.alloc (.cells #[.int .i64 0, .string { data := #[] }] 47) = W1 at *
  go_loopw [6] (fun i wr => ∃ k : Nat, k ≤ xs.length ∧ i = .int .i64 k ∧ wr = W1 ∧ ∀ j (h : j < xs.length), j < k → ¬ xs[j].1 = s) (fun i _ => xs.length - (intOf i).toNat)
  case atStart => exact ⟨0, Nat.zero_le _, rfl, rfl, fun j _ h => absurd h (Nat.not_lt_zero _)⟩
  case round =>
    obtain ⟨k, hk, rfl, rfl, hall⟩ := hrel
    have HA := hid hall
    clear hall
    by_cases hkn : k < xs.length
    · have hkn' : (k : Int) < xs.length := by omega
      obtain ⟨bb, oo, hix, e0, e1, e2, hlt⟩ := (H.out.chg HC1.out (fun _ _ h => h)).ix k hkn
      by_cases he : xs[k].1 = s
      · have HE := hid he
        rw [he] at e0
        clear he
        obtain ⟨rc, hrc⟩ : ∃ rc, rc = xs[k].2.1 := ⟨_, rfl⟩
        obtain ⟨rb, hrb⟩ : ∃ rb, rb = xs[k].2.2 := ⟨_, rfl⟩
        have HV : Hid ((rc, rb) = xs[k].2) := hid (by rw [hrc, hrb])
        rw [← hrc] at e1
        rw [← hrb] at e2
        clear hrc hrb
        generalize bs s = x at *
        have q0 := cell_of HK.out 0
        have q1 := cell_of HK.out 1
        have f0 := frozen_of HK.out 0
        have f1 := frozen_of HK.out 1
        simp at q0 q1
        have XS := hid (res_stored HK.out (.int .i64 rc) (.string rb))
        go_wp2_with fail
        refine bodyPost_ret (v := .tuple #[.agg #[.int .i64 rc, .string rb], .bool true]) (by simp [results, Tryz.results24, go_sem, XS.out.1, XS.out.2.1]) rfl ?_
        exact ⟨rc, rb, true, rfl, .inl ⟨rfl, k, hkn, HE.out, HV.out⟩, res_chg HC1.out (.int .i64 rc) (.string rb)⟩
      · have hne := bs_eq xs[k].1 s
        rw [decide_eq_false he] at hne
        have HE := hid he
        clear he
        generalize bs xs[k].1 = nm at *
        generalize bs s = y at *
        go_wp2_with fail
        go_roundw
        case rel =>
          refine ⟨k + 1, by omega, by go_num, by first | rfl | trivial, fun j hj hjk => ?_⟩
          by_cases e : j = k
          · subst e
            exact HE.out
          · exact HA.out j hj (by omega)
        case measure => simp [intOf]; omega
    · obtain rfl : k = xs.length := by omega
      have q0 := cell_of HK.out 0
      have q1 := cell_of HK.out 1
      have f0 := frozen_of HK.out 0
      have f1 := frozen_of HK.out 1
      simp at q0 q1
      have XS := hid (res_stored HK.out (.int .i64 0) (.string { data := #[] }))
      go_wp2_with fail
      refine bodyPost_ret (v := .tuple #[.agg #[.int .i64 0, .string { data := #[] }], .bool false]) (by simp [results, Tryz.results24, go_sem, XS.out.1, XS.out.2.1]) rfl ?_
      refine ⟨0, _, false, rfl, .inr ⟨rfl, fun hm => ?_⟩, res_chg HC1.out (.int .i64 0) (.string { data := #[] })⟩
      obtain ⟨x, hx, e⟩ := List.mem_map.1 hm
      obtain ⟨j, hj, rfl⟩ := List.mem_iff_getElem.1 hx
      exact HA.out j hj hj e
end Go.Proofs.YthglfmacjoecgaaGreatDoor
