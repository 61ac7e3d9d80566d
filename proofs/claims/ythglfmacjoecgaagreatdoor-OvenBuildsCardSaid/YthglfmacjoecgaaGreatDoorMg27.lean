/- Texts of the proof, one behind the other: apiarylaw09.great, blob, built walked; OvenRuns walked: it returns true; TrellisOrders walked: it returns true. -/
import Derived.Test.YthglfmacjoecgaaGreatDoorMg22
import Derived.Test.YthglfmacjoecgaaGreatDoorMg13
import Derived.Test.YthglfmacjoecgaaGreatDoorMg23
import Derived.Test.YthglfmacjoecgaaGreatDoorMg11
import Derived.Deep.QuietTactic
import Derived.BigQuiet
namespace Go.Proofs.YthglfmacjoecgaaGreatDoor
open Go.RowKit

/-- It answers, and leaves all as it was. -/
def Says (w : World) (e : Ending) (w' : World) : Prop := ∃ B : Bool, e = .returned (.bool B) ∧ Chg (fun _ => False) w w'
set_option maxRecDepth 100000 in
set_option maxHeartbeats 4000000 in
theorem ogreat_any (g : GrR) (srcs : List SrcR) (v sv0 : Value) (w : World) (hg : GrAt w v g) (hss : SrcsAt w sv0 srcs) : Calls Tryz.prog 16 #[v, sv0] w (Says w) := by
  obtain ⟨oa, c, ob, d, iv, rfl, hs, ha⟩ := hg.form
  obtain ⟨os, cs, rfl⟩ := hss.form
  have hmn := hss.rows.le
  have hms := hs.le
  have hma := ha.rows.le
  unfold maxLen at hms hma hmn
  have hC1 : Chg (fun _ => False) w (w.alloc (.cells #[.slice oa g.srcs.length c, .slice ob g.acts.length d] 25)) := (Chg.refl _ w).alloc _
  have k1 := heap_alloc_new' w (.cells #[.slice oa g.srcs.length c, .slice ob g.acts.length d] 25)
  have HC1 := hid hC1
  have HK := hid k1
  have HS := hid hs
  have HA := hid ha
  have HSS := hid hss
  clear hg hs ha hC1 k1 hss
  go_enter Tryz.func16, Tryz.ntmps16
  by_cases h30 : (30 : Int) < (g.srcs.length : Int)
  · go_wp2_with fail
    go_ret
    exact ⟨true, rfl, HC1.out⟩
  have d30 : decide ((30 : Int) < (g.srcs.length : Int)) = false := decide_eq_false h30
  by_cases h31 : (30 : Int) < (g.acts.length : Int)
  · go_wp2_with fail
    go_ret
    exact ⟨true, rfl, HC1.out⟩
  have d31 : decide ((30 : Int) < (g.acts.length : Int)) = false := decide_eq_false h31
  by_cases h32 : (30 : Int) < (srcs.length : Int)
  · go_wp2_with fail
    go_ret
    exact ⟨true, rfl, HC1.out⟩
  have d32 : decide ((30 : Int) < (srcs.length : Int)) = false := decide_eq_false h32
  go_wp2_with fail
  clear d30 d31 d32
  generalize w.alloc (.cells #[.slice oa g.srcs.length c, .slice ob g.acts.length d] 25) = W1 at *
  have c0 := cell_of HK.out 0
  have c1 := cell_of HK.out 1
  simp at c0 c1
  go_loopw [5] (fun i wr => ∃ k : Nat, k ≤ g.srcs.length ∧ i = .int .i64 k ∧ wr = W1) (fun i _ => g.srcs.length - (intOf i).toNat)
  case atStart => exact ⟨0, Nat.zero_le _, rfl, rfl⟩
  case round =>
    obtain ⟨k, hk, rfl, rfl⟩ := hrel
    by_cases hkn : k < g.srcs.length
    · have hkn' : (k : Int) < g.srcs.length := by omega
      obtain ⟨ad, hix, hadc, hadb⟩ := (HS.out.chg HC1.out (fun _ _ h => h)).ix k hkn
      generalize bs g.srcs[k] = x at *
      by_cases h200 : (200 : Int) < (x.size : Int)
      · go_wp2_with fail
        go_ret
        exact ⟨true, rfl, HC1.out⟩
      · go_wp2_with fail
        go_roundw
        case rel => exact ⟨k + 1, by omega, by go_num, by first | rfl | trivial⟩
        case measure => simp [intOf]; omega
    · obtain rfl : k = g.srcs.length := by omega
      go_wp2_with fail
      go_loopw [6] (fun i wr2 => ∃ k : Nat, k ≤ srcs.length ∧ i = .int .i64 k ∧ wr2 = wr) (fun i _ => srcs.length - (intOf i).toNat)
      case atStart => exact ⟨0, Nat.zero_le _, rfl, rfl⟩
      case round =>
        obtain ⟨k, hk, rfl, rfl⟩ := hrel
        by_cases hkn : k < srcs.length
        · have hkn' : (k : Int) < srcs.length := by omega
          obtain ⟨bb, oo, hix, e0, e1, hlt⟩ := (HSS.out.chg HC1.out (fun _ _ h => h)).ix k hkn
          generalize bs srcs[k].1 = x at *
          generalize srcs[k].2 = y at *
          by_cases h200 : (200 : Int) < (x.size : Int)
          · go_wp2_with fail
            go_ret
            exact ⟨true, rfl, HC1.out⟩
          · have d1 : decide ((200 : Int) < (x.size : Int)) = false := decide_eq_false h200
            by_cases h1000 : (1000 : Int) < (y.size : Int)
            · go_wp2_with fail
              go_ret
              exact ⟨true, rfl, HC1.out⟩
            · have d2 : decide ((1000 : Int) < (y.size : Int)) = false := decide_eq_false h1000
              go_wp2_with fail
              go_roundw
              case rel => exact ⟨k + 1, by omega, by go_num, by first | rfl | trivial⟩
              case measure => simp [intOf]; omega
        · obtain rfl : k = srcs.length := by omega
          go_wp2_with fail
          obtain ⟨wo, hwo⟩ : ∃ wo, wo = wr := ⟨_, rfl⟩
          rw [← hwo] at HC1 HK c0 c1 ⊢
          clear hwo
          go_loopw [7] (fun i wr => ∃ k : Nat, k ≤ g.acts.length ∧ i = .int .i64 k ∧ Chg (fun _ => False) wo wr) (fun i _ => g.acts.length - (intOf i).toNat)
          case atStart => exact ⟨0, Nat.zero_le _, rfl, Chg.refl _ _⟩
          case round =>
            obtain ⟨k, hk, rfl, hch⟩ := hrel
            have e0 := hch.cell c0 (fun h => h)
            have e1 := hch.cell c1 (fun h => h)
            have HCH := hid hch
            have HW := hid (HC1.out.trans hch (fun _ _ h => h))
            clear hch
            by_cases hkn : k < g.acts.length
            · have hkn' : (k : Int) < g.acts.length := by omega
              obtain ⟨bb, oo, hix, hlt, p0, p1, p2, hns, hw1, hw2⟩ := (HA.out.chg HW.out (fun _ _ h => h)).at k hkn
              obtain ⟨oi, ci, hiv⟩ := hns.form
              rw [hiv] at p1 hns
              have hli := hns.le
              unfold maxLen at hli
              clear hiv hw1 hw2
              have HNS := hid hns
              clear hns
              generalize bs g.acts[k].name = x1 at *
              generalize bs g.acts[k].code = x2 at *
              generalize g.acts[k].ins = ins at *
              by_cases t1 : (200 : Int) < (x1.size : Int)
              · go_wp2_with fail
                go_ret
                exact ⟨true, rfl, HW.out.alloc _⟩
              have d1 : decide ((200 : Int) < (x1.size : Int)) = false := decide_eq_false t1
              by_cases t2 : (200 : Int) < (x2.size : Int)
              · go_wp2_with fail
                go_ret
                exact ⟨true, rfl, HW.out.alloc _⟩
              have d2 : decide ((200 : Int) < (x2.size : Int)) = false := decide_eq_false t2
              by_cases t3 : (10 : Int) < (ins.length : Int)
              · go_wp2_with fail
                go_ret
                exact ⟨true, rfl, HW.out.alloc _⟩
              have d3 : decide ((10 : Int) < (ins.length : Int)) = false := decide_eq_false t3
              have hwa : Chg (fun _ => False) wr (wr.alloc (.cells #[.string x1, .slice oi ins.length ci, .string x2] 43)) := (Chg.refl _ wr).alloc _
              have kA := heap_alloc_new' wr (.cells #[.string x1, .slice oi ins.length ci, .string x2] 43)
              have HN3 := hid (HNS.out.chg hwa (fun _ _ h => h))
              have HWA := hid hwa
              have HKA := hid kA
              clear hwa kA
              go_wp2_with fail
              generalize wr.alloc (.cells #[.string x1, .slice oi ins.length ci, .string x2] 43) = wa at *
              obtain ⟨A6, hA6⟩ : ∃ A6, A6 = wr.heap.size := ⟨_, rfl⟩
              rw [← hA6] at HKA ⊢
              clear hA6
              have r1 : wa.cell? ⟨A6, 1, none⟩ = some (.slice oi ins.length ci) := (cell_of HKA.out 1).trans rfl
              have HWW := hid (HW.out.trans HWA.out (fun _ _ h => h))
              have HCC := hid (HCH.out.trans HWA.out (fun _ _ h => h))
              go_loopw [9] (fun i wb => ∃ q : Nat, q ≤ ins.length ∧ i = .int .i64 q ∧ wb = wa) (fun i _ => ins.length - (intOf i).toNat)
              case atStart => exact ⟨0, Nat.zero_le _, rfl, rfl⟩
              case round =>
                obtain ⟨q, hq, rfl, rfl⟩ := hrel
                by_cases hqn : q < ins.length
                · have hqn' : (q : Int) < ins.length := by omega
                  obtain ⟨ad3, hix3, hadc3, hadb3⟩ := HN3.out.ix q hqn
                  generalize bs ins[q] = x3 at *
                  by_cases t4 : (200 : Int) < (x3.size : Int)
                  · go_wp2_with fail
                    go_ret
                    exact ⟨true, rfl, HWW.out⟩
                  · go_wp2_with fail
                    go_roundw
                    case rel => exact ⟨q + 1, by omega, by go_num, by first | rfl | trivial⟩
                    case measure => simp [intOf]; omega
                · obtain rfl : q = ins.length := by omega
                  go_wp2_with fail
                  go_roundw
                  case rel => exact ⟨k + 1, by omega, by go_num, HCC.out⟩
                  case measure => simp [intOf]; omega
            · obtain rfl : k = g.acts.length := by omega
              go_wp2_with fail
              go_ret
              exact ⟨false, rfl, HW.out⟩
def BlobPost (w : World) (srcs : List SrcR) (s : Nm) (e : Ending) (w' : World) : Prop :=
  ∃ (b : ByteArray) (B : Bool), e = .returned (.tuple #[.string b, .bool B]) ∧ ((B = true ∧ ∃ k, ∃ (hk : k < srcs.length), srcs[k].1 = s ∧ b = srcs[k].2) ∨ (B = false ∧ s ∉ srcs.map Prod.fst)) ∧ w = w'
set_option maxRecDepth 100000 in
set_option maxHeartbeats 4000000 in
theorem oblob_any (srcs : List SrcR) (s : Nm) (v : Value) (w : World) (hss : SrcsAt w v srcs) : Calls Tryz.prog 23 #[v, .string (bs s)] w (BlobPost w srcs s) := by
  have hlen := hss.len
  have hmx := hss.rows.le
  unfold maxLen at hmx
  have H := hid hss
  clear hss
  go_enter Tryz.func23, Tryz.ntmps23
  go_wp2_with fail
  go_loopw [6] (fun i wr => ∃ k : Nat, k ≤ srcs.length ∧ i = .int .i64 k ∧ wr = w ∧ ∀ j (h : j < srcs.length), j < k → ¬ srcs[j].1 = s) (fun i _ => srcs.length - (intOf i).toNat)
  case atStart => exact ⟨0, Nat.zero_le _, rfl, rfl, fun j _ h => absurd h (Nat.not_lt_zero _)⟩
  case round =>
    obtain ⟨k, hk, rfl, rfl, hall⟩ := hrel
    have HA := hid hall
    clear hall
    by_cases hkn : k < srcs.length
    · have hkn' : (k : Int) < srcs.length := by omega
      obtain ⟨bb, oo, hix, e0, e1, hlt⟩ := H.out.ix k hkn
      by_cases he : srcs[k].1 = s
      · have HE := hid he
        rw [he] at e0
        clear he
        generalize hx : bs s = x at *
        go_wp2_with fail
        go_ret2
        exact ⟨_, true, rfl, .inl ⟨rfl, k, hkn, HE.out, rfl⟩, rfl⟩
      · have hne := bs_eq srcs[k].1 s
        rw [decide_eq_false he] at hne
        have HE := hid he
        clear he
        generalize bs srcs[k].1 = nm at *
        generalize bs s = y at *
        go_wp2_with fail
        go_roundw
        case rel =>
          refine ⟨k + 1, by omega, by go_num, by first | rfl | trivial, fun j hj hjk => ?_⟩
          by_cases e : j = k
          · subst e
            exact HE.out
          · exact HA.out j hj (by omega)
        case measure => simp [intOf]; omega
    · obtain rfl : k = srcs.length := by omega
      go_wp2_with fail
      go_ret2
      refine ⟨_, false, rfl, .inr ⟨rfl, fun hm => ?_⟩, rfl⟩
      obtain ⟨x, hx, e⟩ := List.mem_map.1 hm
      obtain ⟨j, hj, rfl⟩ := List.mem_iff_getElem.1 hx
      exact HA.out j hj hj e
def ThatPost (w : World) (xs : List BltR) (s : Nm) (e : Ending) (w' : World) : Prop :=
  ∃ (rc : Int) (rb : ByteArray) (B : Bool), e = .returned (.tuple #[.agg #[.int .i64 rc, .string rb], .bool B]) ∧ ((B = true ∧ ∃ k, ∃ (hk : k < xs.length), xs[k].1 = s ∧ (rc, rb) = xs[k].2) ∨ (B = false ∧ s ∉ xs.map Prod.fst)) ∧ Chg (fun _ => False) w w'
set_option maxRecDepth 100000 in
set_option maxHeartbeats 4000000 in
theorem obuilt_any (xs : List BltR) (s : Nm) (v : Value) (w : World) (hss : BltAt w v xs) : Calls Tryz.prog 24 #[v, .string (bs s)] w (ThatPost w xs s) := by
  have hlen := hss.len
  have hmx := hss.rows.le
  unfold maxLen at hmx
  have H := hid hss
  clear hss
  have HK := hid (heap_alloc_new' w (.cells #[.int .i64 0, .string { data := #[] }] 47))
  have HC1 := hid (al_chg w (.cells #[.int .i64 0, .string { data := #[] }] 47))
  go_enter Tryz.func24, Tryz.ntmps24
  go_wp2_with fail
  generalize w.alloc (.cells #[.int .i64 0, .string { data := #[] }] 47) = W1 at *
  go_loopw [6] (fun i wr => ∃ k : Nat, k ≤ xs.length ∧ i = .int .i64 k ∧ wr = W1 ∧ ∀ j (h : j < xs.length), j < k → ¬ xs[j].1 = s) (fun i _ => xs.length - (intOf i).toNat)
  case atStart => exact ⟨0, Nat.zero_le _, rfl, rfl, fun j _ h => absurd h (Nat.not_lt_zero _)⟩
  case round =>
    obtain ⟨k, hk, rfl, rfl, hall⟩ := hrel
    have HA := hid hall
    clear hall
    by_cases hkn : k < xs.length
    · have hkn' : (k : Int) < xs.length := by omega
      obtain ⟨bb, oo, hix, e0, e1, e2, hlt⟩ := (H.out.chg HC1.out (fun _ _ h => h)).ix k hkn
      by_cases he : xs[k].1 = s
      · have HE := hid he
        rw [he] at e0
        clear he
        obtain ⟨rc, hrc⟩ : ∃ rc, rc = xs[k].2.1 := ⟨_, rfl⟩
        obtain ⟨rb, hrb⟩ : ∃ rb, rb = xs[k].2.2 := ⟨_, rfl⟩
        have HV : Hid ((rc, rb) = xs[k].2) := hid (by rw [hrc, hrb])
        rw [← hrc] at e1
        rw [← hrb] at e2
        clear hrc hrb
        generalize bs s = x at *
        have q0 := cell_of HK.out 0
        have q1 := cell_of HK.out 1
        have f0 := frozen_of HK.out 0
        have f1 := frozen_of HK.out 1
        simp at q0 q1
        have XS := hid (res_stored HK.out (.int .i64 rc) (.string rb))
        go_wp2_with fail
        refine bodyPost_ret (v := .tuple #[.agg #[.int .i64 rc, .string rb], .bool true]) (by simp [results, Tryz.results24, go_sem, XS.out.1, XS.out.2.1]) rfl ?_
        exact ⟨rc, rb, true, rfl, .inl ⟨rfl, k, hkn, HE.out, HV.out⟩, res_chg HC1.out (.int .i64 rc) (.string rb)⟩
      · have hne := bs_eq xs[k].1 s
        rw [decide_eq_false he] at hne
        have HE := hid he
        clear he
        generalize bs xs[k].1 = nm at *
        generalize bs s = y at *
        go_wp2_with fail
        go_roundw
        case rel =>
          refine ⟨k + 1, by omega, by go_num, by first | rfl | trivial, fun j hj hjk => ?_⟩
          by_cases e : j = k
          · subst e
            exact HE.out
          · exact HA.out j hj (by omega)
        case measure => simp [intOf]; omega
    · obtain rfl : k = xs.length := by omega
      have q0 := cell_of HK.out 0
      have q1 := cell_of HK.out 1
      have f0 := frozen_of HK.out 0
      have f1 := frozen_of HK.out 1
      simp at q0 q1
      have XS := hid (res_stored HK.out (.int .i64 0) (.string { data := #[] }))
      go_wp2_with fail
      refine bodyPost_ret (v := .tuple #[.agg #[.int .i64 0, .string { data := #[] }], .bool false]) (by simp [results, Tryz.results24, go_sem, XS.out.1, XS.out.2.1]) rfl ?_
      refine ⟨0, _, false, rfl, .inr ⟨rfl, fun hm => ?_⟩, res_chg HC1.out (.int .i64 0) (.string { data := #[] })⟩
      obtain ⟨x, hx, e⟩ := List.mem_map.1 hm
      obtain ⟨j, hj, rfl⟩ := List.mem_iff_getElem.1 hx
      exact HA.out j hj hj e
end Go.Proofs.YthglfmacjoecgaaGreatDoor
namespace Go.Proofs.YthglfmacjoecgaaGreatDoor
open Go.RowKit

theorem made_of_src {g : GrR} {srcs : List SrcR} (hD : Done g srcs) {k : Nat} (hk : k < srcs.length) : valT (madeS g srcs) srcs[k].1 = (0, srcs[k].2) := by
  unfold valT madeS
  have hm : srcs[k].1 ∈ srcs.map Prod.fst := List.mem_map.2 ⟨_, List.getElem_mem hk, rfl⟩
  rw [made_src hD.can.w srcs ((hD.fit.mem _).1 hm), srcT_mem hD.fit.nd (List.getElem_mem hk)]
  rfl
theorem made_of_act {g : GrR} (srcs : List SrcR) {k : Nat} (hk : k < (outT g srcs).length) : (outT g srcs)[k].2 = valT (madeS g srcs) (outT g srcs)[k].1 := by
  have h := hk
  rw [outT_len] at h
  rw [outT_get g srcs k h]
theorem in_out {g : GrR} {srcs : List SrcR} (hD : Done g srcs) {i : Nat} (hi : i < g.acts.length) {s : Nm} (hs : s ∈ g.acts[i].ins) (hn : s ∉ srcs.map Prod.fst) : s ∈ (outT g srcs).map Prod.fst := by
  have h := hD.can.w.ins _ (List.getElem_mem hi) s hs
  rcases mem_names.1 h with h1 | ⟨j, hj, h1⟩
  · exact absurd ((hD.fit.mem s).2 h1) hn
  · rw [nameAt_lt g j hj] at h1
    refine List.mem_map.2 ⟨(outT g srcs)[j]'(by rw [outT_len]; exact hj), List.getElem_mem _, ?_⟩
    rw [outT_get g srcs j hj]
    exact h1
/-- Whether one of these failed. -/
def failB (t : List (Nm × ResR)) (l : List Nm) : Bool := l.any fun s => decide ((valT t s).1 ≠ 0)
theorem failB_take (t : List (Nm × ResR)) (l : List Nm) (q : Nat) (h : q < l.length) : failB t (l.take (q + 1)) = (failB t (l.take q) || decide ((valT t l[q]).1 ≠ 0)) := by
  unfold failB
  rw [List.take_succ_eq_append_getElem h, List.any_append]
  simp
theorem out_made {g : GrR} {srcs : List SrcR} (hD : Done g srcs) {i : Nat} (hi : i < g.acts.length) : (outT g srcs)[i]'(by rw [outT_len]; exact hi) = (g.acts[i].name, makeF (bs g.acts[i].code) (g.acts[i].ins.map (valT (madeS g srcs)))) := by
  rw [outT_get g srcs i hi]
  congr 1
  have h := made_at (F := FF) hD.can srcs hi
  rw [nameAt_lt g i hi, codeAt_lt g i hi] at h
  unfold insT2 at h
  rw [insAt_lt g i hi] at h
  show (lval g.acts[i].name (madeT FF g srcs)).getD noRes = _
  rw [h]
  rfl
theorem makeF_fail {code : ByteArray} {t : List (Nm × ResR)} {l : List Nm} (h : failB t l = true) : makeF code (l.map (valT t)) = (34, ByteArray.empty) := by
  unfold failB at h
  rw [List.any_eq_true] at h
  obtain ⟨s, hs, h⟩ := h
  unfold makeF
  rw [if_pos ⟨valT t s, List.mem_map.2 ⟨s, hs, rfl⟩, by simpa using h⟩]
theorem makeF_fine {code : ByteArray} {t : List (Nm × ResR)} {l : List Nm} (h : failB t l = false) : makeF code (l.map (valT t)) = (((runOut hashS code (l.map fun s => (valT t s).2)).1.1 : Int), (runOut hashS code (l.map fun s => (valT t s).2)).1.2) := by
  unfold failB at h
  rw [List.any_eq_false] at h
  unfold makeF
  rw [if_neg]
  · rw [List.map_map]
    rfl
  · rintro ⟨r, hr, hn⟩
    obtain ⟨s, hs, rfl⟩ := List.mem_map.1 hr
    exact h s hs (by simpa using hn)
theorem equalIn_res (a : ResR) (ha : (Lit.int .i64 a.1).wf = true) (ha2 : a.2.size ≤ maxLen) (w : World) :
    (Op.equalIn 10000 47 (.agg #[.int .i64 a.1, .string a.2]) (.agg #[.int .i64 a.1, .string a.2])).run Tryz.prog w = .ok true w := by
  have hf : ∀ r : ResR, (resW r).formed Tryz.prog 47 = true := fun r => by kernel_rfl
  obtain ⟨r, e1, e2⟩ := run_equalIn_deep (P := Tryz.prog) 9998 2 47 (by kernel_rfl) w 2 2 (resW a) (resW a) _ _ (hf a) (hf a) (lits_res a ha ha2) (lits_res a ha ha2)
  rw [e2.2 rfl] at e1
  exact e1
theorem small_wf {r : ResR} (h : Small r) : (Lit.int .i64 r.1).wf = true := by
  have h1 := h.lo
  have h2 := h.hi
  simp [Lit.wf, IntKind.min, IntKind.max, IntKind.signed, IntKind.bits]
  omega
set_option maxRecDepth 100000 in
set_option maxHeartbeats 4000000 in
theorem oruns_any {B : Nat} (g : GrR) (srcs : List SrcR) (v sv0 : Value) (w : World) (hg : GrAt w v g) (hss : SrcsAt w sv0 srcs) (hT : TabsOK B w) (hB : B ≤ w.heap.size) : Calls Tryz.prog 4 #[v, sv0] w (Rets (.bool true) (Chg (fun _ => False) w)) := by
  obtain ⟨oa, c, ob, d, iv, rfl, hs, ha⟩ := hg.form
  obtain ⟨os, cs, rfl⟩ := hss.form
  have hma := ha.rows.le
  unfold maxLen at hma
  have hC1 : Chg (fun _ => False) w (w.alloc (.cells #[.slice oa g.srcs.length c, .slice ob g.acts.length d] 25)) := (Chg.refl _ w).alloc _
  have hgb := heap_alloc_new' w (.cells #[.slice oa g.srcs.length c, .slice ob g.acts.length d] 25)
  have HG := hid hg
  have HA := hid ha
  have HSS := hid hss
  have HC1 := hid hC1
  have HGB := hid hgb
  have HT := hid hT
  have HBB := hid hB
  clear hg hs ha hss hC1 hgb hT hB
  go_enter Tryz.func4, Tryz.ntmps4
  go_wp2_with fail
  refine (oawake_any _ (HT.out.keep HC1.out) (Nat.le_trans HBB.out HC1.out.size)).mono ?_
  rintro e w2 ⟨rfl, hc2⟩
  have HC2 := hid (HC1.out.trans hc2 (fun _ _ h => h))
  have HG2 := hid (hc2.obj HGB.out (fun h => h))
  clear hc2 HC1 HGB
  have a0 := cell_of HG2.out 0
  have a1 := cell_of HG2.out 1
  simp at a0 a1
  go_wp2_with fail
  refine (ogreat_any g srcs _ _ _ (HG.out.chg HC2.out (fun _ _ h => h)) (HSS.out.chg HC2.out (fun _ _ h => h))).mono ?_
  rintro e w3 ⟨b3, rfl, hc3⟩
  have HC3 := hid (HC2.out.trans hc3 (fun _ _ h => h))
  have HG3 := hid (hc3.obj HG2.out (fun h => h))
  clear hc3 a0 a1 HC2 HG2
  cases b3 with
  | true =>
    go_wp2_with fail
    go_ret
    exact ⟨rfl, HC3.out⟩
  | false =>
  have a0 := cell_of HG3.out 0
  have a1 := cell_of HG3.out 1
  simp at a0 a1
  go_wp2_with fail
  refine (obuild_any g srcs _ _ _ (HG.out.chg HC3.out (fun _ _ h => h)) (HSS.out.chg HC3.out (fun _ _ h => h)) (HT.out.keep HC3.out) (Nat.le_trans HBB.out HC3.out.size)).mono ?_
  rintro e w5 ⟨hc5, v5, rfl, hb5⟩
  have HC5 := hid (HC3.out.trans hc5 (fun _ _ h => h))
  have HG5 := hid (hc5.obj HG3.out (fun h => h))
  clear hc5 a0 a1 HC3 HG3
  have a1 := cell_of HG5.out 1
  simp at a1
  by_cases hz : ¬ checkS g srcs = 0
  · have hbe : ((checkS g srcs : Int) == 0) = false := by rw [beq_eq_false_iff_ne]; omega
    have ho : outS g srcs = [] := if_neg hz
    rw [ho] at hb5
    have hlen5 := hb5.len
    generalize checkS g srcs = cn at *
    go_wp2_with fail
    go_ret
    exact ⟨rfl, HC5.out⟩
  have hz := Decidable.not_not.1 hz
  have HD := hid (checkS_zero.1 hz)
  have ho : outS g srcs = outT g srcs := if_pos hz
  rw [ho] at hb5
  rw [hz]
  have hlen5 := hb5.len
  rw [outT_len] at hlen5
  have HB5 := hid hb5
  clear hz ho hb5
  have h12 := HD.out.can.w.acts12
  go_wp2_with fail
  go_loopw [7] (fun i wr => ∃ k : Nat, k ≤ g.acts.length ∧ i = .int .i64 k ∧ Chg (fun _ => False) w5 wr) (fun i _ => g.acts.length - (intOf i).toNat)
  case atStart => exact ⟨0, Nat.zero_le _, rfl, Chg.refl _ _⟩
  case round =>
    obtain ⟨k, hk, rfl, hch⟩ := hrel
    have HCH := hid hch
    have HCW := hid (HC5.out.trans hch (fun _ _ h => h))
    have e1 := hch.cell a1 (fun h => h)
    clear hch
    by_cases hkn : k < g.acts.length
    · have hkn' : (k : Int) < g.acts.length := by omega
      obtain ⟨bb, oo, hix, hlt, p0, p1, p2, hns, hw1, hw2⟩ := (HA.out.chg HCW.out (fun _ _ h => h)).at k hkn
      obtain ⟨oi, ci, hiv⟩ := hns.form
      rw [hiv] at p1 hns
      have hsm := act_small HD.out.can.w hkn
      have HOM := hid (out_made HD.out hkn)
      have HIO := hid (fun s hs hn => in_out HD.out hkn (s := s) hs hn)
      have HKN := hid hkn
      clear hiv hw1 hw2
      generalize hnm : g.acts[k].name = nm at *
      generalize hcd : g.acts[k].code = cd at *
      generalize hins : g.acts[k].ins = ins at *
      clear hnm hcd hins
      have hA6 : Chg (fun _ => False) wr (wr.alloc (.cells #[.string (bs nm), .slice oi ins.length ci, .string (bs cd)] 43)) := (Chg.refl _ wr).alloc _
      have k6 := heap_alloc_new' wr (.cells #[.string (bs nm), .slice oi ins.length ci, .string (bs cd)] 43)
      have s6 : (wr.alloc (.cells #[.string (bs nm), .slice oi ins.length ci, .string (bs cd)] 43)).heap.size = wr.heap.size + 1 := by simp
      have HNS6 := hid (hns.chg hA6 (fun _ _ h => h))
      have HA6 := hid hA6
      have HK6 := hid k6
      have HS6 := hid s6
      clear hns hA6 k6 s6
      have HM := hid (show Hid (madeS g srcs = madeS g srcs) from hid rfl)
      have HSM : Hid (∀ s, Small (valT (madeS g srcs) s)) := hid (foldT_small g srcs HD.out.wide HD.out.fit.nd _ (orderR g) rfl)
      have HSR := hid (fun k hk => made_of_src HD.out (k := k) hk)
      have HAC := hid (fun k hk => made_of_act srcs (g := g) (k := k) hk)
      clear HM
      generalize madeS g srcs = t at *
      go_wp2_with fail
      generalize wr.alloc (.cells #[.string (bs nm), .slice oi ins.length ci, .string (bs cd)] 43) = W6 at *
      obtain ⟨bE, hbE⟩ : ∃ bE, bE = wr.heap.size + 1 := ⟨_, rfl⟩
      obtain ⟨A6, hA6⟩ : ∃ A6, A6 = wr.heap.size := ⟨_, rfl⟩
      have HO7 := hid (owns_emptyM W6 9 1)
      rw [HS6.out, ← hbE] at HO7
      rw [← hbE, ← hA6]
      rw [← hA6] at HK6
      have HBE : Hid (W6.heap.size = bE) := hid (by rw [HS6.out, hbE])
      have HAE : Hid (A6 + 1 = bE) := hid (by rw [hA6, hbE])
      clear hbE hA6
      have HC7 := hid ((HCW.out.trans HA6.out (fun _ _ h => h)).alloc (.cells #[] 9))
      have HC57 := hid ((HCH.out.trans HA6.out (fun _ _ h => h)).alloc (.cells #[] 9))
      have HK7 := hid (heap_alloc_old' HK6.out (.cells #[] 9))
      have HZ7 : Hid ((W6.alloc (.cells #[] 9)).heap.size = bE + 1) := hid (by simp [HBE.out])
      have HC67 := hid ((Chg.refl (fun _ => False) W6).alloc (.cells #[] 9))
      have HNS7 := hid (HNS6.out.chg ((Chg.refl (fun _ => False) W6).alloc (.cells #[] 9)) (fun _ _ h => h))
      generalize W6.alloc (.cells #[] 9) = W7 at *
      have r1 : W7.cell? ⟨A6, 1, none⟩ = some (.slice oi ins.length ci) := (cell_of HK7.out 1).trans rfl
      go_loopw [9, 10, 11] (fun v9 v10 v11 wx => ∃ (q : Nat) (x : Value), x = v9 ∧ q ≤ ins.length ∧ v11 = .int .i64 q ∧ v10 = .bool (failB t (ins.take q)) ∧ wx.ownsRow 0 9 1 x q (((ins.take q).map fun s => (valT t s).2).map Value.string) ∧ (∀ z, x.ownBlock = some z → bE ≤ z) ∧ Chg (fun z => z = bE) W7 wx) (fun _ _ v11 _ => ins.length - (intOf v11).toNat)
      case atStart => exact ⟨0, _, rfl, Nat.zero_le _, rfl, rfl, HO7.out, (fun z h => by obtain rfl := own_eq h; exact Nat.le_refl _), Chg.refl _ _⟩
      case round =>
        obtain ⟨q, x9, hx9, hq, rfl, rfl, hown, hbl, hcx⟩ := hrel
        subst hx9
        have HOWN := hid hown
        have HBL := hid hbl
        have HCX := hid hcx
        have HWE : Hid (w.heap.size ≤ bE ∧ w5.heap.size ≤ bE) := hid (by
          have h1 := HC7.out.size
          have h2 := HC57.out.size
          have h3 := HZ7.out
          have h4 := HBE.out
          have h5 := (HCW.out.trans HA6.out (fun _ _ h => h)).size
          have h6 := (HCH.out.trans HA6.out (fun _ _ h => h)).size
          omega)
        have HCA : Hid (Chg (fun _ => False) w wr) := hid (HC7.out.trans hcx (fun i hi h => by have := HWE.out; omega))
        have HC5A : Hid (Chg (fun _ => False) w5 wr) := hid (HC57.out.trans hcx (fun i hi h => by have := HWE.out; omega))
        have HC6A : Hid (Chg (fun z => z = bE) W6 wr) := hid ((HC67.out.mono (G := fun z => z = bE) (fun _ _ h => h.elim)).trans hcx (fun _ _ h => h))
        have r2 : wr.cell? ⟨A6, 1, none⟩ = some (.slice oi ins.length ci) := hcx.cell r1 (by have := HAE.out; show ¬ A6 = bE; omega)
        clear hown hbl hcx
        have hi4 : ins.length ≤ 4 := hsm.1
        by_cases hqn : q < ins.length
        · have hqn' : (q : Int) < ins.length := by omega
          obtain ⟨ad3, hix3, hadc3, hadb3⟩ := (HNS6.out.chg HC6A.out (fun z hz e => by have := HBE.out; omega)).ix q hqn
          have HMQ := hid (List.getElem_mem hqn)
          have HFT := hid (failB_take t ins q hqn)
          have HTK : Hid (((ins.take (q + 1)).map fun s => (valT t s).2).map Value.string = ((ins.take q).map fun s => (valT t s).2).map Value.string ++ [.string (valT t ins[q]).2]) := hid (by rw [List.take_succ_eq_append_getElem hqn, List.map_append, List.map_append]; rfl)
          generalize ins[q] = s3 at *
          generalize failB t (ins.take q) = fb at *
          go_wp2_with fail
          refine (oblob_any srcs s3 _ _ (HSS.out.chg HCA.out (fun _ _ h => h))).mono ?_
          rintro e w6 ⟨b, B3, rfl, hb, rfl⟩
          rcases hb with ⟨rfl, kk, hkk, he, rfl⟩ | ⟨rfl, hn⟩
          · have hv := HSR.out kk hkk
            rw [he] at hv
            have HV := hid hv
            rw [hv] at HFT HTK
            clear he hv
            generalize srcs[kk].2 = b at *
            go_wp2_with (guard_target =~ wpList _ _ _ (Oper.mk (some 95) _ _ _ _ _ :: _) _ _; refine wpList_append_new rfl _ _ 22 rfl elStr HOWN.out rfl #[.string b] 1 1 rfl rfl rfl (by unfold maxLen; omega) (by omega) (by decide) ?_; intro g6 cap6 w6 hown6 hch6 hg6)
            go_roundw
            case rel =>
              refine ⟨q + 1, _, rfl, by omega, by go_num, by rw [HFT.out]; simp, by rw [HTK.out]; exact hown6, fun z hz => ?_, HCX.out.trans hch6 (fun z hz h => by have := HBL.out z h; have := HZ7.out; omega)⟩
              obtain rfl := own_eq hz
              rcases hg6 with h | h
              · exact HBL.out _ h
              · have := HCX.out.size; have := HZ7.out; omega
            case measure => simp [intOf]; omega
          · go_wp2_with fail
            refine (obuilt_any (outT g srcs) s3 _ _ (HB5.out.chg HC5A.out (fun _ _ h => h))).mono ?_
            rintro e w6 ⟨rc, rb, B3, rfl, hb, hc6⟩
            have hB3 : B3 = true := by
              rcases hb with ⟨h, _⟩ | ⟨_, hn2⟩
              · exact h
              · exact absurd (HIO.out s3 HMQ.out hn) hn2
            subst hB3
            obtain ⟨kk, hkk, he, hv0⟩ : ∃ kk, ∃ (hkk : kk < (outT g srcs).length), (outT g srcs)[kk].1 = s3 ∧ (rc, rb) = (outT g srcs)[kk].2 := by
              rcases hb with ⟨_, h⟩ | ⟨h, _⟩
              · exact h
              · cases h
            have hv : valT t s3 = (rc, rb) := by
              rw [hv0, HAC.out kk hkk, he]
            rw [hv] at HFT HTK
            have HOWN6 := hid ((hc6.owns HOWN.out (fun _ _ h => h)).alloc (.cells #[.int .i64 rc, .string rb] 47))
            have HC6B := hid (hc6.alloc (.cells #[.int .i64 rc, .string rb] 47))
            clear hv hv0 he hn hc6
            cases fb with
            | true =>
              go_wp2_with (guard_target =~ wpList _ _ _ (Oper.mk (some 95) _ _ _ _ _ :: _) _ _; refine wpList_append_new rfl _ _ 22 rfl elStr HOWN6.out rfl #[.string rb] 1 1 (by exact congrArg (fun k : Nat => Value.slice (some ⟨k, 0, none⟩) 1 1) (show _ = _ by simp)) rfl rfl (by unfold maxLen; omega) (by omega) (by decide) ?_; intro g6 cap6 w8 hown6 hch6 hg6)
              go_roundw
              case rel =>
                refine ⟨q + 1, _, rfl, by omega, by go_num, by rw [HFT.out]; simp, by rw [HTK.out]; exact hown6, fun z hz => ?_, (HCX.out.trans HC6B.out (fun _ _ h => h.elim)).trans hch6 (fun z hz h => by have := HBL.out z h; have := HZ7.out; omega)⟩
                obtain rfl := own_eq hz
                rcases hg6 with h | h
                · exact HBL.out _ h
                · have h1 := HCX.out.size
                  have h2 := HC6B.out.size
                  have h3 := HZ7.out
                  omega
              case measure => simp [intOf]; omega
            | false =>
              by_cases h0 : rc = 0
              · subst h0
                go_wp2_with (guard_target =~ wpList _ _ _ (Oper.mk (some 95) _ _ _ _ _ :: _) _ _; refine wpList_append_new rfl _ _ 22 rfl elStr HOWN6.out rfl #[.string rb] 1 1 (by exact congrArg (fun k : Nat => Value.slice (some ⟨k, 0, none⟩) 1 1) (show _ = _ by simp)) rfl rfl (by unfold maxLen; omega) (by omega) (by decide) ?_; intro g6 cap6 w8 hown6 hch6 hg6)
                go_roundw
                case rel =>
                  refine ⟨q + 1, _, rfl, by omega, by go_num, by rw [HFT.out]; simp, by rw [HTK.out]; exact hown6, fun z hz => ?_, (HCX.out.trans HC6B.out (fun _ _ h => h.elim)).trans hch6 (fun z hz h => by have := HBL.out z h; have := HZ7.out; omega)⟩
                  obtain rfl := own_eq hz
                  rcases hg6 with h | h
                  · exact HBL.out _ h
                  · have h1 := HCX.out.size
                    have h2 := HC6B.out.size
                    have h3 := HZ7.out
                    omega
                case measure => simp [intOf]; omega
              · have hne : (rc == 0) = false := by rw [beq_eq_false_iff_ne]; exact h0
                go_wp2_with (guard_target =~ wpList _ _ _ (Oper.mk (some 95) _ _ _ _ _ :: _) _ _; refine wpList_append_new rfl _ _ 22 rfl elStr HOWN6.out rfl #[.string rb] 1 1 (by exact congrArg (fun k : Nat => Value.slice (some ⟨k, 0, none⟩) 1 1) (show _ = _ by simp)) rfl rfl (by unfold maxLen; omega) (by omega) (by decide) ?_; intro g6 cap6 w8 hown6 hch6 hg6)
                go_roundw
                case rel =>
                  refine ⟨q + 1, _, rfl, by omega, by go_num, by rw [HFT.out]; simp [h0], by rw [HTK.out]; exact hown6, fun z hz => ?_, (HCX.out.trans HC6B.out (fun _ _ h => h.elim)).trans hch6 (fun z hz h => by have := HBL.out z h; have := HZ7.out; omega)⟩
                  obtain rfl := own_eq hz
                  rcases hg6 with h | h
                  · exact HBL.out _ h
                  · have h1 := HCX.out.size
                    have h2 := HC6B.out.size
                    have h3 := HZ7.out
                    omega
                case measure => simp [intOf]; omega
        · obtain rfl : q = ins.length := by omega
          have hown2 := HOWN.out
          rw [List.take_length] at hown2
          have hstr : StrsAt wr x9 (ins.map fun s => (valT t s).2) := strs_own hown2 (by simp) (by simp; omega) (fun b hb => by
            obtain ⟨s, _, rfl⟩ := List.mem_map.1 hb
            have := (HSM.out s).wide
            omega)
          have hrun := run_h (bs cd) (by rw [bs_size]; unfold maxLen; omega) x9 (ins.map fun s => (valT t s).2) wr hstr (HT.out.keep HCA.out) (Nat.le_trans HBB.out HCA.out.size)
          rw [List.take_length]
          obtain ⟨fl, hF⟩ : ∃ fl, failB t ins = fl := ⟨_, rfl⟩
          rw [hF]
          obtain ⟨c9, hc9e⟩ : ∃ c9, c9 = (runOut hashS (bs cd) (ins.map fun s => (valT t s).2)).1.1 := ⟨_, rfl⟩
          obtain ⟨b9, hb9e⟩ : ∃ b9, b9 = (runOut hashS (bs cd) (ins.map fun s => (valT t s).2)).1.2 := ⟨_, rfl⟩
          have HR9 : Hid ((runOut hashS (bs cd) (ins.map fun s => (valT t s).2)).1.1 = c9 ∧ (runOut hashS (bs cd) (ins.map fun s => (valT t s).2)).1.2 = b9) := hid ⟨hc9e.symm, hb9e.symm⟩
          rw [← hc9e, ← hb9e] at hrun
          generalize (runOut hashS (bs cd) (ins.map fun s => (valT t s).2)).2 = n9 at *
          unfold resV at hrun
          have r0 : wr.cell? ⟨A6, 0, none⟩ = some (.string (bs nm)) := HCX.out.cell ((cell_of HK7.out 0).trans rfl) (by have := HAE.out; show ¬ A6 = bE; omega)
          have r3 : wr.cell? ⟨A6, 2, none⟩ = some (.string (bs cd)) := HCX.out.cell ((cell_of HK7.out 2).trans rfl) (by have := HAE.out; show ¬ A6 = bE; omega)
          clear hown2 hstr hc9e hb9e
          go_upto_region 28 with (go_at_call 25; refine hrun.mono ?_; rintro e w9 ⟨rfl, hc9⟩)
          cases fl with
          | true =>
            have hmk : makeF (bs cd) (ins.map (valT t)) = (34, { data := #[] }) := makeF_fail hF
            have hom := HOM.out
            rw [hmk] at hom
            obtain ⟨b5, o5, hix5, x0, x1, x2, hlt5⟩ := (HB5.out.chg (HC5A.out.trans hc9 (fun _ _ h => h)) (fun _ _ h => h)).ix k (by rw [outT_len]; exact HKN.out)
            rw [hom] at x0 x1 x2
            have hsw := makeF_small (bs cd) (ins.map (valT t))
            rw [hmk] at hsw
            have heqI := equalIn_res (34, { data := #[] }) (small_wf hsw) (by have := hsw.wide; unfold maxLen; omega)
            simp only at x0 x1 x2 heqI
            have u0 := cell_alloc' (hc9.cell r0 (fun h => h)) (.cells #[.int .i64 34, .string { data := #[] }] 47)
            have y0 := cell_alloc' x0 (.cells #[.int .i64 34, .string { data := #[] }] 47)
            have y1 := cell_alloc' x1 (.cells #[.int .i64 34, .string { data := #[] }] 47)
            have y2 := cell_alloc' x2 (.cells #[.int .i64 34, .string { data := #[] }] 47)
            have z10 := heap_alloc_new' w9 (.cells #[.int .i64 34, .string { data := #[] }] 47)
            have z0 : (w9.alloc (.cells #[.int .i64 34, .string { data := #[] }] 47)).cell? ⟨w9.heap.size, 0, none⟩ = some (.int .i64 34) := (cell_of z10 0).trans rfl
            have z1 : (w9.alloc (.cells #[.int .i64 34, .string { data := #[] }] 47)).cell? ⟨w9.heap.size, 1, none⟩ = some (.string { data := #[] }) := (cell_of z10 1).trans rfl
            have HCE := hid ((HC5A.out.trans hc9 (fun _ _ h => h)).alloc (.cells #[.int .i64 34, .string { data := #[] }] 47))
            clear hom hmk hsw z10
            go_wp2_with fail
            clear x0 x1 x2 hrun r0 r1 r2 r3 p0 p1 p2
            generalize w9.alloc (.cells #[.int .i64 34, .string { data := #[] }] 47) = W10 at *
            go_quiet (fail)
            go_wp2_with fail
            go_roundw
            case rel => exact ⟨k + 1, by have := HKN.out; omega, by go_num, HCE.out.drewN _⟩
            case measure => simp [intOf]; have := HKN.out; omega
          | false =>
            have hmk : makeF (bs cd) (ins.map (valT t)) = ((c9 : Int), b9) := by rw [makeF_fine hF, HR9.out.1, HR9.out.2]
            have hom := HOM.out
            rw [hmk] at hom
            obtain ⟨b5, o5, hix5, x0, x1, x2, hlt5⟩ := (HB5.out.chg (HC5A.out.trans hc9 (fun _ _ h => h)) (fun _ _ h => h)).ix k (by rw [outT_len]; exact HKN.out)
            rw [hom] at x0 x1 x2
            have hsw := makeF_small (bs cd) (ins.map (valT t))
            rw [hmk] at hsw
            have heqI := equalIn_res ((c9 : Int), b9) (small_wf hsw) (by have := hsw.wide; unfold maxLen; omega)
            simp only at x0 x1 x2 heqI
            have u0 := cell_alloc' (hc9.cell r0 (fun h => h)) (.cells #[.int .i64 (c9 : Int), .string b9] 47)
            have y0 := cell_alloc' x0 (.cells #[.int .i64 (c9 : Int), .string b9] 47)
            have y1 := cell_alloc' x1 (.cells #[.int .i64 (c9 : Int), .string b9] 47)
            have y2 := cell_alloc' x2 (.cells #[.int .i64 (c9 : Int), .string b9] 47)
            have z10 := heap_alloc_new' w9 (.cells #[.int .i64 (c9 : Int), .string b9] 47)
            have z0 : (w9.alloc (.cells #[.int .i64 (c9 : Int), .string b9] 47)).cell? ⟨w9.heap.size, 0, none⟩ = some (.int .i64 (c9 : Int)) := (cell_of z10 0).trans rfl
            have z1 : (w9.alloc (.cells #[.int .i64 (c9 : Int), .string b9] 47)).cell? ⟨w9.heap.size, 1, none⟩ = some (.string b9) := (cell_of z10 1).trans rfl
            have HCE := hid ((HC5A.out.trans hc9 (fun _ _ h => h)).alloc (.cells #[.int .i64 (c9 : Int), .string b9] 47))
            clear hom hmk hsw z10
            go_wp2_with fail
            clear x0 x1 x2 hrun r0 r1 r2 r3 p0 p1 p2
            generalize w9.alloc (.cells #[.int .i64 (c9 : Int), .string b9] 47) = W10 at *
            go_quiet (fail)
            go_wp2_with fail
            go_roundw
            case rel => exact ⟨k + 1, by have := HKN.out; omega, by go_num, HCE.out.drewN _⟩
            case measure => simp [intOf]; have := HKN.out; omega
    · obtain rfl : k = g.acts.length := by omega
      go_wp2_with fail
      go_ret
      exact ⟨rfl, HCW.out⟩
end Go.Proofs.YthglfmacjoecgaaGreatDoor
namespace Go.Proofs.YthglfmacjoecgaaGreatDoor
open Go.RowKit

theorem QRow.names {w : World} {v : Value} {l : List Nm} (h : QRow w 9 v (l.map nmV)) (hw : ∀ s ∈ l, s.length ≤ 1000) : NamesAt w v l := by
  rcases h with ⟨rfl, h0⟩ | ⟨g, o, cap, cur, rfl, hg, hl, hm, hcs, ht⟩
  · have : l = [] := by simpa using h0
    subst this
    exact ⟨.inl ⟨rfl, rfl⟩, Nat.zero_le _, by simp⟩
  · refine ⟨.inr ⟨⟨g, o, none⟩, cap, by simp, fun i hi => ?_⟩, by simp at hl ⊢; omega, fun s hs => by obtain ⟨y, hy, rfl⟩ := List.mem_map.1 hs; rw [bs_size]; have := hw y hy; unfold maxLen; omega⟩
    have hi' : i < l.length := by simpa using hi
    have hadd : (⟨g, o, none⟩ : Addr).add i = ⟨g, o + i, none⟩ := by unfold Addr.add; split <;> simp_all
    rw [hadd, cell_of hg, ← Array.getElem?_toList]
    have h2 : ((cur.toList.drop o).take (l.map nmV).length)[i]? = (l.map nmV)[i]? := by rw [ht]
    rw [List.getElem?_take, if_pos (by simpa using hi'), List.getElem?_drop] at h2
    rw [h2]
    simp [hi']
theorem QRow.empty (w : World) : QRow (w.alloc (.cells #[] 9)) 9 (.slice (some ⟨w.heap.size, 0, none⟩) 0 0) [] := .inr ⟨w.heap.size, 0, 0, #[], rfl, heap_alloc_new' w _, Nat.zero_le _, Nat.zero_le _, Nat.zero_le _, rfl⟩
theorem nil_names (w : World) : NamesAt w (.slice none 0 0) [] := ⟨.inl ⟨rfl, rfl⟩, Nat.zero_le _, by simp⟩

def doneK (g : GrR) (k : Nat) : List Nm := g.srcs ++ ((orderR g).take k).map (nameAt g)
theorem doneK_succ (g : GrR) (k : Nat) (h : k < (orderR g).length) : doneK g (k + 1) = doneK g k ++ [nameAt g (orderR g)[k]] := by
  unfold doneK
  rw [List.take_succ_eq_append_getElem h, List.map_append, List.append_assoc]
  rfl
theorem Can.fresh {g : GrR} (hc : Can g) (k : Nat) (h : k < (orderR g).length) : nameAt g (orderR g)[k] ∉ doneK g k := by
  have ho := orderR_ordd g
  have hlt := ho.lt _ (List.getElem_mem h)
  unfold doneK
  intro hm
  rcases List.mem_append.1 hm with hm | hm
  · exact hc.w.apart hlt hm
  · obtain ⟨j, hj, e⟩ := List.mem_map.1 hm
    obtain ⟨q, hq, rfl⟩ := List.mem_iff_getElem.1 hj
    simp only [List.length_take] at hq
    rw [List.getElem_take] at e
    have e2 := hc.w.inj (ho.lt _ (List.getElem_mem (by omega))) hlt e
    exact (List.pairwise_iff_getElem.1 ho.nd) q k (by omega) h (by omega) e2
theorem Can.behind {g : GrR} (k : Nat) (h : k < (orderR g).length) : ∀ s ∈ insAt g (orderR g)[k], s ∈ doneK g k := by
  intro s hs
  unfold doneK
  rcases (orderR_ordd g).sup k h s hs with h1 | ⟨j, hj, h1⟩
  · exact List.mem_append_left _ h1
  · refine List.mem_append_right _ (List.mem_map.2 ⟨(orderR g)[j], ?_, h1⟩)
    rw [List.mem_iff_getElem]
    exact ⟨j, by simp; omega, by rw [List.getElem_take]⟩
theorem Can.done8 {g : GrR} (hc : Can g) (k : Nat) : ∀ s ∈ doneK g k, s.length ≤ 8 := by
  intro s hs
  refine name_le hc.w ?_
  unfold doneK at hs
  rcases List.mem_append.1 hs with hs | hs
  · exact mem_names.2 (.inl hs)
  · obtain ⟨j, hj, e⟩ := List.mem_map.1 hs
    exact mem_names.2 (.inr ⟨j, (orderR_ordd g).lt _ (List.mem_of_mem_take hj), e⟩)

end Go.Proofs.YthglfmacjoecgaaGreatDoor
