/- trellis.woven walked. -/
import Derived.Test.YtafdcmhckpdnbaaDoorTrD
import Derived.StillTailTactics
import Derived.BigQuiet
import Derived.Deep.QuietTactic
namespace Go.Proofs.YtafdcmhckpdnbaaDoor
open Go.RowKit

def WovenPost (w : World) (g : GrR) (e : Ending) (w' : World) : Prop :=
  Chg (fun _ => False) w w' ∧ ((wovenR g = 0 ∧ ∃ b, e = .returned (.tuple #[.pointer (some ⟨b, 0, none⟩), .int .i64 0]) ∧ IsWeb w' b g) ∨ (wovenR g ≠ 0 ∧ e = .returned (.tuple #[.pointer none, .int .i64 (wovenR g)])))
theorem MapL.al {κ ν : Type} {enc : κ → Value} {encv : ν → Value} {l : List (κ × ν)} {w : World} {r : Nat} (h : MapL w r enc encv l) (o : Obj) : MapL (w.alloc o) r enc encv l :=
  h.chg ((Chg.refl (fun _ => False) w).alloc o) (fun h => h)
theorem zeroI (w : World) : (zeroValue 3).run Tryd.prog w = .ok (.int .i64 0) w := by kernel_rfl

set_option maxRecDepth 100000 in
set_option maxHeartbeats 4000000 in
theorem woven_any (g : GrR) (v : Value) (w : World) (hg : GrAt w v g) : Calls Tryd.prog 35 #[v] w (WovenPost w g) := by
  have hpr : ∀ W, Chg (fun _ => False) w W → Calls Tryd.prog 47 #[v] W (Rets (.tuple #[.string (bs ((printR g).getD [])), .int .i64 (if grOK g = true then 0 else 1)]) (Chg (fun _ => False) W)) := fun W hW => print_any g v W (hg.chg hW (fun _ _ h => h))
  obtain ⟨oa, c, ob, d, iv, rfl, hs, ha⟩ := hg.form
  have hC1 : Chg (fun _ => False) w (w.alloc (.cells #[.slice oa g.srcs.length c, .slice ob g.acts.length d] 25)) := (Chg.refl _ w).alloc _
  have h1 := hpr _ hC1
  clear hpr hg
  cases hok : grOK g with
  | false =>
    have hw : wovenR g = 1 := by unfold wovenR; rw [hok]; rfl
    rw [hok] at h1
    have HW := hid hw
    clear hw hs ha
    go_enter Tryd.func35, Tryd.ntmps35
    go_wp2_with (go_at_call 47; refine h1.mono ?_; rintro e w' ⟨rfl, hc⟩)
    go_ret2
    refine ⟨hC1.trans hc (fun _ _ h => h), .inr ?_⟩
    rw [HW.out]
    exact ⟨by decide, rfl⟩
  | true =>
    rw [hok] at h1
    have hgb : (w.alloc (.cells #[.slice oa g.srcs.length c, .slice ob g.acts.length d] 25)).heap[w.heap.size]? = some (.cells #[.slice oa g.srcs.length c, .slice ob g.acts.length d] 25 (0, 0)) := heap_alloc_new' w _
    have hn1 := hs.le
    have hn2 := ha.rows.le
    unfold maxLen at hn1 hn2
    have hn8 : g.srcs.length ≤ 8 := ((grOK_iff g).1 hok).1
    have hn12 : g.acts.length ≤ 12 := ((grOK_iff g).1 hok).2.1
    have HS := hid hs
    have HA := hid ha
    have HG := hid hgb
    have HOK := hid hok
    clear hs ha hgb hok
    have hmm := @run_makeMap Tryd.prog
    go_enter Tryd.func35, Tryd.ntmps35
    go_wp2_with (go_at_call 47; refine h1.mono ?_; rintro e w2 ⟨rfl, hc2⟩; have p0 := cell_of (hc2.obj HG.out (fun h => h)) 0; have p1 := cell_of (hc2.obj HG.out (fun h => h)) 1; simp at p0 p1; have q0 := cell_alloc' (cell_alloc' (cell_of (hc2.obj HG.out (fun h => h)) 0) (.map #[] 0)) (.cells #[.slice oa g.srcs.length c, .slice ob g.acts.length d, .map (some w2.heap.size)] 58); simp at q0)
    have hlt : w.heap.size < w2.heap.size := by have := hc2.size; simp at this; omega
    have hch3 : Chg (fun _ => False) w ((w2.alloc (.map #[] 0)).alloc (.cells #[.slice oa g.srcs.length c, .slice ob g.acts.length d, .map (some w2.heap.size)] 58)) := ((hC1.trans hc2 (fun _ _ h => h)).alloc _).alloc _
    have hgb3 : ((w2.alloc (.map #[] 0)).alloc (.cells #[.slice oa g.srcs.length c, .slice ob g.acts.length d, .map (some w2.heap.size)] 58)).heap[w.heap.size]? = some (.cells #[.slice oa g.srcs.length c, .slice ob g.acts.length d] 25 (0, 0)) := heap_alloc_old' (heap_alloc_old' (hc2.obj HG.out (fun h => h)) _) _
    have hwb3 : ((w2.alloc (.map #[] 0)).alloc (.cells #[.slice oa g.srcs.length c, .slice ob g.acts.length d, .map (some w2.heap.size)] 58)).heap[w2.heap.size + 1]? = some (.cells #[.slice oa g.srcs.length c, .slice ob g.acts.length d, .map (some w2.heap.size)] 58 (0, 0)) := by
      have := heap_alloc_new' (w2.alloc (.map #[] 0)) (.cells #[.slice oa g.srcs.length c, .slice ob g.acts.length d, .map (some w2.heap.size)] 58)
      simpa using this
    have hm3 : MapL ((w2.alloc (.map #[] 0)).alloc (.cells #[.slice oa g.srcs.length c, .slice ob g.acts.length d, .map (some w2.heap.size)] 58)) w2.heap.size nmV intV ([] : List (Nm × Int)) := (MapL.fresh w2).al _
    clear hc2 hC1 HG h1 q0 p0 p1
    generalize ((w2.alloc (.map #[] 0)).alloc (.cells #[.slice oa g.srcs.length c, .slice ob g.acts.length d, .map (some w2.heap.size)] 58)) = W3 at *
    obtain ⟨r, hr⟩ : ∃ r, r = w2.heap.size := ⟨_, rfl⟩
    obtain ⟨bw, hbw⟩ : ∃ bw, bw = w2.heap.size + 1 := ⟨_, rfl⟩
    obtain ⟨bg, hbg⟩ : ∃ bg, bg = w.heap.size := ⟨_, rfl⟩
    rw [← hbw, ← hr] at hwb3
    rw [← hr] at hm3
    rw [← hbg] at hgb3
    rw [← hbw, ← hr, ← hbg]
    have hne1 : ¬ bg = r := by omega
    have hne2 : ¬ bw = r := by omega
    have hwr : w.heap.size ≤ r := by omega
    clear hr hbw hlt
    have hfar : ∀ W, Chg (fun k => k = r) W3 W → Chg (fun _ => False) w W := fun W hW => hch3.trans hW (fun i hi h => by omega)
    have hgc : ∀ W, Chg (fun k => k = r) W3 W → W.cell? ⟨bg, 0, none⟩ = some (.slice oa g.srcs.length c) ∧ W.cell? ⟨bg, 1, none⟩ = some (.slice ob g.acts.length d) := fun W hW => ⟨cell_of (hW.obj hgb3 hne1) 0, cell_of (hW.obj hgb3 hne1) 1⟩
    have hwc : ∀ W, Chg (fun k => k = r) W3 W → W.cell? ⟨bw, 2, none⟩ = some (.map (some r)) := fun W hW => cell_of (hW.obj hwb3 hne2) 2
    have HF := hid hfar
    have HGC := hid hgc
    have HWC := hid hwc
    have HWB := hid hwb3
    have hm3' : MapL W3 r nmV intV (atL ((atPs g).take 0)) := hm3
    have HM3 := hid hm3'
    have HNE := hid (And.intro hne1 hne2)
    clear hfar hgc hwc hch3 hgb3 hwb3 hm3 hm3' hne1 hne2 hbg hwr
    go_loopw [31] (fun i wr => ∃ k : Nat, k ≤ g.srcs.length ∧ i = .int .i64 k ∧ Chg (fun k => k = r) W3 wr ∧ MapL wr r nmV intV (atL ((atPs g).take k))) (fun i _ => g.srcs.length - (intOf i).toNat)
    case atStart => exact ⟨0, Nat.zero_le _, rfl, Chg.refl _ _, HM3.out⟩
    case round =>
      obtain ⟨k, hk, rfl, hch, hm⟩ := hrel
      have HC := hid hch
      have HM := hid hm
      have q2 := HWC.out _ hch
      clear hch hm
      by_cases hkn : k < g.srcs.length
      · have hkn' : (k : Int) < g.srcs.length := by omega
        obtain ⟨ad, hix, hadc, hadb⟩ := (HS.out.chg (HF.out wr HC.out) (fun _ _ h => h)).ix k hkn
        have HP : Hid (∀ W', MapL W' r nmV intV (lput g.srcs[k] (-1) (atL ((atPs g).take k))) → MapL W' r nmV intV (atL ((atPs g).take (k + 1)))) := by
          intro W' h
          rw [atL_take _ k (by rw [atPs_length]; omega), atPs_src g k hkn]
          exact h
        generalize hnm : g.srcs[k] = nm at *
        have HNM := hid hnm
        clear hnm
        go_wp2_with (at_mapUpdate; refine wpList_mapUpdate_l rfl _ _ _ 56 rfl keyNm Tryd.underlying56 HM.out rfl nm rfl (-1 : Int) rfl ?_; intro w1 hm1 hc1)
        go_roundw
        case rel => exact ⟨k + 1, by omega, by go_num, HC.out.trans hc1 (fun _ _ h => h), HP.out _ hm1⟩
        case measure => simp [intOf]; omega
      · obtain rfl : k = g.srcs.length := by omega
        have q3 := (HGC.out _ HC.out).2
        have hlenA := HA.out.len
        have hm4 : MapL wr r nmV intV (atL ((atPs g).take (g.srcs.length + 0))) := HM.out
        have HM4 := hid hm4
        have HC4 := hid HC.out
        clear hm4
        go_wp2_with fail
        clear q2 q3 HM HC
        obtain ⟨wo, hwo⟩ : ∃ wo, wo = wr := ⟨_, rfl⟩
        rw [← hwo] at HM4 HC4 ⊢
        clear hwo
        go_loopw [44] (fun i wr => ∃ k : Nat, k ≤ g.acts.length ∧ i = .int .i64 k ∧ Chg (fun k => k = r) W3 wr ∧ MapL wr r nmV intV (atL ((atPs g).take (g.srcs.length + k)))) (fun i _ => g.acts.length - (intOf i).toNat)
        case atStart => exact ⟨0, Nat.zero_le _, rfl, HC4.out, HM4.out⟩
        case round =>
          obtain ⟨k, hk, rfl, hch, hm⟩ := hrel
          have HC := hid hch
          have HM := hid hm
          clear hch hm HC4 HM4
          by_cases hkn : k < g.acts.length
          · have hkn' : (k : Int) < g.acts.length := by omega
            obtain ⟨bb, oo, hix, hlt, e0, e1, e2, hns, hw1, hw2⟩ := (HA.out.chg (HF.out wr HC.out) (fun _ _ h => h)).at k hkn
            obtain ⟨oi, ci, hiv⟩ := hns.form
            rw [hiv] at e1
            have HP : Hid (∀ W', MapL W' r nmV intV (lput g.acts[k].name (k : Int) (atL ((atPs g).take (g.srcs.length + k)))) → MapL W' r nmV intV (atL ((atPs g).take (g.srcs.length + (k + 1))))) := by
              intro W' h
              rw [show g.srcs.length + (k + 1) = g.srcs.length + k + 1 by omega, atL_take _ _ (by rw [atPs_length]; omega), atPs_act g k hkn]
              show MapL W' r nmV intV (lput (nameAt g k) _ _)
              rw [nameAt_lt g k hkn]
              exact h
            clear hiv hns hw1 hw2
            generalize g.acts[k].ins.length = ni at *
            generalize hnm : g.acts[k].name = nm at *
            generalize bs g.acts[k].code = cd at *
            have hch5 := HC.out.alloc (.cells #[.string (bs nm), .slice oi ni ci, .string cd] 41)
            have q2 := HWC.out _ hch5
            have hm5 := HM.out.al (.cells #[.string (bs nm), .slice oi ni ci, .string cd] 41)
            have k5 := heap_alloc_new' wr (.cells #[.string (bs nm), .slice oi ni ci, .string cd] 41)
            have HC5 := hid hch5
            have HM5 := hid hm5
            have HK5 := hid k5
            have HNM := hid hnm
            clear hnm hch5 hm5 k5
            go_wp2_with fail
            generalize wr.alloc (.cells #[.string (bs nm), .slice oi ni ci, .string cd] 41) = W5 at *
            have c0 : W5.cell? ⟨wr.heap.size, 0, none⟩ = some (.string (bs nm)) := cell_of HK5.out 0
            go_still_tail 8, (by kernel_rfl)
            change wpList _ _ _ _ _ W5.drew
            refine wpList_mapUpdate_l rfl _ _ _ 56 rfl keyNm Tryd.underlying56 (show MapL W5.drew r nmV intV _ from HM5.out) rfl nm rfl (k : Int) rfl ?_
            intro w1 hm1 hc1
            go_wp2_with fail
            go_roundw
            case rel => exact ⟨k + 1, by omega, by go_num, HC5.out.drew.trans hc1 (fun _ _ h => h), HP.out _ hm1⟩
            case measure => simp [intOf]; omega
          · obtain rfl : k = g.acts.length := by omega
            have hm6 : MapL wr r nmV intV (atL (atPs g)) := by
              have := HM.out
              rwa [List.take_of_length_le (by rw [atPs_length]; omega)] at this
            have HM6 := hid hm6
            have q2 := HWC.out _ HC.out
            have g0 := (HGC.out _ HC.out).1
            have g1 := (HGC.out _ HC.out).2
            have hlenS := HS.out.len
            have hlenM : ∀ n ty, (Builtin.len_ #[56] ty #[.map (some r)]).run Tryd.prog (wr.drewN n) = .ok (.int .i64 (atL (atPs g)).length) (wr.drewN n) := fun n ty =>
              MapL.len (show MapL (wr.drewN n) r nmV intV (atL (atPs g)) from hm6) Tryd.underlying56 ty
            have hsum : IntKind.i64.wrap ((g.srcs.length : Int) + (g.acts.length : Int)) = (g.srcs.length : Int) + (g.acts.length : Int) := by rw [IntKind.wrap_i64]; omega
            clear hm6 HM
            cases hdup : dupB g with
            | true =>
              have hL : ¬ ((atL (atPs g)).length : Int) = (g.srcs.length : Int) + (g.acts.length : Int) := fun e => by
                have := (dup_length g).1 (by omega)
                rw [hdup] at this; cases this
              have HW : Hid (wovenR g = 21) := by show wovenR g = 21; unfold wovenR; rw [HOK.out, hdup]; rfl
              generalize (atL (atPs g)).length = L at *
              clear hdup hkn hk
              go_wp2_with fail
              go_quiet (fail)
              go_wp2_with fail
              go_ret2
              exact ⟨HF.out _ (HC.out.drewN _), .inr ⟨by rw [HW.out]; decide, by rw [HW.out]; rfl⟩⟩
            | false =>
              have hL : ((atL (atPs g)).length : Int) = (g.srcs.length : Int) + (g.acts.length : Int) := by
                have := (dup_length g).2 hdup
                omega
              have HD := hid hdup
              rw [hL] at hlenM
              clear hL hdup hkn hk
              go_wp2_with fail
              go_quiet (fail)
              have hC7 := HC.out.drewN nq
              have hm7 : MapL (wr.drewN nq) r nmV intV (atL (atPs g)) := HM6.out
              have g1' := (HGC.out _ hC7).2
              clear hlenM hlenS hsum q2 g0 g1 HM6 HC
              generalize wr.drewN nq = W7 at *
              have HC7 := hid hC7
              have HM7 := hid hm7
              clear hC7 hm7
              go_wp2_with fail
              clear g1'
              go_loopw [74] (fun i wr => ∃ k : Nat, k ≤ g.acts.length ∧ i = .int .i64 k ∧ Chg (fun _ => False) W7 wr ∧ ∀ j, j < k → ∀ s ∈ insAt g j, s ∈ namesL g) (fun i _ => g.acts.length - (intOf i).toNat)
              case atStart => exact ⟨0, Nat.zero_le _, rfl, Chg.refl _ _, fun j h => absurd h (Nat.not_lt_zero _)⟩
              case round =>
                obtain ⟨k, hk, rfl, hch, hall⟩ := hrel
                have HA2 := hid hall
                have HC8 := hid hch
                have hC9 := HC7.out.trans hch (fun _ _ h => h.elim)
                have HC9 := hid hC9
                clear hall hch hC9
                by_cases hkn : k < g.acts.length
                · have hkn' : (k : Int) < g.acts.length := by omega
                  obtain ⟨bb, oo, hix, hlt, e0, e1, e2, hns, hw1, hw2⟩ := (HA.out.chg (HF.out _ HC9.out) (fun _ _ h => h)).at k hkn
                  obtain ⟨oi, ci, hiv⟩ := hns.form
                  rw [hiv] at e1 hns
                  have hli := hns.le
                  unfold maxLen at hli
                  have HI : Hid (insAt g k = g.acts[k].ins) := insAt_lt g k hkn
                  have HMI : Hid (∀ s ∈ g.acts[k].ins, s ∉ namesL g → missB g = true) := by
                    intro s hs hn
                    unfold missB
                    rw [List.any_eq_true]
                    refine ⟨_, List.getElem_mem hkn, ?_⟩
                    rw [List.any_eq_true]
                    exact ⟨s, hs, by simp [hn]⟩
                  generalize bs g.acts[k].name = nm at *
                  generalize bs g.acts[k].code = cd at *
                  generalize g.acts[k].ins = ins at *
                  have hA : Chg (fun _ => False) wr (wr.alloc (.cells #[.string nm, .slice oi ins.length ci, .string cd] 41)) := (Chg.refl _ wr).alloc _
                  have kA := heap_alloc_new' wr (.cells #[.string nm, .slice oi ins.length ci, .string cd] 41)
                  have HNA := hid (hns.chg hA (fun _ _ h => h))
                  have hlenN := hns.len
                  have HA9 := hid hA
                  have HKA := hid kA
                  clear hiv hns hw1 hw2 hA kA
                  go_wp2_with fail
                  generalize wr.alloc (.cells #[.string nm, .slice oi ins.length ci, .string cd] 41) = wa at *
                  clear e0 e1 e2 hix
                  have HCa := hid (HC9.out.trans HA9.out (fun _ _ h => h.elim))
                  have HMa := hid (HM7.out.chg (HC8.out.trans HA9.out (fun _ _ h => h)) (fun h => h))
                  have q2 := HWC.out _ HCa.out
                  go_loopw [81] (fun i wb => ∃ q : Nat, q ≤ ins.length ∧ i = .int .i64 q ∧ wb = wa ∧ ∀ j (h : j < ins.length), j < q → ins[j] ∈ namesL g) (fun i _ => ins.length - (intOf i).toNat)
                  case atStart => exact ⟨0, Nat.zero_le _, rfl, rfl, fun j _ h => absurd h (Nat.not_lt_zero _)⟩
                  case round =>
                    obtain ⟨q, hq, rfl, rfl, hin⟩ := hrel
                    have HIN := hid hin
                    clear hin
                    by_cases hqn : q < ins.length
                    · have hqn' : (q : Int) < ins.length := by omega
                      obtain ⟨ad3, hix3, hadc3, hadb3⟩ := HNA.out.ix q hqn
                      have hsome := at_isSome g ins[q]
                      have HMQ := hid (HMI.out _ (List.getElem_mem hqn))
                      generalize hs3 : ins[q] = s3 at *
                      by_cases hmem : s3 ∈ namesL g
                      · have hb : (lval s3 (atL (atPs g))).isSome = true := by rw [hsome]; simpa using hmem
                        have HB := hid hb
                        have HMEM := hid hmem
                        have HS3 := hid hs3
                        clear hsome hb hmem hs3
                        go_wp2_with (at_lookup; refine wpList_lookup_ok rfl _ _ 56 rfl keyNm Tryd.underlying56 (zeroI _) HMa.out rfl s3 rfl _ rfl true HB.out ?_)
                        go_roundw
                        case rel =>
                          refine ⟨q + 1, by omega, by go_num, by first | rfl | trivial, fun j hj hjq => ?_⟩
                          by_cases e : j = q
                          · subst e; rw [HS3.out]; exact HMEM.out
                          · exact HIN.out j hj (by omega)
                        case measure => simp [intOf]; omega
                      · have hb : (lval s3 (atL (atPs g))).isSome = false := by rw [hsome]; simpa using hmem
                        have HB := hid hb
                        have HW : Hid (wovenR g = 22) := by show wovenR g = 22; unfold wovenR; rw [HOK.out, HD.out, HMQ.out hmem]; rfl
                        clear hsome hb hmem hs3
                        go_wp2_with (at_lookup; refine wpList_lookup_ok rfl _ _ 56 rfl keyNm Tryd.underlying56 (zeroI _) HMa.out rfl s3 rfl _ rfl false HB.out ?_)
                        go_ret2
                        exact ⟨HF.out _ HCa.out, .inr ⟨by rw [HW.out]; decide, by rw [HW.out]; rfl⟩⟩
                    · obtain rfl : q = ins.length := by omega
                      go_wp2_with fail
                      go_roundw
                      case rel =>
                        refine ⟨k + 1, by omega, by go_num, HC8.out.trans HA9.out (fun _ _ h => h), fun j hjk s hs => ?_⟩
                        by_cases e : j = k
                        · subst e
                          rw [HI.out] at hs
                          obtain ⟨q, hq, rfl⟩ := List.mem_iff_getElem.1 hs
                          exact HIN.out q hq hq
                        · exact HA2.out j (by omega) s hs
                      case measure => simp [intOf]; omega
                · obtain rfl : k = g.acts.length := by omega
                  have HW : Hid (Wov g) := by
                    refine ⟨HOK.out, ?_, ?_⟩
                    · have := HD.out; unfold dupB at this; simpa using this
                    · intro a ha s hs
                      obtain ⟨j, hj, rfl⟩ := List.mem_iff_getElem.1 ha
                      exact HA2.out j hj s (by rw [insAt_lt g j hj]; exact hs)
                  go_wp2_with fail
                  go_ret2
                  refine ⟨HF.out _ HC9.out, .inl ⟨wovenR_zero.2 HW.out, bw, rfl, .slice oa g.srcs.length c, .slice ob g.acts.length d, iv, r, atL (atPs g), ?_⟩⟩
                  exact ⟨HC9.out.obj HWB.out HNE.out.2, HS.out.chg (HF.out _ HC9.out) (fun _ _ h => h), HA.out.chg (HF.out _ HC9.out) (fun _ _ h => h), HM7.out.chg HC8.out (fun h => h), fun s => HW.out.at s⟩
end Go.Proofs.YtafdcmhckpdnbaaDoor
