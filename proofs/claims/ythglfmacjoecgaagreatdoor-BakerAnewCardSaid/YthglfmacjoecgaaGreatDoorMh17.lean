/- Texts of the proof, one behind the other: trellis.woven walked; trellis: the closures of (*web).order walked; (*web).order, trellis.checked, Check, Order walked; trellis.Check, Order walked. -/
import Derived.Test.YthglfmacjoecgaaGreatDoorMh16
import Derived.StillTailTactics
import Derived.BigQuiet
import Derived.Deep.QuietTactic
import Derived.Laws.EntriesVeiled
import Derived.Maps.RangeWalk
import Derived.Deep.RegionHeld3
namespace Go.Proofs.YthglfmacjoecgaaGreatDoor
open Go.RowKit

def WovenPost (w : World) (g : GrR) (e : Ending) (w' : World) : Prop :=
  Chg (fun _ => False) w w' ∧ ((wovenR g = 0 ∧ ∃ b, e = .returned (.tuple #[.pointer (some ⟨b, 0, none⟩), .int .i64 0]) ∧ IsWeb w' b g) ∨ (wovenR g ≠ 0 ∧ e = .returned (.tuple #[.pointer none, .int .i64 (wovenR g)])))
theorem MapL.al {κ ν : Type} {enc : κ → Value} {encv : ν → Value} {l : List (κ × ν)} {w : World} {r : Nat} (h : MapL w r enc encv l) (o : Obj) : MapL (w.alloc o) r enc encv l :=
  h.chg ((Chg.refl (fun _ => False) w).alloc o) (fun h => h)
theorem zeroI (w : World) : (zeroValue 3).run Tryz.prog w = .ok (.int .i64 0) w := by kernel_rfl

set_option maxRecDepth 100000 in
set_option maxHeartbeats 4000000 in
theorem woven_any (g : GrR) (v : Value) (w : World) (hg : GrAt w v g) : Calls Tryz.prog 113 #[v] w (WovenPost w g) := by
  have hpr : ∀ W, Chg (fun _ => False) w W → Calls Tryz.prog 132 #[v] W (Rets (.tuple #[.string (bs ((printR g).getD [])), .int .i64 (if grOK g = true then 0 else 1)]) (Chg (fun _ => False) W)) := fun W hW => print_any g v W (hg.chg hW (fun _ _ h => h))
  obtain ⟨oa, c, ob, d, iv, rfl, hs, ha⟩ := hg.form
  have hC1 : Chg (fun _ => False) w (w.alloc (.cells #[.slice oa g.srcs.length c, .slice ob g.acts.length d] 25)) := (Chg.refl _ w).alloc _
  have h1 := hpr _ hC1
  clear hpr hg
  cases hok : grOK g with
  | false =>
    have hw : wovenR g = 1 := by unfold wovenR; rw [hok]; rfl
    rw [hok] at h1
    have HW := hid hw
    clear hw hs ha
    go_enter Tryz.func113, Tryz.ntmps113
    go_wp2_with (go_at_call 132; refine h1.mono ?_; rintro e w' ⟨rfl, hc⟩)
    go_ret2
    refine ⟨hC1.trans hc (fun _ _ h => h), .inr ?_⟩
    rw [HW.out]
    exact ⟨by decide, rfl⟩
  | true =>
    rw [hok] at h1
    have hgb : (w.alloc (.cells #[.slice oa g.srcs.length c, .slice ob g.acts.length d] 25)).heap[w.heap.size]? = some (.cells #[.slice oa g.srcs.length c, .slice ob g.acts.length d] 25 (0, 0)) := heap_alloc_new' w _
    have hn1 := hs.le
    have hn2 := ha.rows.le
    unfold maxLen at hn1 hn2
    have hn8 : g.srcs.length ≤ 8 := ((grOK_iff g).1 hok).1
    have hn12 : g.acts.length ≤ 12 := ((grOK_iff g).1 hok).2.1
    have HS := hid hs
    have HA := hid ha
    have HG := hid hgb
    have HOK := hid hok
    clear hs ha hgb hok
    have hmm := @run_makeMap Tryz.prog
    go_enter Tryz.func113, Tryz.ntmps113
    go_wp2_with (go_at_call 132; refine h1.mono ?_; rintro e w2 ⟨rfl, hc2⟩; have p0 := cell_of (hc2.obj HG.out (fun h => h)) 0; have p1 := cell_of (hc2.obj HG.out (fun h => h)) 1; simp at p0 p1; have q0 := cell_alloc' (cell_alloc' (cell_of (hc2.obj HG.out (fun h => h)) 0) (.map #[] 0)) (.cells #[.slice oa g.srcs.length c, .slice ob g.acts.length d, .map (some w2.heap.size)] 150); simp at q0)
    have hlt : w.heap.size < w2.heap.size := by have := hc2.size; simp at this; omega
    have hch3 : Chg (fun _ => False) w ((w2.alloc (.map #[] 0)).alloc (.cells #[.slice oa g.srcs.length c, .slice ob g.acts.length d, .map (some w2.heap.size)] 150)) := ((hC1.trans hc2 (fun _ _ h => h)).alloc _).alloc _
    have hgb3 : ((w2.alloc (.map #[] 0)).alloc (.cells #[.slice oa g.srcs.length c, .slice ob g.acts.length d, .map (some w2.heap.size)] 150)).heap[w.heap.size]? = some (.cells #[.slice oa g.srcs.length c, .slice ob g.acts.length d] 25 (0, 0)) := heap_alloc_old' (heap_alloc_old' (hc2.obj HG.out (fun h => h)) _) _
    have hwb3 : ((w2.alloc (.map #[] 0)).alloc (.cells #[.slice oa g.srcs.length c, .slice ob g.acts.length d, .map (some w2.heap.size)] 150)).heap[w2.heap.size + 1]? = some (.cells #[.slice oa g.srcs.length c, .slice ob g.acts.length d, .map (some w2.heap.size)] 150 (0, 0)) := by
      have := heap_alloc_new' (w2.alloc (.map #[] 0)) (.cells #[.slice oa g.srcs.length c, .slice ob g.acts.length d, .map (some w2.heap.size)] 150)
      simpa using this
    have hm3 : MapL ((w2.alloc (.map #[] 0)).alloc (.cells #[.slice oa g.srcs.length c, .slice ob g.acts.length d, .map (some w2.heap.size)] 150)) w2.heap.size nmV intV ([] : List (Nm × Int)) := (MapL.fresh w2).al _
    clear hc2 hC1 HG h1 q0 p0 p1
    generalize ((w2.alloc (.map #[] 0)).alloc (.cells #[.slice oa g.srcs.length c, .slice ob g.acts.length d, .map (some w2.heap.size)] 150)) = W3 at *
    obtain ⟨r, hr⟩ : ∃ r, r = w2.heap.size := ⟨_, rfl⟩
    obtain ⟨bw, hbw⟩ : ∃ bw, bw = w2.heap.size + 1 := ⟨_, rfl⟩
    obtain ⟨bg, hbg⟩ : ∃ bg, bg = w.heap.size := ⟨_, rfl⟩
    rw [← hbw, ← hr] at hwb3
    rw [← hr] at hm3
    rw [← hbg] at hgb3
    rw [← hbw, ← hr, ← hbg]
    have hne1 : ¬ bg = r := by omega
    have hne2 : ¬ bw = r := by omega
    have hwr : w.heap.size ≤ r := by omega
    clear hr hbw hlt
    have hfar : ∀ W, Chg (fun k => k = r) W3 W → Chg (fun _ => False) w W := fun W hW => hch3.trans hW (fun i hi h => by omega)
    have hgc : ∀ W, Chg (fun k => k = r) W3 W → W.cell? ⟨bg, 0, none⟩ = some (.slice oa g.srcs.length c) ∧ W.cell? ⟨bg, 1, none⟩ = some (.slice ob g.acts.length d) := fun W hW => ⟨cell_of (hW.obj hgb3 hne1) 0, cell_of (hW.obj hgb3 hne1) 1⟩
    have hwc : ∀ W, Chg (fun k => k = r) W3 W → W.cell? ⟨bw, 2, none⟩ = some (.map (some r)) := fun W hW => cell_of (hW.obj hwb3 hne2) 2
    have HF := hid hfar
    have HGC := hid hgc
    have HWC := hid hwc
    have HWB := hid hwb3
    have hm3' : MapL W3 r nmV intV (atL ((atPs g).take 0)) := hm3
    have HM3 := hid hm3'
    have HNE := hid (And.intro hne1 hne2)
    clear hfar hgc hwc hch3 hgb3 hwb3 hm3 hm3' hne1 hne2 hbg hwr
    go_loopw [31] (fun i wr => ∃ k : Nat, k ≤ g.srcs.length ∧ i = .int .i64 k ∧ Chg (fun k => k = r) W3 wr ∧ MapL wr r nmV intV (atL ((atPs g).take k))) (fun i _ => g.srcs.length - (intOf i).toNat)
    case atStart => exact ⟨0, Nat.zero_le _, rfl, Chg.refl _ _, HM3.out⟩
    case round =>
      obtain ⟨k, hk, rfl, hch, hm⟩ := hrel
      have HC := hid hch
      have HM := hid hm
      have q2 := HWC.out _ hch
      clear hch hm
      by_cases hkn : k < g.srcs.length
      · have hkn' : (k : Int) < g.srcs.length := by omega
        obtain ⟨ad, hix, hadc, hadb⟩ := (HS.out.chg (HF.out wr HC.out) (fun _ _ h => h)).ix k hkn
        have HP : Hid (∀ W', MapL W' r nmV intV (lput g.srcs[k] (-1) (atL ((atPs g).take k))) → MapL W' r nmV intV (atL ((atPs g).take (k + 1)))) := by
          intro W' h
          rw [atL_take _ k (by rw [atPs_length]; omega), atPs_src g k hkn]
          exact h
        generalize hnm : g.srcs[k] = nm at *
        have HNM := hid hnm
        clear hnm
        go_wp2_with (at_mapUpdate; refine wpList_mapUpdate_l rfl _ _ _ 148 rfl keyNm Tryz.underlying148 HM.out rfl nm rfl (-1 : Int) rfl ?_; intro w1 hm1 hc1)
        go_roundw
        case rel => exact ⟨k + 1, by omega, by go_num, HC.out.trans hc1 (fun _ _ h => h), HP.out _ hm1⟩
        case measure => simp [intOf]; omega
      · obtain rfl : k = g.srcs.length := by omega
        have q3 := (HGC.out _ HC.out).2
        have hlenA := HA.out.len
        have hm4 : MapL wr r nmV intV (atL ((atPs g).take (g.srcs.length + 0))) := HM.out
        have HM4 := hid hm4
        have HC4 := hid HC.out
        clear hm4
        go_wp2_with fail
        clear q2 q3 HM HC
        obtain ⟨wo, hwo⟩ : ∃ wo, wo = wr := ⟨_, rfl⟩
        rw [← hwo] at HM4 HC4 ⊢
        clear hwo
        go_loopw [44] (fun i wr => ∃ k : Nat, k ≤ g.acts.length ∧ i = .int .i64 k ∧ Chg (fun k => k = r) W3 wr ∧ MapL wr r nmV intV (atL ((atPs g).take (g.srcs.length + k)))) (fun i _ => g.acts.length - (intOf i).toNat)
        case atStart => exact ⟨0, Nat.zero_le _, rfl, HC4.out, HM4.out⟩
        case round =>
          obtain ⟨k, hk, rfl, hch, hm⟩ := hrel
          have HC := hid hch
          have HM := hid hm
          clear hch hm HC4 HM4
          by_cases hkn : k < g.acts.length
          · have hkn' : (k : Int) < g.acts.length := by omega
            obtain ⟨bb, oo, hix, hlt, e0, e1, e2, hns, hw1, hw2⟩ := (HA.out.chg (HF.out wr HC.out) (fun _ _ h => h)).at k hkn
            obtain ⟨oi, ci, hiv⟩ := hns.form
            rw [hiv] at e1
            have HP : Hid (∀ W', MapL W' r nmV intV (lput g.acts[k].name (k : Int) (atL ((atPs g).take (g.srcs.length + k)))) → MapL W' r nmV intV (atL ((atPs g).take (g.srcs.length + (k + 1))))) := by
              intro W' h
              rw [show g.srcs.length + (k + 1) = g.srcs.length + k + 1 by omega, atL_take _ _ (by rw [atPs_length]; omega), atPs_act g k hkn]
              show MapL W' r nmV intV (lput (nameAt g k) _ _)
              rw [nameAt_lt g k hkn]
              exact h
            clear hiv hns hw1 hw2
            generalize g.acts[k].ins.length = ni at *
            generalize hnm : g.acts[k].name = nm at *
            generalize bs g.acts[k].code = cd at *
            have hch5 := HC.out.alloc (.cells #[.string (bs nm), .slice oi ni ci, .string cd] 43)
            have q2 := HWC.out _ hch5
            have hm5 := HM.out.al (.cells #[.string (bs nm), .slice oi ni ci, .string cd] 43)
            have k5 := heap_alloc_new' wr (.cells #[.string (bs nm), .slice oi ni ci, .string cd] 43)
            have HC5 := hid hch5
            have HM5 := hid hm5
            have HK5 := hid k5
            have HNM := hid hnm
            clear hnm hch5 hm5 k5
            go_wp2_with fail
            generalize wr.alloc (.cells #[.string (bs nm), .slice oi ni ci, .string cd] 43) = W5 at *
            have c0 : W5.cell? ⟨wr.heap.size, 0, none⟩ = some (.string (bs nm)) := cell_of HK5.out 0
            go_still_tail 8, (by kernel_rfl)
            change wpList _ _ _ _ _ W5.drew
            refine wpList_mapUpdate_l rfl _ _ _ 148 rfl keyNm Tryz.underlying148 (show MapL W5.drew r nmV intV _ from HM5.out) rfl nm rfl (k : Int) rfl ?_
            intro w1 hm1 hc1
            go_wp2_with fail
            go_roundw
            case rel => exact ⟨k + 1, by omega, by go_num, HC5.out.drew.trans hc1 (fun _ _ h => h), HP.out _ hm1⟩
            case measure => simp [intOf]; omega
          · obtain rfl : k = g.acts.length := by omega
            have hm6 : MapL wr r nmV intV (atL (atPs g)) := by
              have := HM.out
              rwa [List.take_of_length_le (by rw [atPs_length]; omega)] at this
            have HM6 := hid hm6
            have q2 := HWC.out _ HC.out
            have g0 := (HGC.out _ HC.out).1
            have g1 := (HGC.out _ HC.out).2
            have hlenS := HS.out.len
            have hlenM : ∀ n ty, (Builtin.len_ #[148] ty #[.map (some r)]).run Tryz.prog (wr.drewN n) = .ok (.int .i64 (atL (atPs g)).length) (wr.drewN n) := fun n ty =>
              MapL.len (show MapL (wr.drewN n) r nmV intV (atL (atPs g)) from hm6) Tryz.underlying148 ty
            have hsum : IntKind.i64.wrap ((g.srcs.length : Int) + (g.acts.length : Int)) = (g.srcs.length : Int) + (g.acts.length : Int) := by rw [IntKind.wrap_i64]; omega
            clear hm6 HM
            cases hdup : dupB g with
            | true =>
              have hL : ¬ ((atL (atPs g)).length : Int) = (g.srcs.length : Int) + (g.acts.length : Int) := fun e => by
                have := (dup_length g).1 (by omega)
                rw [hdup] at this; cases this
              have HW : Hid (wovenR g = 21) := by show wovenR g = 21; unfold wovenR; rw [HOK.out, hdup]; rfl
              generalize (atL (atPs g)).length = L at *
              clear hdup hkn hk
              go_wp2_with fail
              go_quiet (fail)
              go_wp2_with fail
              go_ret2
              exact ⟨HF.out _ (HC.out.drewN _), .inr ⟨by rw [HW.out]; decide, by rw [HW.out]; rfl⟩⟩
            | false =>
              have hL : ((atL (atPs g)).length : Int) = (g.srcs.length : Int) + (g.acts.length : Int) := by
                have := (dup_length g).2 hdup
                omega
              have HD := hid hdup
              rw [hL] at hlenM
              clear hL hdup hkn hk
              go_wp2_with fail
              go_quiet (fail)
              have hC7 := HC.out.drewN nq
              have hm7 : MapL (wr.drewN nq) r nmV intV (atL (atPs g)) := HM6.out
              have g1' := (HGC.out _ hC7).2
              clear hlenM hlenS hsum q2 g0 g1 HM6 HC
              generalize wr.drewN nq = W7 at *
              have HC7 := hid hC7
              have HM7 := hid hm7
              clear hC7 hm7
              go_wp2_with fail
              clear g1'
              go_loopw [74] (fun i wr => ∃ k : Nat, k ≤ g.acts.length ∧ i = .int .i64 k ∧ Chg (fun _ => False) W7 wr ∧ ∀ j, j < k → ∀ s ∈ insAt g j, s ∈ namesL g) (fun i _ => g.acts.length - (intOf i).toNat)
              case atStart => exact ⟨0, Nat.zero_le _, rfl, Chg.refl _ _, fun j h => absurd h (Nat.not_lt_zero _)⟩
              case round =>
                obtain ⟨k, hk, rfl, hch, hall⟩ := hrel
                have HA2 := hid hall
                have HC8 := hid hch
                have hC9 := HC7.out.trans hch (fun _ _ h => h.elim)
                have HC9 := hid hC9
                clear hall hch hC9
                by_cases hkn : k < g.acts.length
                · have hkn' : (k : Int) < g.acts.length := by omega
                  obtain ⟨bb, oo, hix, hlt, e0, e1, e2, hns, hw1, hw2⟩ := (HA.out.chg (HF.out _ HC9.out) (fun _ _ h => h)).at k hkn
                  obtain ⟨oi, ci, hiv⟩ := hns.form
                  rw [hiv] at e1 hns
                  have hli := hns.le
                  unfold maxLen at hli
                  have HI : Hid (insAt g k = g.acts[k].ins) := insAt_lt g k hkn
                  have HMI : Hid (∀ s ∈ g.acts[k].ins, s ∉ namesL g → missB g = true) := by
                    intro s hs hn
                    unfold missB
                    rw [List.any_eq_true]
                    refine ⟨_, List.getElem_mem hkn, ?_⟩
                    rw [List.any_eq_true]
                    exact ⟨s, hs, by simp [hn]⟩
                  generalize bs g.acts[k].name = nm at *
                  generalize bs g.acts[k].code = cd at *
                  generalize g.acts[k].ins = ins at *
                  have hA : Chg (fun _ => False) wr (wr.alloc (.cells #[.string nm, .slice oi ins.length ci, .string cd] 43)) := (Chg.refl _ wr).alloc _
                  have kA := heap_alloc_new' wr (.cells #[.string nm, .slice oi ins.length ci, .string cd] 43)
                  have HNA := hid (hns.chg hA (fun _ _ h => h))
                  have hlenN := hns.len
                  have HA9 := hid hA
                  have HKA := hid kA
                  clear hiv hns hw1 hw2 hA kA
                  go_wp2_with fail
                  generalize wr.alloc (.cells #[.string nm, .slice oi ins.length ci, .string cd] 43) = wa at *
                  clear e0 e1 e2 hix
                  have HCa := hid (HC9.out.trans HA9.out (fun _ _ h => h.elim))
                  have HMa := hid (HM7.out.chg (HC8.out.trans HA9.out (fun _ _ h => h)) (fun h => h))
                  have q2 := HWC.out _ HCa.out
                  go_loopw [81] (fun i wb => ∃ q : Nat, q ≤ ins.length ∧ i = .int .i64 q ∧ wb = wa ∧ ∀ j (h : j < ins.length), j < q → ins[j] ∈ namesL g) (fun i _ => ins.length - (intOf i).toNat)
                  case atStart => exact ⟨0, Nat.zero_le _, rfl, rfl, fun j _ h => absurd h (Nat.not_lt_zero _)⟩
                  case round =>
                    obtain ⟨q, hq, rfl, rfl, hin⟩ := hrel
                    have HIN := hid hin
                    clear hin
                    by_cases hqn : q < ins.length
                    · have hqn' : (q : Int) < ins.length := by omega
                      obtain ⟨ad3, hix3, hadc3, hadb3⟩ := HNA.out.ix q hqn
                      have hsome := at_isSome g ins[q]
                      have HMQ := hid (HMI.out _ (List.getElem_mem hqn))
                      generalize hs3 : ins[q] = s3 at *
                      by_cases hmem : s3 ∈ namesL g
                      · have hb : (lval s3 (atL (atPs g))).isSome = true := by rw [hsome]; simpa using hmem
                        have HB := hid hb
                        have HMEM := hid hmem
                        have HS3 := hid hs3
                        clear hsome hb hmem hs3
                        go_wp2_with (at_lookup; refine wpList_lookup_ok rfl _ _ 148 rfl keyNm Tryz.underlying148 (zeroI _) HMa.out rfl s3 rfl _ rfl true HB.out ?_)
                        go_roundw
                        case rel =>
                          refine ⟨q + 1, by omega, by go_num, by first | rfl | trivial, fun j hj hjq => ?_⟩
                          by_cases e : j = q
                          · subst e; rw [HS3.out]; exact HMEM.out
                          · exact HIN.out j hj (by omega)
                        case measure => simp [intOf]; omega
                      · have hb : (lval s3 (atL (atPs g))).isSome = false := by rw [hsome]; simpa using hmem
                        have HB := hid hb
                        have HW : Hid (wovenR g = 22) := by show wovenR g = 22; unfold wovenR; rw [HOK.out, HD.out, HMQ.out hmem]; rfl
                        clear hsome hb hmem hs3
                        go_wp2_with (at_lookup; refine wpList_lookup_ok rfl _ _ 148 rfl keyNm Tryz.underlying148 (zeroI _) HMa.out rfl s3 rfl _ rfl false HB.out ?_)
                        go_ret2
                        exact ⟨HF.out _ HCa.out, .inr ⟨by rw [HW.out]; decide, by rw [HW.out]; rfl⟩⟩
                    · obtain rfl : q = ins.length := by omega
                      go_wp2_with fail
                      go_roundw
                      case rel =>
                        refine ⟨k + 1, by omega, by go_num, HC8.out.trans HA9.out (fun _ _ h => h), fun j hjk s hs => ?_⟩
                        by_cases e : j = k
                        · subst e
                          rw [HI.out] at hs
                          obtain ⟨q, hq, rfl⟩ := List.mem_iff_getElem.1 hs
                          exact HIN.out q hq hq
                        · exact HA2.out j (by omega) s hs
                      case measure => simp [intOf]; omega
                · obtain rfl : k = g.acts.length := by omega
                  have HW : Hid (Wov g) := by
                    refine ⟨HOK.out, ?_, ?_⟩
                    · have := HD.out; unfold dupB at this; simpa using this
                    · intro a ha s hs
                      obtain ⟨j, hj, rfl⟩ := List.mem_iff_getElem.1 ha
                      exact HA2.out j hj s (by rw [insAt_lt g j hj]; exact hs)
                  go_wp2_with fail
                  go_ret2
                  refine ⟨HF.out _ HC9.out, .inl ⟨wovenR_zero.2 HW.out, bw, rfl, .slice oa g.srcs.length c, .slice ob g.acts.length d, iv, r, atL (atPs g), ?_⟩⟩
                  exact ⟨HC9.out.obj HWB.out HNE.out.2, HS.out.chg (HF.out _ HC9.out) (fun _ _ h => h), HA.out.chg (HF.out _ HC9.out) (fun _ _ h => h), HM7.out.chg HC8.out (fun h => h), fun s => HW.out.at s⟩
end Go.Proofs.YthglfmacjoecgaaGreatDoor
namespace Go.Proofs.YthglfmacjoecgaaGreatDoor
open Go.RowKit

/-- What has been made: the names of these places. -/
def doneL (g : GrR) (l : List Nat) : List (Nm × Bool) := atL (l.map fun i => (nameAt g i, true))
theorem doneL_snoc (g : GrR) (l : List Nat) (i : Nat) : doneL g (l ++ [i]) = lput (nameAt g i) true (doneL g l) := by
  unfold doneL
  rw [List.map_append, List.map_cons, List.map_nil, atL_snoc]
theorem lval_trues {s : Nm} : ∀ (ps : List (Nm × Bool)) (l : List (Nm × Bool)), (∀ p ∈ ps, p.2 = true) → lval s (ps.foldl (fun l p => lput p.1 p.2 l) l) = if s ∈ ps.map Prod.fst then some true else lval s l
  | [], l, _ => by simp
  | p :: ps, l, h => by
    rw [List.foldl_cons, lval_trues ps _ (fun q hq => h q (List.mem_cons_of_mem _ hq)), lval_put, h p List.mem_cons_self]
    simp only [List.map_cons, List.mem_cons]
    by_cases h1 : s = p.1
    · simp [h1]
    · simp [h1]
theorem doneL_val (g : GrR) (l : List Nat) (s : Nm) : (lval s (doneL g l)).getD false = (l.map (nameAt g)).contains s := by
  unfold doneL atL
  rw [lval_trues _ _ (fun p hp => by obtain ⟨i, _, rfl⟩ := List.mem_map.1 hp; rfl)]
  have e : (l.map fun i => (nameAt g i, true)).map Prod.fst = l.map (nameAt g) := by
    rw [List.map_map]; rfl
  rw [e, lval_nil]
  by_cases h : s ∈ l.map (nameAt g)
  · simp [h]
  · rw [if_neg h]
    have : (l.map (nameAt g)).contains s = false := by simpa using h
    rw [this]; rfl
/-- Whether a name is still waited for. -/
def waitsB (g : GrR) (l : List Nat) (s : Nm) : Bool := (placeOf g s).isSome && !(l.map (nameAt g)).contains s
theorem ready_waits {g : GrR} (hw : Wov g) (l : List Nat) (a : ActR) (ha : a ∈ g.acts) : readyB g l a = (!(l.map (nameAt g)).contains a.name && !(a.ins.any (waitsB g l))) := by
  unfold readyB
  congr 1
  rw [List.all_eq_not_any_not]
  congr 1
  have : ∀ s ∈ a.ins, (!(g.srcs.contains s || (l.map (nameAt g)).contains s)) = waitsB g l s := by
    intro s hs
    unfold waitsB
    rcases hw.src_or (hw.ins a ha s hs) with ⟨h1, h2⟩ | ⟨i, hi, h1, h2, h3⟩
    · rw [h2]; simp [h1]
    · rw [h2]; simp [h3]
  rw [Bool.eq_iff_iff, List.any_eq_true, List.any_eq_true]
  constructor
  · rintro ⟨s, hs, h⟩; exact ⟨s, hs, by rw [← this s hs]; exact h⟩
  · rintro ⟨s, hs, h⟩; exact ⟨s, hs, by rw [this s hs]; exact h⟩
theorem zeroB (w : World) : (zeroValue 4).run Tryz.prog w = .ok (.bool false) w := by kernel_rfl

set_option maxRecDepth 100000 in
set_option maxHeartbeats 1000000 in
theorem waits_any (g : GrR) (hw : Wov g) (l : List Nat) (s : Nm) (hs : s ∈ namesL g) (w : World) (bp bd b rd : Nat) (hp : w.cell? ⟨bp, 0, none⟩ = some (.pointer (some ⟨b, 0, none⟩))) (hb : IsWeb w b g)
    (hd : w.cell? ⟨bd, 0, none⟩ = some (.map (some rd))) (hm : MapL w rd nmV boolV (doneL g l)) :
    Calls Tryz.prog 133 #[.string (bs s), .pointer (some ⟨bp, 0, none⟩), .pointer (some ⟨bd, 0, none⟩)] w (Rets (.bool (waitsB g l s)) (fun w' => w = w')) := by
  obtain ⟨sv, av, iv, r, lm, hb⟩ := hb
  have c2 := cell_of hb.blk 2
  simp at c2
  have hv := hb.look s
  have hd1 := doneL_val g l s
  have HM := hid hm
  have HB := hid hb.map
  rcases hw.src_or hs with ⟨h1, h2⟩ | ⟨i, hi, h1, h2, h3⟩
  · have hv1 : ((lval s lm).map intV).getD (.int .i64 0) = .int .i64 (-1) := by rw [hv]; unfold atV; rw [h2]; simp [h1]
    have hr : waitsB g l s = false := by unfold waitsB; rw [h2]; rfl
    rw [hr]
    have HV := hid hv1
    clear hv1 hr hd1 hv hb h1 h2 hw hs hm
    go_enter Tryz.func133, Tryz.ntmps133
    go_wp2_with (at_lookup; refine wpList_lookup_v rfl _ _ 148 rfl keyNm Tryz.underlying148 (zeroI _) HB.out rfl s rfl _ HV.out ?_)
    go_ret
    exact ⟨rfl, rfl⟩
  · have hv1 : ((lval s lm).map intV).getD (.int .i64 0) = .int .i64 i := by rw [hv]; unfold atV; rw [h2]; rfl
    have hr : waitsB g l s = !(l.map (nameAt g)).contains s := by unfold waitsB; rw [h2]; rfl
    have hv2 : ((lval s (doneL g l)).map boolV).getD (.bool false) = .bool ((l.map (nameAt g)).contains s) := by
      rw [← hd1]; cases lval s (doneL g l) <;> rfl
    rw [hr]
    generalize (l.map (nameAt g)).contains s = B at *
    have HV := hid hv1
    have HV2 := hid hv2
    have hi0 : (0 : Int) ≤ (i : Int) := by omega
    clear hv1 hv2 hr hd1 hv hb h1 h2 hw hs hm h3
    go_enter Tryz.func133, Tryz.ntmps133
    go_wp2_with (first | (at_lookup; refine wpList_lookup_v rfl _ _ 148 rfl keyNm Tryz.underlying148 (zeroI _) HB.out rfl s rfl _ HV.out ?_) | (at_lookup; refine wpList_lookup_w rfl _ _ 139 rfl keyNm Tryz.underlying139 (zeroB _) HM.out rfl s rfl _ HV2.out ?_))
    all_goals go_ret
    all_goals exact ⟨rfl, rfl⟩

set_option maxRecDepth 100000 in
set_option maxHeartbeats 1000000 in
theorem ready_any (g : GrR) (hw : Wov g) (l : List Nat) (a : ActR) (iva : Value) (ha : a ∈ g.acts) (w : World) (bp bd b rd bf : Nat) (hp : w.cell? ⟨bp, 0, none⟩ = some (.pointer (some ⟨b, 0, none⟩))) (hb : IsWeb w b g)
    (hd : w.cell? ⟨bd, 0, none⟩ = some (.map (some rd))) (hm : MapL w rd nmV boolV (doneL g l)) (hf : w.cell? ⟨bf, 0, none⟩ = some (.func (.func 133) #[] #[.pointer (some ⟨bp, 0, none⟩), .pointer (some ⟨bd, 0, none⟩)]))
    (hi : NamesAt w iva a.ins) :
    Calls Tryz.prog 134 #[actV a iva, .pointer (some ⟨bd, 0, none⟩), .pointer (some ⟨bf, 0, none⟩)] w (Rets (.bool (readyB g l a)) (Chg (fun _ => False) w)) := by
  have hrw := ready_waits hw l a ha
  have hC1 : Chg (fun _ => False) w (w.alloc (.cells #[.string (bs a.name), iva, .string (bs a.code)] 43)) := (Chg.refl _ w).alloc _
  have k1 := heap_alloc_new' w (.cells #[.string (bs a.name), iva, .string (bs a.code)] 43)
  have d1 := hC1.cell hd (fun h => h)
  have f1 := hC1.cell hf (fun h => h)
  have m1 := hm.chg hC1 (fun h => h)
  have hcf := cfs_waits (some ⟨bp, 0, none⟩) (some ⟨bd, 0, none⟩) (waitsB g l) iva a.ins _ (hi.chg hC1 (fun _ _ h => h)) (fun s hs W hW =>
    (waits_any g hw l s (hw.ins a ha s hs) W bp bd b rd ((hC1.trans hW (fun _ _ h => h)).cell hp (fun h => h)) (hb.chg (hC1.trans hW (fun _ _ h => h)) (fun _ _ h => h)) ((hC1.trans hW (fun _ _ h => h)).cell hd (fun h => h)) (hm.chg (hC1.trans hW (fun _ _ h => h)) (fun h => h))).mono
      (fun e w' ⟨h1, h2⟩ => ⟨h1, h2 ▸ Chg.refl _ _⟩))
  have hd1 := doneL_val g l a.name
  have hv2 : ((lval a.name (doneL g l)).map boolV).getD (.bool false) = .bool ((l.map (nameAt g)).contains a.name) := by
    rw [← hd1]; cases lval a.name (doneL g l) <;> rfl
  rw [hrw]
  unfold actV
  have HM := hid m1
  have HV := hid hv2
  have HC1 := hid hC1
  have HK := hid k1
  have HCF := hid hcf
  clear hd1 hv2 hcf m1 hrw hC1 k1 hp hb hd hm hf hi
  generalize (l.map (nameAt g)).contains a.name = D at *
  generalize a.ins.any (waitsB g l) = B at *
  generalize hnm : a.name = nm at *
  generalize bs a.code = cd at *
  have HNM := hid hnm
  clear hnm
  have c0 : (w.alloc (.cells #[.string (bs nm), iva, .string cd] 43)).cell? ⟨w.heap.size, 1, none⟩ = some iva := cell_of HK.out 1
  cases D with
  | true =>
    clear HCF
    go_enter Tryz.func134, Tryz.ntmps134
    go_wp2_with (at_lookup; refine wpList_lookup_v rfl _ _ 139 rfl keyNm Tryz.underlying139 (zeroB _) HM.out rfl nm rfl _ HV.out ?_)
    go_ret
    exact ⟨rfl, HC1.out⟩
  | false =>
    go_enter Tryz.func134, Tryz.ntmps134
    go_wp2_with (first | (at_lookup; refine wpList_lookup_v rfl _ _ 139 rfl keyNm Tryz.underlying139 (zeroB _) HM.out rfl nm rfl _ HV.out ?_) | (go_at_call 57; refine HCF.out.mono ?_; rintro e w' ⟨rfl, hc⟩))
    go_ret
    exact ⟨rfl, HC1.out.trans hc (fun _ _ h => h)⟩
end Go.Proofs.YthglfmacjoecgaaGreatDoor
namespace Go.Proofs.YthglfmacjoecgaaGreatDoor
open Go.RowKit

abbrev natV : Nat → Value := fun n => .int .i64 (n : Int)
def IntsPost (w : World) (l : List Nat) (e : Ending) (w' : World) : Prop := Chg (fun _ => False) w w' ∧ ∃ v, e = .returned v ∧ w'.ownsRow 0 3 1 v l.length (l.map natV)
theorem elInt : ElT Tryz.prog 75 3 1 8 := .mk' (z := .int .i64 0) Tryz.underlying75 (by kernel_rfl) rfl (by decide) rfl
def lenOf : Value → Nat
  | .slice _ n _ => n
  | _ => 0
theorem owns_lenOf {w : World} {base : Nat} {e : TypeId} {size : Nat} {v : Value} {n : Nat} {xs : List Value} (h : w.ownsRow base e size v n xs) : lenOf v = n := by
  rcases h.2 with ⟨rfl, rfl⟩ | ⟨g, cap, cur, rfl, _⟩ <;> rfl
theorem owns_form {w : World} {base : Nat} {e : TypeId} {size : Nat} {v : Value} {n : Nat} {xs : List Value} (h : w.ownsRow base e size v n xs) : ∃ o cap, v = .slice o n cap := by
  rcases h.2 with ⟨rfl, rfl⟩ | ⟨g, cap, cur, rfl, _⟩
  · exact ⟨_, _, rfl⟩
  · exact ⟨_, _, rfl⟩
theorem stepR_place {g : GrR} (l : List Nat) : placeI (readyB g l) g.acts = match stepR g l with
    | some i => (i : Int)
    | none => -1 := rfl

set_option maxRecDepth 100000 in
set_option maxHeartbeats 4000000 in
theorem order_any (g : GrR) (hw : Wov g) (w : World) (b : Nat) (hb : IsWeb w b g) :
    Calls Tryz.prog 114 #[.pointer (some ⟨b, 0, none⟩)] w (IntsPost w (orderR g)) := by
  have hmm := @run_makeMap Tryz.prog
  have hn12 := hw.acts12
  have HB := hid hb
  have HW := hid hw
  clear hb hw
  go_enter Tryz.func114, Tryz.ntmps114
  go_wp2_with fail
  obtain ⟨W1, hW1⟩ : ∃ W1, W1 = w.alloc (.cells #[.pointer (some ⟨b, 0, none⟩)] 136) := ⟨_, rfl⟩
  obtain ⟨W2, hW2⟩ : ∃ W2, W2 = W1.alloc (.map #[] 0) := ⟨_, rfl⟩
  obtain ⟨W3, hW3⟩ : ∃ W3, W3 = W2.alloc (.cells #[.map (some (w.heap.size + 1))] 139) := ⟨_, rfl⟩
  obtain ⟨W4, hW4⟩ : ∃ W4, W4 = W3.alloc (.cells #[.func (.func 133) #[] #[.pointer (some ⟨w.heap.size, 0, none⟩), .pointer (some ⟨w.heap.size + 1 + 1, 0, none⟩)]] 116) := ⟨_, rfl⟩
  have z1 : W1.heap.size = w.heap.size + 1 := by rw [hW1]; simp
  have z2 : W2.heap.size = w.heap.size + 1 + 1 := by rw [hW2]; simp [z1]
  have z3 : W3.heap.size = w.heap.size + 1 + 1 + 1 := by rw [hW3]; simp [z2]
  have z4 : W4.heap.size = w.heap.size + 1 + 1 + 1 + 1 := by rw [hW4]; simp [z3]
  have hch4 : Chg (fun _ => False) w W4 := by rw [hW4, hW3, hW2, hW1]; exact ((((Chg.refl _ w).alloc _).alloc _).alloc _).alloc _
  have p4 : W4.cell? ⟨w.heap.size, 0, none⟩ = some (.pointer (some ⟨b, 0, none⟩)) := by
    rw [hW4, hW3, hW2]
    exact cell_alloc' (cell_alloc' (cell_alloc' (by rw [hW1]; exact cell_of (heap_alloc_new' w _) 0) _) _) _
  have m4 : MapL W4 (w.heap.size + 1) nmV boolV (doneL g []) := by
    have h : MapL W2 W1.heap.size nmV boolV (doneL g []) := hW2 ▸ MapL.fresh W1
    rw [z1] at h
    rw [hW4, hW3]
    exact (h.al _).al _
  have d4 : W4.cell? ⟨w.heap.size + 1 + 1, 0, none⟩ = some (.map (some (w.heap.size + 1))) := by
    rw [hW4, hW3, ← z2]
    exact cell_alloc' (cell_of (heap_alloc_new' W2 _) 0) _
  have f4 : W4.cell? ⟨w.heap.size + 1 + 1 + 1, 0, none⟩ = some (.func (.func 133) #[] #[.pointer (some ⟨w.heap.size, 0, none⟩), .pointer (some ⟨w.heap.size + 1 + 1, 0, none⟩)]) := by
    rw [hW4, ← z3]
    exact cell_of (heap_alloc_new' W3 _) 0
  rw [← hW1, ← hW2, ← hW3, ← hW4]
  obtain ⟨bp, hbp⟩ : ∃ bp, bp = w.heap.size := ⟨_, rfl⟩
  obtain ⟨rd, hrd⟩ : ∃ rd, rd = w.heap.size + 1 := ⟨_, rfl⟩
  obtain ⟨bd, hbd⟩ : ∃ bd, bd = w.heap.size + 1 + 1 := ⟨_, rfl⟩
  obtain ⟨bf, hbf⟩ : ∃ bf, bf = w.heap.size + 1 + 1 + 1 := ⟨_, rfl⟩
  rw [← hbf, ← hbd, ← hrd, ← hbp]
  rw [← hbp] at p4
  rw [← hrd] at m4
  rw [← hbd, ← hrd] at d4
  rw [← hbf, ← hbd, ← hbp] at f4
  clear hW1 hW2 hW3 hW4 W1 W2 W3 z1 z2 z3 hmm
  have hfar : ∀ W, Chg (fun k => k = rd) W4 W → Chg (fun _ => False) w W := fun W hW => hch4.trans hW (fun i hi h => by omega)
  have hcp : ∀ W, Chg (fun k => k = rd) W4 W → W.cell? ⟨bp, 0, none⟩ = some (.pointer (some ⟨b, 0, none⟩)) := fun W hW => hW.cell p4 (by show ¬ bp = rd; omega)
  have hcd : ∀ W, Chg (fun k => k = rd) W4 W → W.cell? ⟨bd, 0, none⟩ = some (.map (some rd)) := fun W hW => hW.cell d4 (by show ¬ bd = rd; omega)
  have hcf : ∀ W, Chg (fun k => k = rd) W4 W → W.cell? ⟨bf, 0, none⟩ = some (.func (.func 133) #[] #[.pointer (some ⟨bp, 0, none⟩), .pointer (some ⟨bd, 0, none⟩)]) := fun W hW => hW.cell f4 (by show ¬ bf = rd; omega)
  obtain ⟨sv, av, iv, r, lm, hb⟩ := HB.out
  have hca : ∀ W, Chg (fun k => k = rd) W4 W → W.cell? ⟨b, 1, none⟩ = some av := fun W hW => cell_of ((hfar W hW).obj hb.blk (fun h => h)) 1
  have HF := hid hfar
  have HCP := hid hcp
  have HCD := hid hcd
  have HCF := hid hcf
  have HCA := hid hca
  have HBA := hid hb
  have HM4 := hid m4
  have HZ : Hid (rd < W4.heap.size) := by show rd < W4.heap.size; omega
  clear hfar hcp hcd hcf hca hb m4 p4 d4 f4 hch4 z4 hbp hrd hbd hbf
  go_loopw [2] (fun v wr => ∃ (l : List Nat) (x : Value), x = v ∧ Ordd g l ∧ orderR g = orderGo g (g.acts.length - l.length) l ∧ wr.ownsRow 0 3 1 v l.length (l.map natV) ∧ (∀ k, v.ownBlock = some k → W4.heap.size ≤ k) ∧ MapL wr rd nmV boolV (doneL g l) ∧ Chg (fun k => k = rd) W4 wr) (fun v _ => g.acts.length - lenOf v)
  case atStart => exact ⟨[], _, rfl, Ordd.nil g, rfl, World.ownsRow_nil _ _ _ _, (fun k h => by cases h), HM4.out, Chg.refl _ _⟩
  case round =>
    obtain ⟨l, v, hv, ho, hgo, hown, hbl, hm, hch⟩ := hrel
    subst hv
    have HO := hid ho
    have HGO := hid hgo
    have HOWN := hid hown
    have HBL := hid hbl
    have HM := hid hm
    have HC := hid hch
    clear ho hgo hown hbl hm hch
    have q1 := HCP.out _ HC.out
    have q2 := HCA.out _ HC.out
    have hix := ixa_ready (some ⟨bd, 0, none⟩) (some ⟨bf, 0, none⟩) (readyB g l) av g.acts iv wr (HBA.out.acts.chg (HF.out _ HC.out) (fun _ _ h => h)) (fun k hk W hW =>
      ready_any g HW.out l g.acts[k] (iv k) (List.getElem_mem hk) W bp bd b rd bf (hW.cell q1 (fun h => h)) ((HB.out.chg (HF.out _ HC.out) (fun _ _ h => h)).chg hW (fun _ _ h => h)) (hW.cell (HCD.out _ HC.out) (fun h => h)) (HM.out.chg hW (fun h => h)) (hW.cell (HCF.out _ HC.out) (fun h => h))
        (by
          have := (HBA.out.acts.ins k hk)
          rw [getD_of_lt _ _ _ hk] at this
          exact (this.chg (HF.out _ HC.out) (fun _ _ h => h)).chg hW (fun _ _ h => h)))
    rw [stepR_place] at hix
    cases hs : stepR g l with
    | none =>
      rw [hs] at hix
      have HE : Hid (orderR g = l) := by
        show orderR g = l
        rw [HGO.out]
        cases g.acts.length - l.length with
        | zero => rfl
        | succ n => unfold orderGo; rw [hs]
      clear hs
      go_wp2_with (go_at_call 135; refine hix.mono ?_; rintro e w5 ⟨rfl, hc5⟩)
      go_ret
      refine ⟨(HF.out _ HC.out).trans hc5 (fun _ _ h => h), _, rfl, ?_⟩
      rw [HE.out]
      exact hc5.owns HOWN.out (fun _ _ h => h)
    | some i =>
      rw [hs] at hix
      have hix2 : Calls Tryz.prog 135 #[av, .func (.func 134) #[] #[.pointer (some ⟨bd, 0, none⟩), .pointer (some ⟨bf, 0, none⟩)]] wr (Rets (.int .i64 (i : Int)) (Chg (fun _ => False) wr)) := hix
      have hi := (stepR_some hs).1
      have ho2 := HO.out.snoc hs
      have hle := ho2.le
      simp at hle
      have HO2 := hid ho2
      have HGO2 : Hid (orderR g = orderGo g (g.acts.length - (l ++ [i]).length) (l ++ [i])) := by
        show orderR g = _
        rw [HGO.out]
        obtain ⟨n, hn⟩ : ∃ n, g.acts.length - l.length = n + 1 := ⟨g.acts.length - l.length - 1, by omega⟩
        rw [hn]
        have : g.acts.length - (l ++ [i]).length = n := by simp; omega
        rw [this]
        conv => lhs; unfold orderGo
        rw [hs]
      have hi0 : ¬ ((i : Int) < 0) := by omega
      clear hs hix ho2
      go_wp2_with (first | (go_at_call 135; refine hix2.mono ?_; rintro e w5 ⟨rfl, hc5⟩; have hown5 := hc5.owns HOWN.out (fun _ _ h => h)) | (refine wpList_append_new rfl _ _ 75 rfl elInt hown5 rfl _ 1 1 rfl rfl rfl (by unfold maxLen; omega) (by omega) (by decide) ?_; intro g6 cap6 w6 hown6 hch6 hg6))
      have hC6 : Chg (fun k => k = rd) W4 w6 := ((HC.out.trans hc5 (fun _ _ h => h.elim)).trans hch6 (fun j hj h => absurd (HBL.out j h) (by omega)))
      have hC56 : Chg (fun k => v.ownBlock = some k) wr w6 := (hc5.mono (fun _ _ h => h.elim)).trans hch6 (fun _ _ h => h)
      have hM6 : MapL w6 rd nmV boolV (doneL g l) := HM.out.chg hC56 (fun h => by have := HBL.out _ h; have := HZ.out; omega)
      obtain ⟨bb, oo, hiy, hlt, e0, _, _, _, _, _⟩ := (HBA.out.acts.chg (HF.out _ hC6) (fun _ _ h => h)).at i hi
      have y1 := HCP.out _ hC6
      have y2 := HCA.out _ hC6
      have y3 := HCD.out _ hC6
      have HC6 := hid hC6
      have HM6 := hid hM6
      have HNM := hid (nameAt_lt g i hi)
      have HOW6 := hid hown6
      have HG6 : Hid (W4.heap.size ≤ g6) := by
        show W4.heap.size ≤ g6
        rcases hg6 with h | h
        · exact HBL.out _ h
        · have h1 := HC.out.size; have h2 := hc5.size; omega
      clear hC6 hC56 hM6 hown6 hch6 hg6 hown5 hc5 hix2
      generalize hnm : g.acts[i].name = nm at *
      have HN2 := hid hnm
      clear hnm
      go_still_tail 11, (by kernel_rfl)
      change wpList _ _ _ _ _ w6.drew
      refine wpList_mapUpdate_l rfl _ _ _ 139 rfl keyNm Tryz.underlying139 (show MapL w6.drew rd nmV boolV _ from HM6.out) rfl nm rfl true rfl ?_
      intro w7 hm7 hc7
      go_frame
      go_wp2_with fail
      go_roundw
      case rel =>
        refine ⟨l ++ [i], _, rfl, HO2.out, HGO2.out, ?_, ?_, ?_, HC6.out.drew.trans hc7 (fun _ _ h => h)⟩
        · have h1 := hc7.owns (show w6.drew.ownsRow _ _ _ _ _ _ from HOW6.out) (fun k hk => by
            simp [Value.ownBlock] at hk; have := HG6.out; have := HZ.out; omega)
          simpa using h1
        · intro k hk
          simp [Value.ownBlock] at hk
          have := HG6.out
          omega
        · rw [doneL_snoc, HNM.out]
          exact hm7
      case measure =>
        have h1 := owns_lenOf HOWN.out
        simp [lenOf] at h1 ⊢
        omega

def CheckedPost (w : World) (g : GrR) (e : Ending) (w' : World) : Prop :=
  Chg (fun _ => False) w w' ∧ ((checkR g = 0 ∧ ∃ b, e = .returned (.tuple #[.pointer (some ⟨b, 0, none⟩), .int .i64 0]) ∧ IsWeb w' b g) ∨ (checkR g ≠ 0 ∧ e = .returned (.tuple #[.pointer none, .int .i64 (checkR g)])))
set_option maxRecDepth 100000 in
set_option maxHeartbeats 4000000 in
theorem checked_any (g : GrR) (v : Value) (w : World) (hg : GrAt w v g) : Calls Tryz.prog 73 #[v] w (CheckedPost w g) := by
  obtain ⟨oa, c, ob, d, iv, rfl, hs, ha⟩ := hg.form
  have hC1 : Chg (fun _ => False) w (w.alloc (.cells #[.slice oa g.srcs.length c, .slice ob g.acts.length d] 25)) := (Chg.refl _ w).alloc _
  have k1 := heap_alloc_new' w (.cells #[.slice oa g.srcs.length c, .slice ob g.acts.length d] 25)
  have hwv := woven_any g _ _ (hg.chg hC1 (fun _ _ h => h))
  have hmx := ha.rows.le
  unfold maxLen at hmx
  have HC1 := hid hC1
  have HK := hid k1
  clear hs ha hg hC1 k1
  unfold WovenPost at hwv
  by_cases hwz : wovenR g = 0
  · have HW := hid (wovenR_zero.1 hwz)
    have HWZ := hid hwz
    have HR : Hid (checkR g = if (orderR g).length ≠ g.acts.length then 23 else 0) := by show checkR g = _; unfold checkR; rw [if_neg (by simp [hwz])]
    have hwv2 : Calls Tryz.prog 113 #[.agg #[.slice oa g.srcs.length c, .slice ob g.acts.length d]] (w.alloc (.cells #[.slice oa g.srcs.length c, .slice ob g.acts.length d] 25)) (fun e w' => ∃ b, e = .returned (.tuple #[.pointer (some ⟨b, 0, none⟩), .int .i64 0]) ∧ Chg (fun _ => False) (w.alloc (.cells #[.slice oa g.srcs.length c, .slice ob g.acts.length d] 25)) w' ∧ IsWeb w' b g) :=
      hwv.mono (fun e w' ⟨h1, h2⟩ => by
        rcases h2 with ⟨_, b, h3, h4⟩ | ⟨h3, _⟩
        · exact ⟨b, h3, h1, h4⟩
        · exact absurd hwz h3)
    have HLN := hid (orderR_ordd g).le
    clear hwv hwz
    by_cases hfull : (orderR g).length = g.acts.length
    · go_enter Tryz.func73, Tryz.ntmps73
      go_wp2_with (go_at_call 113; refine hwv2.mono ?_; rintro e w2 ⟨b, rfl, hc2, hb2⟩; have HC2 := hid hc2; have HB2 := hid hb2; clear hc2 hb2)
      have k2 := cell_of (HC2.out.obj HK.out (fun h => h)) 1
      simp at k2
      have hord := order_any g HW.out w2.drew b (HB2.out.chg ((Chg.refl (fun _ => False) w2).drew) (fun _ _ h => h))
      have k2d : w2.drew.cell? ⟨w.heap.size, 1, none⟩ = some (.slice ob g.acts.length d) := k2
      unfold IntsPost at hord
      rw [hfull] at hord
      clear hwv2
      go_region_held3 (fun W => W.cell? ⟨w.heap.size, 1, none⟩ = some (.slice ob g.acts.length d)) (first | exact k2 | exact k2d | exact hc3.cell k2d (fun h => h) | go_keep) (first | (go_at_call 114; refine hord.mono ?_; rintro e w3 ⟨hc3, v3, rfl, hown3⟩; obtain ⟨o3, cap3, rfl⟩ := owns_form hown3; have HC3 := hid hc3))
      go_wp2_with fail
      go_ret2
      have hz : checkR g = 0 := by rw [HR.out, if_neg (by simp [hfull])]
      exact ⟨(HC1.out.trans HC2.out (fun _ _ h => h)).drew.trans HC3.out (fun _ _ h => h), .inl ⟨hz, b, rfl, HB2.out.chg (((Chg.refl (fun _ => False) w2).drew).trans HC3.out (fun _ _ h => h)) (fun _ _ h => h)⟩⟩
    · have hne : ¬ ((orderR g).length : Int) = (g.acts.length : Int) := by omega
      go_enter Tryz.func73, Tryz.ntmps73
      go_wp2_with (go_at_call 113; refine hwv2.mono ?_; rintro e w2 ⟨b, rfl, hc2, hb2⟩; have HC2 := hid hc2; have HB2 := hid hb2; clear hc2 hb2)
      have k2 := cell_of (HC2.out.obj HK.out (fun h => h)) 1
      simp at k2
      have hord := order_any g HW.out w2.drew b (HB2.out.chg ((Chg.refl (fun _ => False) w2).drew) (fun _ _ h => h))
      have k2d : w2.drew.cell? ⟨w.heap.size, 1, none⟩ = some (.slice ob g.acts.length d) := k2
      unfold IntsPost at hord
      have hz : checkR g = 23 := by rw [HR.out, if_pos hfull]
      have HZ := hid hz
      clear hwv2 hz hfull
      generalize orderR g = ol at *
      generalize ol.length = on at *
      go_region_held3 (fun W => W.cell? ⟨w.heap.size, 1, none⟩ = some (.slice ob g.acts.length d)) (first | exact k2 | exact k2d | exact hc3.cell k2d (fun h => h) | go_keep) (first | (go_at_call 114; refine hord.mono ?_; rintro e w3 ⟨hc3, v3, rfl, hown3⟩; obtain ⟨o3, cap3, rfl⟩ := owns_form hown3; have HC3 := hid hc3))
      go_wp2_with fail
      go_ret2
      exact ⟨(HC1.out.trans HC2.out (fun _ _ h => h)).drew.trans HC3.out (fun _ _ h => h), .inr ⟨by rw [HZ.out]; decide, by rw [HZ.out]; rfl⟩⟩
  · have hwv2 : Calls Tryz.prog 113 #[.agg #[.slice oa g.srcs.length c, .slice ob g.acts.length d]] (w.alloc (.cells #[.slice oa g.srcs.length c, .slice ob g.acts.length d] 25)) (Rets (.tuple #[.pointer none, .int .i64 (wovenR g)]) (Chg (fun _ => False) (w.alloc (.cells #[.slice oa g.srcs.length c, .slice ob g.acts.length d] 25)))) :=
      hwv.mono (fun e w' ⟨h1, h2⟩ => by
        rcases h2 with ⟨h3, _⟩ | ⟨_, h3⟩
        · exact absurd h3 hwz
        · exact ⟨h3, h1⟩)
    have HR : Hid (checkR g = wovenR g) := by show checkR g = _; unfold checkR; rw [if_pos hwz]
    have HN := hid hwz
    have hne : ((wovenR g : Int) == 0) = false := by simp; omega
    clear hwv hwz
    generalize wovenR g = n at *
    go_enter Tryz.func73, Tryz.ntmps73
    go_wp2_with (go_at_call 113; refine hwv2.mono ?_; rintro e w2 ⟨rfl, hc2⟩; have HC2 := hid hc2; clear hc2)
    all_goals go_region
    all_goals go_wp2_with fail
    all_goals go_ret2
    all_goals exact ⟨(HC1.out.trans HC2.out (fun _ _ h => h)).drew, .inr ⟨by rw [HR.out]; exact HN.out, by rw [HR.out]; rfl⟩⟩
end Go.Proofs.YthglfmacjoecgaaGreatDoor
namespace Go.Proofs.YthglfmacjoecgaaGreatDoor
open Go.RowKit

/-- Order's answer. -/
def ordR (g : GrR) : List Nat := if checkR g = 0 then orderR g else []
set_option maxRecDepth 100000 in
set_option maxHeartbeats 1000000 in
theorem tcheck_any (g : GrR) (v : Value) (w : World) (hg : GrAt w v g) : Calls Tryz.prog 88 #[v] w (Rets (.int .i64 (checkR g)) (Chg (fun _ => False) w)) := by
  obtain ⟨oa, c, ob, d, iv, rfl, hs, ha⟩ := hg.form
  have hC1 : Chg (fun _ => False) w (w.alloc (.cells #[.slice oa g.srcs.length c, .slice ob g.acts.length d] 25)) := (Chg.refl _ w).alloc _
  have hwv : Calls Tryz.prog 73 #[.agg #[.slice oa g.srcs.length c, .slice ob g.acts.length d]] (w.alloc (.cells #[.slice oa g.srcs.length c, .slice ob g.acts.length d] 25)) (fun e w' => ∃ p, e = .returned (.tuple #[.pointer p, .int .i64 (checkR g)]) ∧ Chg (fun _ => False) (w.alloc (.cells #[.slice oa g.srcs.length c, .slice ob g.acts.length d] 25)) w') :=
    (checked_any g _ _ (hg.chg hC1 (fun _ _ h => h))).mono (fun e w' ⟨h1, h2⟩ => by
      rcases h2 with ⟨h0, b, h3, _⟩ | ⟨_, h3⟩
      · exact ⟨some ⟨b, 0, none⟩, by rw [h3, h0]; rfl, h1⟩
      · exact ⟨none, h3, h1⟩)
  clear hs ha hg
  generalize checkR g = n at *
  go_enter Tryz.func88, Tryz.ntmps88
  go_wp2_with (go_at_call 73; refine hwv.mono ?_; rintro e w2 ⟨p, rfl, hc2⟩)
  go_ret
  exact ⟨rfl, hC1.trans hc2 (fun _ _ h => h)⟩
set_option maxRecDepth 100000 in
set_option maxHeartbeats 1000000 in
theorem torder_any (g : GrR) (v : Value) (w : World) (hg : GrAt w v g) : Calls Tryz.prog 78 #[v] w (IntsPost w (ordR g)) := by
  obtain ⟨oa, c, ob, d, iv, rfl, hs, ha⟩ := hg.form
  have hC1 : Chg (fun _ => False) w (w.alloc (.cells #[.slice oa g.srcs.length c, .slice ob g.acts.length d] 25)) := (Chg.refl _ w).alloc _
  have hwv := checked_any g _ _ (hg.chg hC1 (fun _ _ h => h))
  unfold CheckedPost at hwv
  clear hs ha hg
  by_cases hz : checkR g = 0
  · have hw := (can_iff.1 hz).w
    have hr : ordR g = orderR g := by unfold ordR; rw [if_pos hz]
    have hwv2 : Calls Tryz.prog 73 #[.agg #[.slice oa g.srcs.length c, .slice ob g.acts.length d]] (w.alloc (.cells #[.slice oa g.srcs.length c, .slice ob g.acts.length d] 25)) (fun e w' => ∃ b, e = .returned (.tuple #[.pointer (some ⟨b, 0, none⟩), .int .i64 0]) ∧ Chg (fun _ => False) (w.alloc (.cells #[.slice oa g.srcs.length c, .slice ob g.acts.length d] 25)) w' ∧ IsWeb w' b g) :=
      hwv.mono (fun e w' ⟨h1, h2⟩ => by
        rcases h2 with ⟨_, b, h3, h4⟩ | ⟨h3, _⟩
        · exact ⟨b, h3, h1, h4⟩
        · exact absurd hz h3)
    have HW := hid hw
    rw [hr]
    clear hz hr hwv hw
    go_enter Tryz.func78, Tryz.ntmps78
    go_wp2_with (first | (go_at_call 73; refine hwv2.mono ?_; rintro e w2 ⟨b, rfl, hc2, hb2⟩; have HB2 := hid hb2; clear hb2) | (go_at_call 114; refine (order_any g HW.out _ _ HB2.out).mono ?_; rintro e w3 ⟨hc3, v3, rfl, hown3⟩))
    go_ret
    exact ⟨(hC1.trans hc2 (fun _ _ h => h)).trans hc3 (fun _ _ h => h), v3, rfl, hown3⟩
  · have hr : ordR g = [] := by unfold ordR; rw [if_neg hz]
    have hwv2 : Calls Tryz.prog 73 #[.agg #[.slice oa g.srcs.length c, .slice ob g.acts.length d]] (w.alloc (.cells #[.slice oa g.srcs.length c, .slice ob g.acts.length d] 25)) (Rets (.tuple #[.pointer none, .int .i64 (checkR g)]) (Chg (fun _ => False) (w.alloc (.cells #[.slice oa g.srcs.length c, .slice ob g.acts.length d] 25)))) :=
      hwv.mono (fun e w' ⟨h1, h2⟩ => by
        rcases h2 with ⟨h3, _⟩ | ⟨_, h3⟩
        · exact absurd h3 hz
        · exact ⟨h3, h1⟩)
    have hne : ((checkR g : Int) == 0) = false := by simp; omega
    have hne2 : ¬ (checkR g : Int) = 0 := by omega
    rw [hr]
    clear hz hr hwv
    generalize checkR g = n at *
    go_enter Tryz.func78, Tryz.ntmps78
    go_wp2_with (go_at_call 73; refine hwv2.mono ?_; rintro e w2 ⟨rfl, hc2⟩)
    go_ret
    exact ⟨hC1.trans hc2 (fun _ _ h => h), _, rfl, World.ownsRow_nil _ _ _ _⟩
end Go.Proofs.YthglfmacjoecgaaGreatDoor
