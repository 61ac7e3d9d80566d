/- TrellisOrders walked: it returns true. -/
import Derived.Test.YtafdcmhckpdnbaaDoorTrP
namespace Go.Proofs.YtafdcmhckpdnbaaDoor
open Go.RowKit

theorem QRow.names {w : World} {v : Value} {l : List Nm} (h : QRow w 9 v (l.map nmV)) (hw : ∀ s ∈ l, s.length ≤ 1000) : NamesAt w v l := by
  rcases h with ⟨rfl, h0⟩ | ⟨g, o, cap, cur, rfl, hg, hl, hm, hcs, ht⟩
  · have : l = [] := by simpa using h0
    subst this
    exact ⟨.inl ⟨rfl, rfl⟩, Nat.zero_le _, by simp⟩
  · refine ⟨.inr ⟨⟨g, o, none⟩, cap, by simp, fun i hi => ?_⟩, by simp at hl ⊢; omega, fun s hs => by obtain ⟨y, hy, rfl⟩ := List.mem_map.1 hs; rw [bs_size]; have := hw y hy; unfold maxLen; omega⟩
    have hi' : i < l.length := by simpa using hi
    have hadd : (⟨g, o, none⟩ : Addr).add i = ⟨g, o + i, none⟩ := by unfold Addr.add; split <;> simp_all
    rw [hadd, cell_of hg, ← Array.getElem?_toList]
    have h2 : ((cur.toList.drop o).take (l.map nmV).length)[i]? = (l.map nmV)[i]? := by rw [ht]
    rw [List.getElem?_take, if_pos (by simpa using hi'), List.getElem?_drop] at h2
    rw [h2]
    simp [hi']
theorem QRow.empty (w : World) : QRow (w.alloc (.cells #[] 9)) 9 (.slice (some ⟨w.heap.size, 0, none⟩) 0 0) [] := .inr ⟨w.heap.size, 0, 0, #[], rfl, heap_alloc_new' w _, Nat.zero_le _, Nat.zero_le _, Nat.zero_le _, rfl⟩
theorem nil_names (w : World) : NamesAt w (.slice none 0 0) [] := ⟨.inl ⟨rfl, rfl⟩, Nat.zero_le _, by simp⟩

def doneK (g : GrR) (k : Nat) : List Nm := g.srcs ++ ((orderR g).take k).map (nameAt g)
theorem doneK_succ (g : GrR) (k : Nat) (h : k < (orderR g).length) : doneK g (k + 1) = doneK g k ++ [nameAt g (orderR g)[k]] := by
  unfold doneK
  rw [List.take_succ_eq_append_getElem h, List.map_append, List.append_assoc]
  rfl
theorem Can.fresh {g : GrR} (hc : Can g) (k : Nat) (h : k < (orderR g).length) : nameAt g (orderR g)[k] ∉ doneK g k := by
  have ho := orderR_ordd g
  have hlt := ho.lt _ (List.getElem_mem h)
  unfold doneK
  intro hm
  rcases List.mem_append.1 hm with hm | hm
  · exact hc.w.apart hlt hm
  · obtain ⟨j, hj, e⟩ := List.mem_map.1 hm
    obtain ⟨q, hq, rfl⟩ := List.mem_iff_getElem.1 hj
    simp only [List.length_take] at hq
    rw [List.getElem_take] at e
    have e2 := hc.w.inj (ho.lt _ (List.getElem_mem (by omega))) hlt e
    exact (List.pairwise_iff_getElem.1 ho.nd) q k (by omega) h (by omega) e2
theorem Can.behind {g : GrR} (k : Nat) (h : k < (orderR g).length) : ∀ s ∈ insAt g (orderR g)[k], s ∈ doneK g k := by
  intro s hs
  unfold doneK
  rcases (orderR_ordd g).sup k h s hs with h1 | ⟨j, hj, h1⟩
  · exact List.mem_append_left _ h1
  · refine List.mem_append_right _ (List.mem_map.2 ⟨(orderR g)[j], ?_, h1⟩)
    rw [List.mem_iff_getElem]
    exact ⟨j, by simp; omega, by rw [List.getElem_take]⟩
theorem Can.done8 {g : GrR} (hc : Can g) (k : Nat) : ∀ s ∈ doneK g k, s.length ≤ 8 := by
  intro s hs
  refine name_le hc.w ?_
  unfold doneK at hs
  rcases List.mem_append.1 hs with hs | hs
  · exact mem_names.2 (.inl hs)
  · obtain ⟨j, hj, e⟩ := List.mem_map.1 hs
    exact mem_names.2 (.inr ⟨j, (orderR_ordd g).lt _ (List.mem_of_mem_take hj), e⟩)

set_option maxRecDepth 100000 in
set_option maxHeartbeats 4000000 in
theorem orders_any (g : GrR) (v : Value) (w : World) (hg : GrAt w v g) : Calls Tryd.prog 4 #[v] w (Rets (.bool true) (Chg (fun _ => False) w)) := by
  obtain ⟨oa, c, ob, d, iv, rfl, hs, ha⟩ := hg.form
  have hC1 : Chg (fun _ => False) w (w.alloc (.cells #[.slice oa g.srcs.length c, .slice ob g.acts.length d] 25)) := (Chg.refl _ w).alloc _
  have hgb : (w.alloc (.cells #[.slice oa g.srcs.length c, .slice ob g.acts.length d] 25)).heap[w.heap.size]? = some (.cells #[.slice oa g.srcs.length c, .slice ob g.acts.length d] 25 (0, 0)) := heap_alloc_new' w _
  have HG := hid (hg.chg hC1 (fun _ _ h => h))
  have HS := hid hs
  have HA := hid ha
  have HC1 := hid hC1
  have HGB := hid hgb
  clear hg hs ha hC1 hgb
  go_enter Tryd.func4, Tryd.ntmps4
  go_wp2_with fail
  refine (awake_any _).mono ?_
  rintro e w1 ⟨rfl, hc1⟩
  generalize w.alloc (.cells #[.slice oa g.srcs.length c, .slice ob g.acts.length d] 25) = W0 at *
  have a0 := cell_of (hc1.obj HGB.out (fun h => h)) 0
  have a1 := cell_of (hc1.obj HGB.out (fun h => h)) 1
  simp at a0 a1
  have C := hid hc1
  clear hc1
  go_wp2_with fail
  refine (great_any g [] _ _ _ (HG.out.chg C.out (fun _ _ h => h)) (nil_names _)).mono ?_
  rintro e w2 ⟨B, rfl, hc2, hB⟩
  have C2 := hid (C.out.trans hc2 (fun _ _ h => h))
  have a0 := cell_of (C2.out.obj HGB.out (fun h => h)) 0
  have a1 := cell_of (C2.out.obj HGB.out (fun h => h)) 1
  simp at a0 a1
  clear hc2 C hB
  cases B with
  | true =>
    go_wp2_with fail
    go_ret
    exact ⟨rfl, HC1.out.trans C2.out (fun _ _ h => h)⟩
  | false =>
    go_wp2_with fail
    refine (torder_any g _ _ (HG.out.chg C2.out (fun _ _ h => h))).mono ?_
    rintro e w3 ⟨hc3, v3, rfl, ho3⟩
    have C3 := hid (C2.out.trans hc3 (fun _ _ h => h))
    have a0 := cell_of (C3.out.obj HGB.out (fun h => h)) 0
    have a1 := cell_of (C3.out.obj HGB.out (fun h => h)) 1
    simp at a0 a1
    have HO3 := hid ho3
    clear hc3 C2 ho3
    go_wp2_with fail
    refine (tcheck_any g _ _ (HG.out.chg C3.out (fun _ _ h => h))).mono ?_
    rintro e w4 ⟨rfl, hc4⟩
    have C4 := hid (C3.out.trans hc4 (fun _ _ h => h))
    have HO4 := hid (hc4.owns HO3.out (fun _ _ h => h))
    have a0 := cell_of (C4.out.obj HGB.out (fun h => h)) 0
    have a1 := cell_of (C4.out.obj HGB.out (fun h => h)) 1
    simp at a0 a1
    clear hc4 C3 HO3
    by_cases hz : checkR g = 0
    · have hcan := can_iff.1 hz
      have hr : ordR g = orderR g := by unfold ordR; rw [if_pos hz]
      rw [hr] at HO4
      rw [hz]
      have hfull := hcan.full
      have hI := IntsAt.of_owns HO4.out
      obtain ⟨o3, c3, rfl⟩ := hI.form
      have hn12 := hcan.w.acts12
      have hn8 := hcan.w.srcs8
      rw [hfull] at hI
      have HI := hid hI
      have HCAN := hid hcan
      have HFULL := hid hfull
      rw [hfull]
      have hlA := HA.out.len
      have HNS := hid ((HS.out.chg (HC1.out.trans C4.out (fun _ _ h => h)) (fun _ _ h => h)).chg (al_chg w4 (.cells #[] 9)) (fun _ _ h => h))
      have b0 := cell_alloc' a0 (.cells #[] 9)
      clear hI hcan hz hr HO4 hfull
      go_wp2_with (at_builtin; refine wpList_append_q rfl _ _ 22 rfl elStr (QRow.empty _) rfl rfl HNS.out (by unfold maxLen; simp; omega) (by simp; omega) ?_; intro v5 w5 hq5 hc5 hb5)
      generalize w.heap.size = gb at *
      clear b0 a0 a1
      have HW45 : Hid (Chg (fun _ => False) w4 w5) := hid ((al_chg _ _).trans hc5 (fun i hi h => by simp [Value.ownBlock] at h; omega))
      have HW5 : Hid (Chg (fun _ => False) W0 w5) := hid ((C4.out.trans (al_chg _ _) (fun _ _ h => h)).trans hc5 (fun i hi h => by simp [Value.ownBlock] at h; have := C4.out.size; omega))
      have HQ5 : Hid (QRow w5 9 v5 ((doneK g 0).map nmV)) := hid (by
        have e : (g.srcs.map bs).map Value.string = (doneK g 0).map nmV := by unfold doneK; simp
        rw [← e]; simpa using hq5)
      have HB5 : Hid (∀ q, v5.ownBlock = some q → w4.heap.size ≤ q) := hid (fun q hq => by
        rcases hb5 q hq with h | h
        · simp [Value.ownBlock] at h; omega
        · simp at h; omega)
      clear hq5 hc5 hb5 HNS
      go_loopw [4, 5] (fun v i wr => ∃ (k : Nat) (x : Value), x = v ∧ k ≤ g.acts.length ∧ i = .int .i64 k ∧ Chg (fun _ => False) w4 wr ∧ QRow wr 9 x ((doneK g k).map nmV) ∧ (∀ q, x.ownBlock = some q → w4.heap.size ≤ q)) (fun _ i _ => g.acts.length - (intOf i).toNat)
      case atStart => exact ⟨0, _, rfl, Nat.zero_le _, rfl, HW45.out, HQ5.out, HB5.out⟩
      case round =>
        obtain ⟨k, v, hv, hk, rfl, hch, hq, hbl⟩ := hrel
        subst hv
        have HC := hid (C4.out.trans hch (fun _ _ h => h))
        have HC4 := hid hch
        have HQ := hid hq
        have HBL := hid hbl
        have a1 := cell_of (HC.out.obj HGB.out (fun h => h)) 1
        simp at a1
        clear hch hq hbl HW5 HQ5 HB5 HW45
        by_cases hkn : k < g.acts.length
        · have hkn' : (k : Int) < g.acts.length := by omega
          have hkl : k < (orderR g).length := by have := HFULL.out; omega
          obtain ⟨b1, o1, hix1, hc1, hl1⟩ := (HI.out.chg HC4.out (fun _ _ h => h)).ix k hkl
          have hik := (orderR_ordd g).lt _ (List.getElem_mem hkl)
          have HD1 := hid (doneK_succ g k hkl)
          have HFR := hid (HCAN.out.fresh k hkl)
          have HBE := hid (Can.behind (g := g) k hkl)
          generalize (orderR g)[k] = ik at *
          have hik' : (ik : Int) < g.acts.length := by omega
          have hi0 : decide ((ik : Int) < 0) = false := by simp
          obtain ⟨bb, oo, hix, hlt, e0, e1, e2, hns, hw1, hw2⟩ := (HA.out.chg (HC1.out.trans HC.out (fun _ _ h => h)) (fun _ _ h => h)).at ik hik
          obtain ⟨oi, ci, hiv⟩ := hns.form
          rw [hiv] at e1 hns
          go_wp2_with fail
          go_quiet (fail)
          have hC6 := HC4.out.drewN nq
          have hns6 : NamesAt (wr.drewN nq) (.slice oi g.acts[ik].ins.length ci) g.acts[ik].ins := hns
          have hq6 : QRow (wr.drewN nq) 9 v ((doneK g k).map nmV) := HQ.out
          have f1 : (wr.drewN nq).cell? ⟨b1, o1, none⟩ = some (.int .i64 ik) := hc1
          have f2 : (wr.drewN nq).cell? ⟨gb, 1, none⟩ = some (.slice ob g.acts.length d) := a1
          have f3 : (wr.drewN nq).cell? ⟨bb, oo, none⟩ = some (.string (bs g.acts[ik].name)) := e0
          have f4 : (wr.drewN nq).cell? ⟨bb, oo + 1, none⟩ = some (.slice oi g.acts[ik].ins.length ci) := e1
          have f5 : (wr.drewN nq).cell? ⟨bb, oo + 2, none⟩ = some (.string (bs g.acts[ik].code)) := e2
          have hnmk := nameAt_lt g ik hik
          have hins := insAt_lt g ik hik
          have HC6 := hid hC6
          have HNS6 := hid hns6
          have HQ6 := hid hq6
          rw [hnmk] at HD1 HFR
          rw [hins] at HBE
          clear HC4 HQ hns hc1 e0 e1 e2 hC6 hns6 hq6 hw1 hw2 a1 hnmk hins hiv hlt hl1
          generalize wr.drewN nq = W6 at *
          generalize g.acts[ik].ins = ins at *
          generalize g.acts[ik].name = nm at *
          generalize bs g.acts[ik].code = cd at *
          go_wp2_with fail
          have z1 := cell_alloc' f1 (.cells #[.string { data := #[] }, .slice none 0 0, .string { data := #[] }] 41)
          have z2 := cell_alloc' f2 (.cells #[.string { data := #[] }, .slice none 0 0, .string { data := #[] }] 41)
          have z3 := cell_alloc' f3 (.cells #[.string { data := #[] }, .slice none 0 0, .string { data := #[] }] 41)
          have z4 := cell_alloc' f4 (.cells #[.string { data := #[] }, .slice none 0 0, .string { data := #[] }] 41)
          have z5 := cell_alloc' f5 (.cells #[.string { data := #[] }, .slice none 0 0, .string { data := #[] }] 41)
          go_region
          go_wp2_with fail
          have hA7 : Chg (fun _ => False) W6 (W6.alloc (.cells #[.string (bs nm), .slice oi ins.length ci, .string cd] 41)).drew := (al_chg W6 _).drew
          have kA7 : (W6.alloc (.cells #[.string (bs nm), .slice oi ins.length ci, .string cd] 41)).drew.heap[W6.heap.size]? = some (.cells #[.string (bs nm), .slice oi ins.length ci, .string cd] 41 (0, 0)) := heap_alloc_new' W6 _
          have HC7 := hid (HC6.out.trans hA7 (fun _ _ h => h))
          have HN7 := hid ((HQ6.out.names (fun s hs => Nat.le_trans (HCAN.out.done8 k s hs) (by decide))).chg hA7 (fun _ _ h => h))
          have HI7 := hid (HNS6.out.chg hA7 (fun _ _ h => h))
          have HQ7 := hid (HQ6.out.chg hA7 (fun _ _ h => h))
          have HK7 := hid kA7
          have hli := HNS6.out.le
          unfold maxLen at hli
          clear hA7 kA7 f1 f2 f3 f4 f5 z1 z2 z3 z4 z5
          generalize (W6.alloc (.cells #[.string (bs nm), .slice oi ins.length ci, .string cd] 41)).drew = W7 at *
          obtain ⟨ba, hba⟩ : ∃ ba, ba = W6.heap.size := ⟨_, rfl⟩
          rw [← hba] at HK7 ⊢
          clear hba HC6 HNS6 HQ6
          refine (in_any v (doneK g k) nm W7 HN7.out).mono ?_
          rintro e w' ⟨rfl, rfl⟩
          have hfr : (doneK g k).contains nm = false := by simpa using HFR.out
          rw [hfr]
          clear hfr
          have d0 := cell_of HK7.out 0
          have d1 := cell_of HK7.out 1
          simp at d0 d1
          have hlenN := HI7.out.len
          go_wp2_with fail
          go_loopw [7] (fun i wr => ∃ q : Nat, q ≤ ins.length ∧ i = .int .i64 q ∧ wr = W7) (fun i _ => ins.length - (intOf i).toNat)
          case atStart => exact ⟨0, Nat.zero_le _, rfl, rfl⟩
          case round =>
            obtain ⟨q, hq, rfl, rfl⟩ := hrel
            by_cases hqn : q < ins.length
            · have hqn' : (q : Int) < ins.length := by omega
              obtain ⟨ad3, hix3, hadc3, hadb3⟩ := HI7.out.ix q hqn
              have hct : (doneK g k).contains ins[q] = true := by simpa using HBE.out _ (List.getElem_mem hqn)
              generalize ins[q] = s3 at *
              have HCT := hid hct
              clear hct
              go_wp2_with (go_at_call 21; refine (in_any v (doneK g k) s3 _ HN7.out).mono ?_; rintro e w' ⟨he, rfl⟩; rw [HCT.out] at he; subst he)
              go_roundw
              case rel => exact ⟨q + 1, by omega, by go_num, by first | rfl | trivial⟩
              case measure => simp [intOf]; omega
            · obtain rfl : q = ins.length := by omega
              have hnew := names_new wr [nm] 1 rfl (by decide) (fun s hs => by simp at hs; subst hs; have := HCAN.out.done8 (k + 1) s (by rw [HD1.out]; simp); omega)
              have HNEW : Hid (StrsAt (wr.alloc (.cells #[.string (bs nm)] 9)) (.slice (some ⟨wr.heap.size, 0, none⟩) 1 1) [bs nm]) := hid hnew
              have HQ8 := hid (HQ7.out.chg (al_chg wr (.cells #[.string (bs nm)] 9)) (fun _ _ h => h))
              have HLE : Hid (((doneK g k).map nmV).length ≤ 100) := hid (by
                unfold doneK
                have := hn8
                have := hn12
                simp
                omega)
              clear hnew
              go_wp2_with (at_builtin; refine wpList_append_q rfl _ _ 22 rfl elStr HQ8.out rfl rfl HNEW.out (by have := HLE.out; unfold maxLen; simp at *; omega) (by have := HLE.out; simp at *; omega) ?_; intro v8 w8 hq8 hc8 hb8)
              go_roundw
              case rel =>
                refine ⟨k + 1, v8, rfl, by omega, by go_num, ?_, ?_, fun q hq => ?_⟩
                · exact (HC7.out.trans (al_chg wr _) (fun _ _ h => h)).trans hc8 (fun q hq h => absurd (HBL.out q h) (by omega))
                · rw [HD1.out, List.map_append]
                  exact hq8
                · rcases hb8 q hq with h | h
                  · exact HBL.out q h
                  · have := HC7.out.size; simp at h; omega
              case measure => simp [intOf]; omega
        · obtain rfl : k = g.acts.length := by omega
          go_wp2_with fail
          go_ret
          exact ⟨rfl, HC1.out.trans HC.out (fun _ _ h => h)⟩
    · have hr : ordR g = [] := by unfold ordR; rw [if_neg hz]
      rw [hr] at HO4
      obtain ⟨o3, c3, rfl⟩ := owns_form HO4.out
      have hne : ((checkR g : Int) == 0) = false := by simp; omega
      have hne2 : ¬ (checkR g : Int) = 0 := by omega
      generalize checkR g = n at *
      clear hr HO4 hz
      go_wp2_with fail
      go_ret
      exact ⟨rfl, HC1.out.trans C4.out (fun _ _ h => h)⟩
end Go.Proofs.YtafdcmhckpdnbaaDoor
