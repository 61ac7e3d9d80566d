/- Texts of the proof, one behind the other: apiaryref08.Check walked; apiaryref09.source, apiaryref09.Check walked; apiaryref09.Check walked; apiaryref08.Order, Needs, Dirty walked; A row of results in a block of the call's own. -/
import Derived.Test.YthglfmacjoecgaaGreatDoorMx16
import Derived.Test.YthglfmacjoecgaaGreatDoorMx06
import Derived.Deep.RegionHeld3
import Derived.Test.YthglfmacjoecgaaGreatDoorMx09
import Derived.Test.YthglfmacjoecgaaGreatDoorMx11
import Derived.Test.YthglfmacjoecgaaGreatDoorMx07
namespace Go.Proofs.YthglfmacjoecgaaGreatDoor
open Go.RowKit

theorem name_ok {g : GrR} (hok : grOK g = true) {s : Nm} (hs : s ∈ namesL g) : s.length ≤ 8 := by
  have h := (grOK_iff g).1 hok
  rcases mem_names.1 hs with h1 | ⟨i, hi, rfl⟩
  · exact (nameL_let (h.2.2.1 s h1)).2.1
  · rw [nameAt_lt g i hi]
    exact (nameL_let ((actOK_iff _).1 (h.2.2.2 _ (List.getElem_mem hi))).1).2.1

set_option maxRecDepth 100000 in
set_option maxHeartbeats 2000000 in
theorem rcheck_any (g : GrR) (v : Value) (w : World) (hg : GrAt w v g) :
    Calls Tryz.prog 89 #[v] w (Rets (.int .i64 (checkR g)) (Chg (fun _ => False) w)) := by
  obtain ⟨oa, c, ob, d, iv, rfl, hs, ha⟩ := hg.form
  have hmx := ha.rows.le
  unfold maxLen at hmx
  have hlen := ha.len
  have hC1 : Chg (fun _ => False) w (w.alloc (.cells #[.slice oa g.srcs.length c, .slice ob g.acts.length d] 25)) := (Chg.refl _ w).alloc _
  have HGB := hid (heap_alloc_new' w (.cells #[.slice oa g.srcs.length c, .slice ob g.acts.length d] 25))
  have HG1 := hid (hg.chg hC1 (fun _ _ h => h))
  have HC1 := hid hC1
  have HA := hid (ha.chg hC1 (fun _ _ h => h))
  have HS := hid (hs.chg hC1 (fun _ _ h => h))
  clear hg hs ha hC1
  go_enter Tryz.func89, Tryz.ntmps89
  by_cases hok : grOK g = true
  · go_wp2_with (go_at_call 120; refine (rprint_any g _ _ HG1.out).mono ?_; rw [if_pos hok]; rintro e w2 ⟨rfl, hc2⟩)
    have HC2 := hid (HC1.out.trans hc2 (fun _ _ h => h))
    have HGB2 := hid (hc2.obj HGB.out (fun h => h))
    have HA2 := hid (HA.out.chg hc2 (fun _ _ h => h))
    have HS2 := hid (HS.out.chg hc2 (fun _ _ h => h))
    have HOK := hid ((grOK_iff g).1 hok)
    have hgb2 : w.heap.size < w2.heap.size := (Array.getElem?_eq_some_iff.1 HGB2.out).1
    have HG2 := hid (HG1.out.chg hc2 (fun _ _ h => h))
    clear HGB HG1 HA HS hc2
    go_loopw [5, 6] (fun o kk wr => ∃ (k : Nat) (x : Value), x = o ∧ k ≤ g.srcs.length ∧ kk = .int .i64 k ∧ (g.srcs.take k).Nodup ∧ QRow wr 9 x ((g.srcs.take k).map nmV) ∧ (∀ q, x.ownBlock = some q → w2.heap.size ≤ q) ∧ Chg (fun _ => False) w2 wr) (fun _ kk _ => g.srcs.length - (intOf kk).toNat)
    case atStart => exact ⟨0, _, rfl, Nat.zero_le _, rfl, List.nodup_nil, QRow.empty w2, (fun q h => by simp [Value.ownBlock] at h; omega), al_chg w2 _⟩
    case round =>
      obtain ⟨k, v5, hv, hk, rfl, hnd, hq, hbl, hch⟩ := hrel
      subst hv
      have HND := hid hnd
      have HQ := hid hq
      have HBL := hid hbl
      have HC := hid hch
      have a0 := cell_of (hch.obj HGB2.out (fun h => h)) 0
      have a1 := cell_of (hch.obj HGB2.out (fun h => h)) 1
      simp at a0 a1
      have hsl := (HS2.out.chg hch (fun _ _ h => h)).len
      clear hnd hq hbl hch
      have hs8 := HOK.out.1
      by_cases hkn : k < g.srcs.length
      · have hkn' : (k : Int) < g.srcs.length := by omega
        obtain ⟨ad, hix, hadc, hadb⟩ := (HS2.out.chg HC.out (fun _ _ h => h)).ix k hkn
        have hss : ∀ s ∈ g.srcs, s.length ≤ 1000 := fun s hs => by
          have := name_ok hok (mem_names.2 (.inl hs))
          omega
        have HN5 := hid (HQ.out.names (fun s hs => hss s (List.mem_of_mem_take hs)))
        have HX8 := hid (hss _ (List.getElem_mem hkn))
        have htk : (g.srcs.take (k + 1)) = g.srcs.take k ++ [g.srcs[k]] := List.take_succ_eq_append_getElem hkn
        have HTK := hid htk
        have HAL5 := hid (HQ.out.chg (al_chg wr (.cells #[.string (bs g.srcs[k])] 9)) (fun _ _ h => h))
        have HN6 : Hid (StrsAt (wr.alloc (.cells #[.string (bs g.srcs[k])] 9)) (.slice (some ⟨wr.heap.size, 0, none⟩) 1 1) [bs g.srcs[k]]) := hid (names_new wr [g.srcs[k]] 1 rfl (by decide) (fun t ht => by simp at ht; subst ht; exact HX8.out))
        clear htk hss
        have hb0 : ∃ b0, (g.srcs.take k).contains g.srcs[k] = b0 := ⟨_, rfl⟩
        obtain ⟨b0, hb0⟩ := hb0
        have HB0 := hid hb0
        clear hb0
        cases b0 with
        | true =>
          go_wp2_with (go_at_call 121; refine (has_any v5 (g.srcs.take k) g.srcs[k] _ HN5.out).mono ?_; rw [HB0.out]; rintro e w3 ⟨rfl, rfl⟩)
          have hck : checkR g = 21 := by
            have hd : dupB g = true := by
              unfold dupB
              simp only [Bool.not_eq_true', decide_eq_false_iff_not]
              intro hn
              have h1 : (g.srcs.take k ++ [g.srcs[k]]).Nodup := by
                rw [← HTK.out]
                exact ((List.nodup_append.1 hn).1).sublist (List.take_sublist _ _)
              have h2 := HB0.out
              simp at h2
              have h3 := (List.nodup_append.1 h1).2.2 _ h2 g.srcs[k] (by simp)
              exact h3 rfl
            unfold checkR wovenR
            simp [hok, hd]
          go_ret
          exact ⟨by rw [hck]; rfl, HC2.out.trans HC.out (fun _ _ h => h)⟩
        | false =>
          go_wp2_with (first | (go_at_call 121; refine (has_any v5 (g.srcs.take k) g.srcs[k] _ HN5.out).mono ?_; rw [HB0.out]; rintro e w3 ⟨rfl, rfl⟩) | (at_builtin; refine wpList_append_q rfl _ _ 22 rfl elStr HAL5.out rfl rfl HN6.out (by unfold maxLen; simp; omega) (by simp; omega) ?_; intro v8 w8 hq8 hc8 hb8))
          go_roundw
          case rel =>
            refine ⟨k + 1, _, rfl, by omega, by go_num, ?_, ?_, fun q hq => ?_, (HC.out.trans (al_chg wr _) (fun _ _ h => h)).trans hc8 (fun q hq h => absurd (HBL.out q h) (by omega))⟩
            · rw [HTK.out, List.nodup_append]
              have h2 := HB0.out
              simp at h2
              exact ⟨HND.out, by simp, fun a ha b hb e => by simp at hb; subst hb; subst e; exact h2 ha⟩
            · rw [HTK.out, List.map_append]; exact hq8
            · rcases hb8 q hq with h | h
              · exact HBL.out q h
              · have := HC.out.size; simp at h; omega
          case measure => simp [intOf]; omega
      · obtain rfl : k = g.srcs.length := by omega
        rw [List.take_length] at HND HQ
        go_wp2_with fail
        clear a0 a1 hsl
        go_loopw [5, 7] (fun o kk wx => ∃ (k : Nat) (x : Value), x = o ∧ k ≤ g.acts.length ∧ kk = .int .i64 k ∧ (g.srcs ++ (g.acts.take k).map (·.name)).Nodup ∧ QRow wx 9 x ((g.srcs ++ (g.acts.take k).map (·.name)).map nmV) ∧ (∀ q, x.ownBlock = some q → w2.heap.size ≤ q) ∧ Chg (fun _ => False) w2 wx) (fun _ kk _ => g.acts.length - (intOf kk).toNat)
        case atStart => exact ⟨0, _, rfl, Nat.zero_le _, rfl, by simpa using HND.out, by simpa using HQ.out, HBL.out, HC.out⟩
        case round =>
          obtain ⟨k, v6, hv, hk, rfl, hnd, hq, hbl, hch⟩ := hrel
          subst hv
          clear HND HQ HBL HC
          have HND := hid hnd
          have HQ := hid hq
          have HBL := hid hbl
          have HC := hid hch
          have a0 := cell_of (hch.obj HGB2.out (fun h => h)) 0
          have a1 := cell_of (hch.obj HGB2.out (fun h => h)) 1
          simp at a0 a1
          clear hnd hq hbl hch
          have hg12 := HOK.out.2.1
          by_cases hkn : k < g.acts.length
          · have hkn' : (k : Int) < g.acts.length := by omega
            obtain ⟨bb, oo, hix, hlt, e0, e1, e2, hns, hw1, hw2⟩ := (HA2.out.chg HC.out (fun _ _ h => h)).at k hkn
            clear hns hw1 hw2 e1 e2
            have hmm : ∀ s ∈ g.srcs ++ (g.acts.take k).map (·.name), s.length ≤ 1000 := fun s hs => by
              have h1 : s ∈ namesL g := by
                unfold namesL
                rcases List.mem_append.1 hs with h | h
                · exact List.mem_append.2 (.inl h)
                · obtain ⟨a, ha, rfl⟩ := List.mem_map.1 h
                  exact List.mem_append.2 (.inr (List.mem_map.2 ⟨a, List.mem_of_mem_take ha, rfl⟩))
              have := name_ok hok h1
              omega
            have hx8 : g.acts[k].name.length ≤ 1000 := by
              have := name_ok hok (mem_names.2 (.inr ⟨k, hkn, rfl⟩) : nameAt g k ∈ namesL g)
              rw [nameAt_lt g k hkn] at this
              omega
            have HX8 := hid hx8
            have HN6 := hid (HQ.out.names hmm)
            have HTK : Hid (g.srcs ++ (g.acts.take (k + 1)).map (·.name) = g.srcs ++ (g.acts.take k).map (·.name) ++ [g.acts[k].name]) := hid (by rw [List.take_succ_eq_append_getElem hkn, List.map_append, ← List.append_assoc]; rfl)
            clear hmm hx8
            have HNL : Hid (∀ k, (g.srcs ++ (g.acts.take k).map (·.name)).Sublist (namesL g)) := hid (fun k => by
              unfold namesL
              exact (List.Sublist.refl _).append ((List.take_sublist _ _).map _))
            have hln : (g.srcs ++ (g.acts.take k).map (·.name)).length ≤ 20 := by simp; omega
            have HLN := hid hln
            clear hln
            generalize g.srcs ++ (g.acts.take k).map (·.name) = D at *
            have HQA := hid (HQ.out.chg (al_chg wr (.cells #[.string (bs g.acts[k].name)] 9)) (fun _ _ h => h))
            have HN7 : Hid (StrsAt (wr.alloc (.cells #[.string (bs g.acts[k].name)] 9)) (.slice (some ⟨wr.heap.size, 0, none⟩) 1 1) [bs g.acts[k].name]) := hid (names_new wr [g.acts[k].name] 1 rfl (by decide) (fun t ht => by simp at ht; subst ht; exact HX8.out))
            obtain ⟨b0, hb0⟩ : ∃ b0, D.contains g.acts[k].name = b0 := ⟨_, rfl⟩
            have HB0 := hid hb0
            clear hb0
            cases b0 with
            | true =>
              have hck : checkR g = 21 := by
                have hd : dupB g = true := by
                  unfold dupB
                  simp only [Bool.not_eq_true', decide_eq_false_iff_not]
                  intro hn
                  have h1 := hn.sublist (HNL.out (k + 1))
                  rw [HTK.out] at h1
                  have h2 := HB0.out
                  simp at h2
                  have h3 := (List.nodup_append.1 h1).2.2 _ h2 g.acts[k].name (by simp)
                  exact h3 rfl
                unfold checkR wovenR
                simp [hok, hd]
              have HCK := hid hck
              clear hck
              go_wp2_with (go_at_call 121; refine (has_any v6 D g.acts[k].name _ HN6.out).mono ?_; rw [HB0.out]; rintro e w3 ⟨rfl, rfl⟩)
              go_ret
              exact ⟨by rw [HCK.out]; rfl, HC2.out.trans HC.out (fun _ _ h => h)⟩
            | false =>
              go_wp2_with (first | (go_at_call 121; refine (has_any v6 D g.acts[k].name _ HN6.out).mono ?_; rw [HB0.out]; rintro e w3 ⟨rfl, rfl⟩) | (at_builtin; refine wpList_append_q rfl _ _ 22 rfl elStr HQA.out rfl rfl HN7.out (by have := HLN.out; unfold maxLen; simp; omega) (by have := HLN.out; simp; omega) ?_; intro v8 w8 hq8 hc8 hb8))
              go_roundw
              case rel =>
                refine ⟨k + 1, _, rfl, by omega, by go_num, ?_, ?_, fun q hq => ?_, (HC.out.trans (al_chg wr _) (fun _ _ h => h)).trans hc8 (fun q hq h => absurd (HBL.out q h) (by omega))⟩
                · rw [HTK.out, List.nodup_append]
                  have h2 := HB0.out
                  simp at h2
                  exact ⟨HND.out, by simp, fun a ha b hb e => by simp at hb; subst hb; subst e; exact h2 ha⟩
                · rw [HTK.out, List.map_append]; exact hq8
                · rcases hb8 q hq with h | h
                  · exact HBL.out q h
                  · have := HC.out.size; simp at h; omega
              case measure => simp [intOf]; omega
          · obtain rfl : k = g.acts.length := by omega
            rw [List.take_length] at HND HQ
            have HNL : Hid (NamesAt wr v6 (namesL g)) := hid (HQ.out.names (fun s hs => by have := name_ok hok (show s ∈ namesL g from hs); omega))
            have hdup : dupB g = false := by
              have : (namesL g).Nodup := HND.out
              unfold dupB
              simp [this]
            have HDUP := hid hdup
            clear hdup HND HQ
            go_wp2_with fail
            go_loopw [8] (fun i wx => ∃ k : Nat, k ≤ g.acts.length ∧ i = .int .i64 k ∧ Chg (fun _ => False) wr wx ∧ ∀ a ∈ g.acts.take k, ∀ s ∈ a.ins, s ∈ namesL g) (fun i _ => g.acts.length - (intOf i).toNat)
            case atStart => exact ⟨0, Nat.zero_le _, rfl, Chg.refl _ _, by simp⟩
            case round =>
              obtain ⟨k, hk, rfl, hch, hall⟩ := hrel
              have HAL := hid hall
              have HN := hid (HNL.out.chg hch (fun _ _ h => h))
              have HC3 := hid (HC.out.trans hch (fun _ _ h => h))
              have HCR := hid hch
              clear hch hall a0 a1
              have a0 := cell_of (HC3.out.obj HGB2.out (fun h => h)) 0
              have a1 := cell_of (HC3.out.obj HGB2.out (fun h => h)) 1
              simp at a0 a1
              by_cases hkn : k < g.acts.length
              · have hkn' : (k : Int) < g.acts.length := by omega
                obtain ⟨bb, oo, hix, hlt, e0, e1, e2, hns, hw1, hw2⟩ := (HA2.out.chg HC3.out (fun _ _ h => h)).at k hkn
                obtain ⟨oi, ci, hiv⟩ := hns.form
                rw [hiv] at e1 hns
                have hli := hns.le
                unfold maxLen at hli
                clear e0 e2 hw1 hw2 hiv
                have HNS := hid hns
                have hln : (namesL g).length ≤ 20 := by unfold namesL; simp; omega
                clear hns
                go_wp2_with fail
                go_loopw [9] (fun i wx => ∃ q : Nat, q ≤ g.acts[k].ins.length ∧ i = .int .i64 q ∧ Chg (fun _ => False) wr wx ∧ ∀ s ∈ g.acts[k].ins.take q, s ∈ namesL g) (fun i _ => g.acts[k].ins.length - (intOf i).toNat)
                case atStart => exact ⟨0, Nat.zero_le _, rfl, Chg.refl _ _, by simp⟩
                case round =>
                  obtain ⟨q, hq, rfl, hch, hall⟩ := hrel
                  have HAL2 := hid hall
                  have HN2 := hid (HN.out.chg hch (fun _ _ h => h))
                  have HC4 := hid (HC3.out.trans hch (fun _ _ h => h))
                  have HCR2 := hid hch
                  have f1 := hch.cell e1 (fun h => h)
                  clear hch hall a0 a1
                  have a0 := cell_of (HC4.out.obj HGB2.out (fun h => h)) 0
                  have a1 := cell_of (HC4.out.obj HGB2.out (fun h => h)) 1
                  simp at a0 a1
                  by_cases hqn : q < g.acts[k].ins.length
                  · have hqn' : (q : Int) < g.acts[k].ins.length := by omega
                    obtain ⟨ad, hix2, hadc, hadb⟩ := (HNS.out.chg HCR2.out (fun _ _ h => h)).ix q hqn
                    obtain ⟨b0, hb0⟩ : ∃ b0, (namesL g).contains g.acts[k].ins[q] = b0 := ⟨_, rfl⟩
                    have HB0 := hid hb0
                    clear hb0
                    cases b0 with
                    | false =>
                      have hck : checkR g = 22 := by
                        have hm : missB g = true := by
                          unfold missB
                          rw [List.any_eq_true]
                          refine ⟨_, List.getElem_mem hkn, ?_⟩
                          rw [List.any_eq_true]
                          exact ⟨_, List.getElem_mem hqn, by rw [HB0.out]; rfl⟩
                        unfold checkR wovenR
                        simp [hok, HDUP.out, hm]
                      have HCK := hid hck
                      clear hck
                      go_wp2_with (go_at_call 121; refine (has_any v6 (namesL g) g.acts[k].ins[q] _ HN2.out).mono ?_; rw [HB0.out]; rintro e w3 ⟨rfl, rfl⟩)
                      go_ret
                      exact ⟨by rw [HCK.out]; rfl, HC2.out.trans HC4.out (fun _ _ h => h)⟩
                    | true =>
                      go_wp2_with (go_at_call 121; refine (has_any v6 (namesL g) g.acts[k].ins[q] _ HN2.out).mono ?_; rw [HB0.out]; rintro e w3 ⟨rfl, rfl⟩)
                      go_roundw
                      case rel =>
                        refine ⟨q + 1, by omega, by go_num, HCR2.out, fun s hs => ?_⟩
                        rw [List.take_succ_eq_append_getElem hqn, List.mem_append] at hs
                        rcases hs with h | h
                        · exact HAL2.out s h
                        · rw [List.mem_singleton.1 h]
                          have := HB0.out
                          simpa using this
                      case measure => simp [intOf]; omega
                  · obtain rfl : q = g.acts[k].ins.length := by omega
                    rw [List.take_length] at HAL2
                    go_wp2_with fail
                    go_roundw
                    case rel =>
                      refine ⟨k + 1, by omega, by go_num, HCR.out.trans HCR2.out (fun _ _ h => h), fun a ha => ?_⟩
                      rw [List.take_succ_eq_append_getElem hkn, List.mem_append] at ha
                      rcases ha with h | h
                      · exact HAL.out a h
                      · rw [List.mem_singleton.1 h]; exact HAL2.out
                    case measure => simp [intOf]; omega
              · obtain rfl : k = g.acts.length := by omega
                rw [List.take_length] at HAL
                have hw : Wov g := wovenR_zero.1 (by
                  have hm : ¬ missB g = true := fun hm => by
                    unfold missB at hm
                    rw [List.any_eq_true] at hm
                    obtain ⟨a, ha, hm⟩ := hm
                    rw [List.any_eq_true] at hm
                    obtain ⟨s, hs, hm⟩ := hm
                    have := HAL.out a ha s hs
                    simp [this] at hm
                  unfold wovenR
                  simp [hok, HDUP.out, hm])
                have HW := hid hw
                have HR : Hid (checkR g = if (orderR g).length ≠ g.acts.length then 23 else 0) := hid (by
                  have hwz := wovenR_zero.2 hw
                  show checkR g = _; unfold checkR; rw [if_neg (by simp [hwz])])
                have hord := rorder_any g hw _ wr.drew (HG2.out.chg (HC3.out.drew) (fun _ _ h => h))
                have k0d : wr.drew.cell? ⟨w.heap.size, 0, none⟩ = some (.slice oa g.srcs.length c) := a0
                have k1d : wr.drew.cell? ⟨w.heap.size, 1, none⟩ = some (.slice ob g.acts.length d) := a1
                have HLN := hid (orderR_ordd g).le
                clear hw
                unfold IntsPost at hord
                go_wp2_with fail
                by_cases hfull : (orderR g).length = g.acts.length
                · rw [hfull] at hord
                  go_region_held3 (fun W => W.cell? ⟨w.heap.size, 0, none⟩ = some (.slice oa g.srcs.length c) ∧ W.cell? ⟨w.heap.size, 1, none⟩ = some (.slice ob g.acts.length d)) (first | exact ⟨a0, a1⟩ | exact ⟨hc3.cell k0d (fun h => h), hc3.cell k1d (fun h => h)⟩ | exact ⟨k0d, k1d⟩) (first | (go_at_call 116; refine hord.mono ?_; rintro e w3 ⟨hc3, v3, rfl, hown3⟩; obtain ⟨o3, cap3, rfl⟩ := owns_form hown3; have HC4 := hid hc3))
                  all_goals go_wp2_with fail
                  all_goals go_ret
                  all_goals exact ⟨by rw [HR.out, if_neg (by simp [hfull])]; rfl, (HC2.out.trans HC3.out (fun _ _ h => h)).drew.trans HC4.out (fun _ _ h => h)⟩
                · have hne : ¬ ((orderR g).length : Int) = (g.acts.length : Int) := by omega
                  have HZ : Hid (checkR g = 23) := hid (by rw [HR.out, if_pos hfull])
                  clear hfull
                  generalize orderR g = ol at *
                  generalize ol.length = on at *
                  go_region_held3 (fun W => W.cell? ⟨w.heap.size, 0, none⟩ = some (.slice oa g.srcs.length c) ∧ W.cell? ⟨w.heap.size, 1, none⟩ = some (.slice ob g.acts.length d)) (first | exact ⟨a0, a1⟩ | exact ⟨hc3.cell k0d (fun h => h), hc3.cell k1d (fun h => h)⟩ | exact ⟨k0d, k1d⟩) (first | (go_at_call 116; refine hord.mono ?_; rintro e w3 ⟨hc3, v3, rfl, hown3⟩; obtain ⟨o3, cap3, rfl⟩ := owns_form hown3; have HC4 := hid hc3))
                  all_goals go_wp2_with fail
                  all_goals go_ret
                  all_goals exact ⟨by rw [HZ.out]; rfl, (HC2.out.trans HC3.out (fun _ _ h => h)).drew.trans HC4.out (fun _ _ h => h)⟩
  · have hck : checkR g = 1 := by unfold checkR wovenR; simp [hok]
    have HCK := hid hck
    clear hck
    go_wp2_with (go_at_call 120; refine (rprint_any g _ _ HG1.out).mono ?_; rw [if_neg hok]; rintro e w2 ⟨rfl, hc2⟩)
    go_ret
    exact ⟨by rw [HCK.out]; rfl, HC1.out.trans hc2 (fun _ _ h => h)⟩
end Go.Proofs.YthglfmacjoecgaaGreatDoor
namespace Go.Proofs.YthglfmacjoecgaaGreatDoor
open Go.RowKit

/-- The place of a source. -/
def srcZ (srcs : List SrcR) (s : Nm) : Int := match srcs.findIdx? (fun x => x.1 == s) with
  | some i => (i : Int)
  | none => -1
theorem srcZ_hit {srcs : List SrcR} {s : Nm} {k : Nat} (hk : k < srcs.length) (e : srcs[k].1 = s) (hall : ∀ j (h : j < srcs.length), j < k → ¬ srcs[j].1 = s) : srcZ srcs s = k := by
  unfold srcZ
  have : srcs.findIdx? (fun x => x.1 == s) = some k := by
    rw [List.findIdx?_eq_some_iff_getElem]
    exact ⟨hk, by simp [e], fun j hj => by simpa using hall j (by omega) hj⟩
  rw [this]
theorem srcZ_none {srcs : List SrcR} {s : Nm} (hall : ∀ j (h : j < srcs.length), ¬ srcs[j].1 = s) : srcZ srcs s = -1 := by
  unfold srcZ
  have : srcs.findIdx? (fun x => x.1 == s) = none := by
    rw [List.findIdx?_eq_none_iff]
    intro x hx
    obtain ⟨j, hj, rfl⟩ := List.mem_iff_getElem.1 hx
    simpa using hall j hj
  rw [this]
theorem srcZ_cases (srcs : List SrcR) (s : Nm) : (srcZ srcs s = -1 ∧ s ∉ srcs.map Prod.fst) ∨ ∃ k, ∃ (hk : k < srcs.length), srcZ srcs s = k ∧ srcs[k].1 = s ∧ ∀ j (h : j < srcs.length), j < k → ¬ srcs[j].1 = s := by
  unfold srcZ
  cases h : srcs.findIdx? (fun x => x.1 == s) with
  | none =>
    refine .inl ⟨rfl, fun hm => ?_⟩
    rw [List.findIdx?_eq_none_iff] at h
    obtain ⟨x, hx, e⟩ := List.mem_map.1 hm
    have := h x hx
    simp [e] at this
  | some k =>
    rw [List.findIdx?_eq_some_iff_getElem] at h
    obtain ⟨hk, e, hall⟩ := h
    exact .inr ⟨k, hk, rfl, by simpa using e, fun j hj hjk => by simpa using hall j hjk⟩
/-- Each source is the first of its name, just if the names are all unlike. -/
theorem srcZ_nodup (srcs : List SrcR) : (∀ k (h : k < srcs.length), srcZ srcs srcs[k].1 = k) ↔ (srcs.map Prod.fst).Nodup := by
  constructor
  · intro h
    rw [List.nodup_iff_pairwise_ne, List.pairwise_iff_getElem]
    intro i j hi hj hij e
    simp only [List.length_map] at hi hj
    simp only [List.getElem_map] at e
    have h1 := h i hi
    have h2 := h j hj
    rw [e] at h1
    omega
  · intro hn k hk
    refine srcZ_hit hk rfl (fun j hj hjk e => ?_)
    have := (List.getElem_inj (h₀ := by simpa using hj) (h₁ := by simpa using hk) hn).1 (by simpa using e)
    omega
theorem srcZ_mem (srcs : List SrcR) (s : Nm) : srcZ srcs s < 0 ↔ s ∉ srcs.map Prod.fst := by
  rcases srcZ_cases srcs s with ⟨h1, h2⟩ | ⟨k, hk, h1, h2, _⟩
  · rw [h1]; exact ⟨fun _ => h2, fun _ => by decide⟩
  · rw [h1]
    exact ⟨fun h => by omega, fun h => absurd (List.mem_map.2 ⟨_, List.getElem_mem hk, h2⟩) h⟩
set_option maxRecDepth 100000 in
set_option maxHeartbeats 4000000 in
theorem rsource_any (srcs : List SrcR) (s : Nm) (v : Value) (w : World) (hss : SrcsAt w v srcs) : Calls Tryz.prog 90 #[v, .string (bs s)] w (Rets (.int .i64 (srcZ srcs s)) (fun w' => w = w')) := by
  have hlen := hss.len
  have hmx := hss.rows.le
  unfold maxLen at hmx
  have H := hid hss
  clear hss
  go_enter Tryz.func90, Tryz.ntmps90
  go_wp2_with fail
  go_loopw [5] (fun i wr => ∃ k : Nat, k ≤ srcs.length ∧ i = .int .i64 k ∧ wr = w ∧ ∀ j (h : j < srcs.length), j < k → ¬ srcs[j].1 = s) (fun i _ => srcs.length - (intOf i).toNat)
  case atStart => exact ⟨0, Nat.zero_le _, rfl, rfl, fun j _ h => absurd h (Nat.not_lt_zero _)⟩
  case round =>
    obtain ⟨k, hk, rfl, rfl, hall⟩ := hrel
    have HA := hid hall
    clear hall
    by_cases hkn : k < srcs.length
    · have hkn' : (k : Int) < srcs.length := by omega
      obtain ⟨bb, oo, hix, e0, e1, hlt⟩ := H.out.ix k hkn
      by_cases he : srcs[k].1 = s
      · have HZ := hid (srcZ_hit hkn he HA.out)
        rw [he] at e0
        clear he
        generalize bs s = x at *
        go_wp2_with fail
        go_ret
        exact ⟨by rw [HZ.out]; rfl, rfl⟩
      · have hne := bs_eq srcs[k].1 s
        rw [decide_eq_false he] at hne
        have HE := hid he
        clear he
        generalize bs srcs[k].1 = nm at *
        generalize bs s = y at *
        go_wp2_with fail
        go_roundw
        case rel =>
          refine ⟨k + 1, by omega, by go_num, by first | rfl | trivial, fun j hj hjk => ?_⟩
          by_cases e : j = k
          · subst e
            exact HE.out
          · exact HA.out j hj (by omega)
        case measure => simp [intOf]; omega
    · obtain rfl : k = srcs.length := by omega
      have HZ := hid (srcZ_none (fun j hj => HA.out j hj hj))
      go_wp2_with fail
      go_ret
      exact ⟨by rw [HZ.out]; rfl, rfl⟩
end Go.Proofs.YthglfmacjoecgaaGreatDoor
namespace Go.Proofs.YthglfmacjoecgaaGreatDoor
open Go.RowKit

set_option maxRecDepth 100000 in
set_option maxHeartbeats 4000000 in
theorem rcheckS_any (g : GrR) (srcs : List SrcR) (v sv0 : Value) (w : World) (hg : GrAt w v g) (hss : SrcsAt w sv0 srcs) : Calls Tryz.prog 55 #[v, sv0] w (Rets (.int .i64 (checkS g srcs)) (Chg (fun _ => False) w)) := by
  obtain ⟨oa, c, ob, d, iv, rfl, hs, ha⟩ := hg.form
  obtain ⟨os, cs, rfl⟩ := hss.form
  have hC1 : Chg (fun _ => False) w (w.alloc (.cells #[.slice oa g.srcs.length c, .slice ob g.acts.length d] 25)) := (Chg.refl _ w).alloc _
  have hck := rcheck_any g _ _ (hg.chg hC1 (fun _ _ h => h))
  have hgb := heap_alloc_new' w (.cells #[.slice oa g.srcs.length c, .slice ob g.acts.length d] 25)
  have hmx := hss.rows.le
  have hmx3 := hs.le
  unfold maxLen at hmx hmx3
  have HS := hid hs
  have HSS := hid hss
  have HC1 := hid hC1
  have HGB := hid hgb
  clear hs ha hss hg hC1 hgb
  by_cases hz : ¬ checkR g = 0
  · have HW : Hid (checkS g srcs = checkR g) := by
      show checkS g srcs = checkR g
      unfold checkS
      rw [if_pos hz]
    have hbe : ((checkR g : Int) == 0) = false := by rw [beq_eq_false_iff_ne]; omega
    clear hz
    generalize checkR g = cr at *
    go_enter Tryz.func55, Tryz.ntmps55
    go_wp2_with (go_at_call 89; refine hck.mono ?_; rintro e w2 ⟨rfl, hc2⟩)
    go_ret
    exact ⟨by rw [HW.out]; rfl, HC1.out.trans hc2 (fun _ _ h => h)⟩
  have hz2 := Decidable.not_not.1 hz
  have HZ : Hid (checkR g = 0) := hid hz2
  rw [hz2] at hck
  clear hz hz2
  go_enter Tryz.func55, Tryz.ntmps55
  go_wp2_with (go_at_call 89; refine hck.mono ?_; rintro e w2 ⟨rfl, hc2⟩; have HC2 := hid (HC1.out.trans hc2 (fun _ _ h => h)); have g0 := cell_of (hc2.obj HGB.out (fun h => h)) 0; simp at g0; clear hc2)
  clear hck
  go_loopw [6] (fun i wr => ∃ k : Nat, k ≤ srcs.length ∧ i = .int .i64 k ∧ wr = w2 ∧ ∀ j (h : j < srcs.length), j < k → srcZ srcs srcs[j].1 = j) (fun i _ => srcs.length - (intOf i).toNat)
  case atStart => exact ⟨0, Nat.zero_le _, rfl, rfl, fun j _ h => absurd h (Nat.not_lt_zero _)⟩
  case round =>
    obtain ⟨k, hk, rfl, rfl, hall⟩ := hrel
    have HA := hid hall
    clear hall
    by_cases hkn : k < srcs.length
    · have hkn' : (k : Int) < srcs.length := by omega
      obtain ⟨bb, oo, hix, e0, e1, hlt⟩ := (HSS.out.chg HC2.out (fun _ _ h => h)).ix k hkn
      have HSRC := hid (rsource_any srcs srcs[k].1 _ wr (HSS.out.chg HC2.out (fun _ _ h => h)))
      by_cases he : srcZ srcs srcs[k].1 = k
      · have HE := hid he
        rw [he] at HSRC
        clear he
        generalize bs srcs[k].1 = nm at *
        go_wp2_with (go_at_call 90; refine HSRC.out.mono ?_; rintro e w3 ⟨rfl, rfl⟩)
        go_roundw
        case rel =>
          refine ⟨k + 1, by omega, by go_num, by first | rfl | trivial, fun j hj hjk => ?_⟩
          by_cases e : j = k
          · subst e
            exact HE.out
          · exact HA.out j hj (by omega)
        case measure => simp [intOf]; omega
      · have HW : Hid (checkS g srcs = 21) := by
          show checkS g srcs = 21
          unfold checkS
          rw [if_neg (by rw [HZ.out]; simp), if_pos]
          exact fun hn => he ((srcZ_nodup srcs).2 hn k hkn)
        have hbe : ((srcZ srcs srcs[k].1) == (k : Int)) = false := by rw [beq_eq_false_iff_ne]; exact he
        clear he
        generalize srcZ srcs srcs[k].1 = z at *
        generalize srcs[k].1 = nm at *
        go_wp2_with (go_at_call 90; refine HSRC.out.mono ?_; rintro e w3 ⟨rfl, rfl⟩)
        go_ret
        exact ⟨by rw [HW.out]; rfl, HC2.out⟩
    · obtain rfl : k = srcs.length := by omega
      have HND := hid ((srcZ_nodup srcs).1 (fun k hk => HA.out k hk hk))
      clear HA
      go_wp2_with fail
      go_loopw [7] (fun i wx => ∃ k : Nat, k ≤ g.srcs.length ∧ i = .int .i64 k ∧ wx = wr ∧ ∀ j (h : j < g.srcs.length), j < k → g.srcs[j] ∈ srcs.map Prod.fst) (fun i _ => g.srcs.length - (intOf i).toNat)
      case atStart => exact ⟨0, Nat.zero_le _, rfl, rfl, fun j _ h => absurd h (Nat.not_lt_zero _)⟩
      case round =>
        obtain ⟨k, hk, rfl, rfl, hall⟩ := hrel
        have HALL := hid hall
        clear hall
        by_cases hkn : k < g.srcs.length
        · have hkn' : (k : Int) < g.srcs.length := by omega
          obtain ⟨ad, hix, hadc, hadb⟩ := (HS.out.chg HC2.out (fun _ _ h => h)).ix k hkn
          have HMEM := hid (List.getElem_mem hkn)
          have hmm := srcZ_mem srcs g.srcs[k]
          have HSRC := hid (rsource_any srcs g.srcs[k] _ wr (HSS.out.chg HC2.out (fun _ _ h => h)))
          by_cases hin : g.srcs[k] ∈ srcs.map Prod.fst
          · have HIN := hid hin
            have hnz : ¬ srcZ srcs g.srcs[k] < 0 := fun h => hmm.1 h hin
            clear hmm hin
            generalize srcZ srcs g.srcs[k] = z at *
            generalize bs g.srcs[k] = s3 at *
            go_wp2_with (go_at_call 90; refine HSRC.out.mono ?_; rintro e w3 ⟨rfl, rfl⟩)
            go_roundw
            case rel =>
              refine ⟨k + 1, by omega, by go_num, by first | rfl | trivial, fun j hj hjk => ?_⟩
              by_cases e : j = k
              · subst e
                exact HIN.out
              · exact HALL.out j hj (by omega)
            case measure => simp [intOf]; omega
          · have hnz : srcZ srcs g.srcs[k] < 0 := hmm.2 hin
            have HW : Hid (checkS g srcs = 22) := by
              show checkS g srcs = 22
              unfold checkS
              rw [if_neg (by rw [HZ.out]; simp), if_neg (by simpa using HND.out), if_pos ⟨_, HMEM.out, hin⟩]
            clear hmm hin
            generalize srcZ srcs g.srcs[k] = z at *
            generalize bs g.srcs[k] = s3 at *
            go_wp2_with (go_at_call 90; refine HSRC.out.mono ?_; rintro e w3 ⟨rfl, rfl⟩)
            go_ret
            exact ⟨by rw [HW.out]; rfl, HC2.out⟩
        · obtain rfl : k = g.srcs.length := by omega
          have HIN : Hid (∀ s ∈ g.srcs, s ∈ srcs.map Prod.fst) := fun s hs => by
            obtain ⟨j, hj, rfl⟩ := List.mem_iff_getElem.1 hs
            exact HALL.out j hj hj
          by_cases hln : srcs.length = g.srcs.length
          · have HLN := hid hln
            have hbe : ((srcs.length : Int) == (g.srcs.length : Int)) = true := by rw [beq_iff_eq]; omega
            clear hln
            go_wp2_with fail
            clear hbe
            go_loopw [8] (fun i wz => ∃ k : Nat, k ≤ srcs.length ∧ i = .int .i64 k ∧ wz = wr ∧ ∀ j (h : j < srcs.length), j < k → srcs[j].2.size ≤ 512) (fun i _ => srcs.length - (intOf i).toNat)
            case atStart => exact ⟨0, Nat.zero_le _, rfl, rfl, fun j _ h => absurd h (Nat.not_lt_zero _)⟩
            case round =>
              obtain ⟨k, hk, rfl, rfl, hall⟩ := hrel
              have HALL2 := hid hall
              clear hall
              by_cases hkn : k < srcs.length
              · have hkn' : (k : Int) < srcs.length := by omega
                obtain ⟨bb, oo, hix, e0, e1, hlt⟩ := (HSS.out.chg HC2.out (fun _ _ h => h)).ix k hkn
                have HMEM := hid (List.getElem_mem hkn)
                generalize bs srcs[k].1 = nm at *
                by_cases hw5 : 512 < srcs[k].2.size
                · have HW : Hid (checkS g srcs = 33) := by
                    show checkS g srcs = 33
                    unfold checkS
                    rw [if_neg (by rw [HZ.out]; simp), if_neg (by simpa using HND.out), if_neg (fun ⟨s, h1, h2⟩ => h2 (HIN.out s h1)), if_neg (by rw [HLN.out]; simp), if_pos ⟨_, HMEM.out, hw5⟩]
                  generalize srcs[k].2 = bl2 at *
                  have hw5' : (512 : Int) < bl2.size := by omega
                  go_wp2_with fail
                  go_ret
                  exact ⟨by rw [HW.out]; rfl, HC2.out⟩
                · have HLE : Hid (srcs[k].2.size ≤ 512) := hid (by omega)
                  generalize hbl : srcs[k].2 = bl2 at *
                  have HBL := hid hbl
                  have hw5' : ¬ (512 : Int) < bl2.size := by omega
                  clear hbl
                  go_wp2_with fail
                  go_roundw
                  case rel =>
                    refine ⟨k + 1, by omega, by go_num, by first | rfl | trivial, fun j hj hjk => ?_⟩
                    by_cases e : j = k
                    · subst e
                      rw [HBL.out]
                      exact HLE.out
                    · exact HALL2.out j hj (by omega)
                  case measure => simp [intOf]; omega
              · obtain rfl : k = srcs.length := by omega
                have HD : Hid (checkS g srcs = 0) := by
                  show checkS g srcs = 0
                  unfold checkS
                  rw [if_neg (by rw [HZ.out]; simp), if_neg (by simpa using HND.out), if_neg (fun ⟨s, h1, h2⟩ => h2 (HIN.out s h1)), if_neg (by rw [HLN.out]; simp), if_neg]
                  rintro ⟨s, h1, h2⟩
                  obtain ⟨j, hj, rfl⟩ := List.mem_iff_getElem.1 h1
                  have := HALL2.out j hj hj
                  omega
                go_wp2_with fail
                go_ret
                exact ⟨by rw [HD.out]; rfl, HC2.out⟩
          · have hbe : ((srcs.length : Int) == (g.srcs.length : Int)) = false := by rw [beq_eq_false_iff_ne]; omega
            have HW : Hid (checkS g srcs = 22) := by
              show checkS g srcs = 22
              unfold checkS
              rw [if_neg (by rw [HZ.out]; simp), if_neg (by simpa using HND.out), if_neg (fun ⟨s, h1, h2⟩ => h2 (HIN.out s h1)), if_pos hln]
            clear hln
            go_wp2_with fail
            go_ret
            exact ⟨by rw [HW.out]; rfl, HC2.out⟩
end Go.Proofs.YthglfmacjoecgaaGreatDoor
namespace Go.Proofs.YthglfmacjoecgaaGreatDoor
open Go.RowKit

set_option maxRecDepth 100000 in
set_option maxHeartbeats 2000000 in
theorem rorderL_any (g : GrR) (v : Value) (w : World) (hg : GrAt w v g) : Calls Tryz.prog 84 #[v] w (IntsPost w (ordR g)) := by
  obtain ⟨oa, c, ob, d, iv, rfl, hs, ha⟩ := hg.form
  have hC1 : Chg (fun _ => False) w (w.alloc (.cells #[.slice oa g.srcs.length c, .slice ob g.acts.length d] 25)) := (Chg.refl _ w).alloc _
  have HGB := hid (heap_alloc_new' w (.cells #[.slice oa g.srcs.length c, .slice ob g.acts.length d] 25))
  have HG := hid (hg.chg hC1 (fun _ _ h => h))
  have HC1 := hid hC1
  clear hg hs ha hC1
  go_enter Tryz.func84, Tryz.ntmps84
  go_wp2_with fail
  refine (rcheck_any g _ _ HG.out).mono ?_
  rintro e w2 ⟨rfl, hc2⟩
  have a0 := cell_of (hc2.obj HGB.out (fun h => h)) 0
  have a1 := cell_of (hc2.obj HGB.out (fun h => h)) 1
  simp at a0 a1
  have C2 := hid hc2
  clear hc2
  by_cases hz : checkR g = 0
  · rw [hz]
    have hr : ordR g = orderR g := by unfold ordR; rw [if_pos hz]
    have HW := hid (can_iff.1 hz).w
    have HR := hid hr
    clear hz hr
    go_wp2_with fail
    refine (rorder_any g HW.out _ _ (HG.out.chg C2.out (fun _ _ h => h))).mono ?_
    rintro e w3 ⟨hc3, v3, rfl, hown3⟩
    go_wp2_with fail
    go_ret
    refine ⟨(HC1.out.trans C2.out (fun _ _ h => h)).trans hc3 (fun _ _ h => h), v3, rfl, ?_⟩
    rw [HR.out]; exact hown3
  · have hr : ordR g = [] := by unfold ordR; rw [if_neg hz]
    have hne : ((checkR g : Int) == 0) = false := by simp; omega
    have hne2 : ¬ (checkR g : Int) = 0 := by omega
    have HR := hid hr
    clear hz hr
    generalize checkR g = n at *
    go_wp2_with fail
    go_ret
    refine ⟨HC1.out.trans C2.out (fun _ _ h => h), _, rfl, ?_⟩
    rw [HR.out]; exact World.ownsRow_nil _ _ _ _

end Go.Proofs.YthglfmacjoecgaaGreatDoor
namespace Go.Proofs.YthglfmacjoecgaaGreatDoor
open Go.RowKit

/-- n results, one behind the other. -/
def resB (n : Nat) (R : Nat → ResR) : Array Value := ((List.range n).flatMap fun i => resL (R i)).toArray
theorem resB_list (n : Nat) (R : Nat → ResR) : (resB n R).toList = (List.range n).flatMap fun i => resL (R i) := by simp [resB]
theorem resB_len (n : Nat) (R : Nat → ResR) : (resB n R).toList.length = n * 2 := by
  rw [resB_list, flat_lenV (fun i => resL (R i)) 2 (fun _ => rfl), List.length_range]
theorem resB_size (n : Nat) (R : Nat → ResR) : (resB n R).size = n * 2 := by
  rw [← Array.length_toList, resB_len]
theorem resB_get (n : Nat) (R : Nat → ResR) (i j : Nat) (hi : i < n) (hj : j < 2) : (resB n R)[i * 2 + j]? = (resL (R i))[j]? := by
  rw [← Array.getElem?_toList, resB_list, flat_get (fun i => resL (R i)) 2 (fun _ => rfl) _ i j (by simpa using hi) hj]
  simp
theorem resB_congr {n : Nat} {R S : Nat → ResR} (h : ∀ i, i < n → R i = S i) : resB n R = resB n S := by
  unfold resB
  congr 1
  have e : ∀ l : List Nat, (∀ i ∈ l, i < n) → l.flatMap (fun i => resL (R i)) = l.flatMap fun i => resL (S i) := by
    intro l
    induction l with
    | nil => intro _; rfl
    | cons a l ih =>
      intro hl
      rw [List.flatMap_cons, List.flatMap_cons, h a (hl a (by simp)), ih (fun i hi => hl i (by simp [hi]))]
  exact e _ (fun i hi => List.mem_range.1 hi)
theorem resB_put (n : Nat) (R : Nat → ResR) (i : Nat) (hi : i < n) (r : ResR) :
    ((resB n R).toList.take (i * 2) ++ resL r ++ (resB n R).toList.drop (i * 2 + 2)).toArray = resB n (fun j => if j = i then r else R j) := by
  apply Array.toList_inj.1
  apply List.ext_getElem?
  intro k
  show (((resB n R).toList.take (i * 2) ++ resL r) ++ (resB n R).toList.drop (i * 2 + 2))[k]? = _
  have hL := resB_len n R
  have hL2 := resB_len n (fun j => if j = i then r else R j)
  have h2 : (i + 1) * 2 ≤ n * 2 := Nat.mul_le_mul_right _ hi
  have ht : ((resB n R).toList.take (i * 2)).length = i * 2 := by rw [List.length_take]; omega
  have hr : (resL r).length = 2 := rfl
  by_cases hk : k < n * 2
  · have hq : k = (k / 2) * 2 + k % 2 := by omega
    have hd : k / 2 < n := by omega
    have hm : k % 2 < 2 := by omega
    have e1 : (resB n R).toList[k]? = (resL (R (k / 2)))[k % 2]? := by
      rw [Array.getElem?_toList]
      conv => lhs; rw [hq]
      exact resB_get n R _ _ hd hm
    have e2 : (resB n (fun j => if j = i then r else R j)).toList[k]? = (resL (if k / 2 = i then r else R (k / 2)))[k % 2]? := by
      rw [Array.getElem?_toList]
      conv => lhs; rw [hq]
      exact resB_get n _ _ _ hd hm
    rw [e2]
    by_cases h1 : k < i * 2
    · rw [List.getElem?_append_left (by rw [List.length_append]; omega), List.getElem?_append_left (by omega), List.getElem?_take, if_pos h1, e1, if_neg (by omega)]
    · by_cases h3 : k < i * 2 + 2
      · rw [List.getElem?_append_left (by rw [List.length_append]; omega), List.getElem?_append_right (by omega), ht, if_pos (by omega), show k - i * 2 = k % 2 by omega]
      · rw [List.getElem?_append_right (by rw [List.length_append]; omega), List.getElem?_drop, List.length_append, ht, hr, show i * 2 + 2 + (k - (i * 2 + 2)) = k by omega, e1, if_neg (by omega)]
  · rw [List.getElem?_eq_none (by rw [List.length_append, List.length_append, List.length_drop]; omega), List.getElem?_eq_none (by omega)]
theorem ResAt.of_block {w : World} {b n : Nat} {R : Nat → ResR} {T : TypeId} {fz : Nat × Nat} (h : w.heap[b]? = some (.cells (resB n R) T fz)) (hn : n ≤ 1000) (hw : ∀ i, i < n → (R i).2.size ≤ 100000) : ResAt w (.slice (some ⟨b, 0, none⟩) n n) ((List.range n).map R) := by
  have hlen : ((List.range n).map R).length = n := by simp
  refine ⟨⟨.inr ⟨⟨b, 0, none⟩, n, by rw [hlen], fun i hi j hj => ?_⟩, by rw [hlen]; unfold maxLen; omega, fun i _ => rfl⟩, fun r hr => ?_⟩
  · rw [hlen] at hi
    have e3 : (⟨b, 0, none⟩ : Addr).add (i * 2 + j) = ⟨b, i * 2 + j, none⟩ := by unfold Addr.add; split <;> simp_all
    rw [e3, cell_of h, resB_get n R i j hi hj, getD_of_lt _ _ _ (by rw [hlen]; exact hi)]
    simp
  · obtain ⟨i, hi, rfl⟩ := List.mem_map.1 hr
    have := hw i (List.mem_range.1 hi)
    unfold maxLen
    omega
/-- A slice of n results, all of them zero. -/
theorem madeRes (n : Nat) : madeCells (Value.agg #[.int .i64 0, .string ByteArray.empty]).cells (n * 2) = resB n (fun _ => noRes) := by
  show madeCells #[.int .i64 0, .string ByteArray.empty] (n * 2) = _
  apply Array.ext_getElem?
  intro k
  by_cases hk : k < n * 2
  · have hq : k = (k / 2) * 2 + k % 2 := by omega
    have e2 : (resB n (fun _ => noRes))[k]? = (resL noRes)[k % 2]? := by
      conv => lhs; rw [hq]
      exact resB_get n _ _ _ (by omega) (by omega)
    rw [e2]
    have : k % 2 = 0 ∨ k % 2 = 1 := by omega
    rcases this with h | h
    · simp [madeCells, hk, h, resL, noRes]
    · simp [madeCells, hk, h, resL, noRes]
  · rw [Array.getElem?_eq_none (by rw [size_madeCells]; omega), Array.getElem?_eq_none (by rw [resB_size]; omega)]
theorem run_makeRes (n : Nat) (hn : n ≤ 1000) (w : World) : (Instr.makeSlice 58 (.int .i64 n) (.int .i64 n)).run Tryz.prog w = .ok (.slice (some ⟨w.heap.size, 0, none⟩) n n) (w.alloc (.cells (resB n (fun _ => noRes)) 47)) := by
  have q1 : (Tryz.prog.info? 47).map (fun i => (i.bytes, i.size)) = some (24, 2) := by kernel_rfl
  have q2 : (Tryz.prog.info? 47).bind (fun i => i.zero) = some (.agg #[.int .i64 0, .string ByteArray.empty]) := by kernel_rfl
  obtain ⟨i, hi⟩ : ∃ i, Tryz.prog.info? 47 = some i := by
    cases h : Tryz.prog.info? 47 with
    | none => rw [h] at q1; cases q1
    | some i => exact ⟨i, rfl⟩
  rw [hi] at q1 q2
  simp only [Option.map_some, Option.some.injEq, Prod.mk.injEq, Option.bind_some] at q1 q2
  have h := run_make (P := Tryz.prog) w 58 47 i (.agg #[.int .i64 0, .string ByteArray.empty]) Tryz.underlying58 hi q2 .i64 .i64 (n : Int) (n : Int) (by omega) (Int.le_refl _) (by rw [q1.1]; omega) (by omega)
  simp only [Int.toNat_natCast, q1.2] at h
  rw [h, madeRes]
theorem index_res (rb n i : Nat) (h : i < n) (w : World) : (Instr.indexAt 58 (.slice (some ⟨rb, 0, none⟩) n n) (.int .i64 i)).run Tryz.prog w = .ok (.pointer (some ⟨rb, i * 2, none⟩)) w := by
  have hs : ∀ w, (sizeOf 47).run Tryz.prog w = .ok 2 w := fun w => by kernel_rfl
  have e : (⟨rb, 0, none⟩ : Addr).add (i * 2) = ⟨rb, i * 2, none⟩ := by unfold Addr.add; split <;> simp_all
  simp [Instr.indexAt, run_underlying Tryz.underlying58, asIntOf, hs, h, e]
end Go.Proofs.YthglfmacjoecgaaGreatDoor
