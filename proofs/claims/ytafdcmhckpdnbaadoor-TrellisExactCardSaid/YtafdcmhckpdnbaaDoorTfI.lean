/- apiaryref08.Check walked. -/
import Derived.Test.YtafdcmhckpdnbaaDoorTfH
import Derived.Test.YtafdcmhckpdnbaaDoorTfD
import Derived.Deep.RegionHeld3
namespace Go.Proofs.YtafdcmhckpdnbaaDoor
open Go.RowKit

theorem name_ok {g : GrR} (hok : grOK g = true) {s : Nm} (hs : s ∈ namesL g) : s.length ≤ 8 := by
  have h := (grOK_iff g).1 hok
  rcases mem_names.1 hs with h1 | ⟨i, hi, rfl⟩
  · exact (nameL_let (h.2.2.1 s h1)).2.1
  · rw [nameAt_lt g i hi]
    exact (nameL_let ((actOK_iff _).1 (h.2.2.2 _ (List.getElem_mem hi))).1).2.1

set_option maxRecDepth 100000 in
set_option maxHeartbeats 2000000 in
theorem rcheck_any (g : GrR) (v : Value) (w : World) (hg : GrAt w v g) :
    Calls Tryd.prog 12 #[v] w (Rets (.int .i64 (checkR g)) (Chg (fun _ => False) w)) := by
  obtain ⟨oa, c, ob, d, iv, rfl, hs, ha⟩ := hg.form
  have hmx := ha.rows.le
  unfold maxLen at hmx
  have hlen := ha.len
  have hC1 : Chg (fun _ => False) w (w.alloc (.cells #[.slice oa g.srcs.length c, .slice ob g.acts.length d] 25)) := (Chg.refl _ w).alloc _
  have HGB := hid (heap_alloc_new' w (.cells #[.slice oa g.srcs.length c, .slice ob g.acts.length d] 25))
  have HG1 := hid (hg.chg hC1 (fun _ _ h => h))
  have HC1 := hid hC1
  have HA := hid (ha.chg hC1 (fun _ _ h => h))
  have HS := hid (hs.chg hC1 (fun _ _ h => h))
  clear hg hs ha hC1
  go_enter Tryd.func12, Tryd.ntmps12
  by_cases hok : grOK g = true
  · go_wp2_with (go_at_call 24; refine (rprint_any g _ _ HG1.out).mono ?_; rw [if_pos hok]; rintro e w2 ⟨rfl, hc2⟩)
    have HC2 := hid (HC1.out.trans hc2 (fun _ _ h => h))
    have HGB2 := hid (hc2.obj HGB.out (fun h => h))
    have HA2 := hid (HA.out.chg hc2 (fun _ _ h => h))
    have HS2 := hid (HS.out.chg hc2 (fun _ _ h => h))
    have HOK := hid ((grOK_iff g).1 hok)
    have hgb2 : w.heap.size < w2.heap.size := (Array.getElem?_eq_some_iff.1 HGB2.out).1
    have HG2 := hid (HG1.out.chg hc2 (fun _ _ h => h))
    clear HGB HG1 HA HS hc2
    go_loopw [5, 6] (fun o kk wr => ∃ (k : Nat) (x : Value), x = o ∧ k ≤ g.srcs.length ∧ kk = .int .i64 k ∧ (g.srcs.take k).Nodup ∧ QRow wr 9 x ((g.srcs.take k).map nmV) ∧ (∀ q, x.ownBlock = some q → w2.heap.size ≤ q) ∧ Chg (fun _ => False) w2 wr) (fun _ kk _ => g.srcs.length - (intOf kk).toNat)
    case atStart => exact ⟨0, _, rfl, Nat.zero_le _, rfl, List.nodup_nil, QRow.empty w2, (fun q h => by simp [Value.ownBlock] at h; omega), al_chg w2 _⟩
    case round =>
      obtain ⟨k, v5, hv, hk, rfl, hnd, hq, hbl, hch⟩ := hrel
      subst hv
      have HND := hid hnd
      have HQ := hid hq
      have HBL := hid hbl
      have HC := hid hch
      have a0 := cell_of (hch.obj HGB2.out (fun h => h)) 0
      have a1 := cell_of (hch.obj HGB2.out (fun h => h)) 1
      simp at a0 a1
      have hsl := (HS2.out.chg hch (fun _ _ h => h)).len
      clear hnd hq hbl hch
      have hs8 := HOK.out.1
      by_cases hkn : k < g.srcs.length
      · have hkn' : (k : Int) < g.srcs.length := by omega
        obtain ⟨ad, hix, hadc, hadb⟩ := (HS2.out.chg HC.out (fun _ _ h => h)).ix k hkn
        have hss : ∀ s ∈ g.srcs, s.length ≤ 1000 := fun s hs => by
          have := name_ok hok (mem_names.2 (.inl hs))
          omega
        have HN5 := hid (HQ.out.names (fun s hs => hss s (List.mem_of_mem_take hs)))
        have HX8 := hid (hss _ (List.getElem_mem hkn))
        have htk : (g.srcs.take (k + 1)) = g.srcs.take k ++ [g.srcs[k]] := List.take_succ_eq_append_getElem hkn
        have HTK := hid htk
        have HAL5 := hid (HQ.out.chg (al_chg wr (.cells #[.string (bs g.srcs[k])] 9)) (fun _ _ h => h))
        have HN6 : Hid (StrsAt (wr.alloc (.cells #[.string (bs g.srcs[k])] 9)) (.slice (some ⟨wr.heap.size, 0, none⟩) 1 1) [bs g.srcs[k]]) := hid (names_new wr [g.srcs[k]] 1 rfl (by decide) (fun t ht => by simp at ht; subst ht; exact HX8.out))
        clear htk hss
        have hb0 : ∃ b0, (g.srcs.take k).contains g.srcs[k] = b0 := ⟨_, rfl⟩
        obtain ⟨b0, hb0⟩ := hb0
        have HB0 := hid hb0
        clear hb0
        cases b0 with
        | true =>
          go_wp2_with (go_at_call 25; refine (has_any v5 (g.srcs.take k) g.srcs[k] _ HN5.out).mono ?_; rw [HB0.out]; rintro e w3 ⟨rfl, rfl⟩)
          have hck : checkR g = 21 := by
            have hd : dupB g = true := by
              unfold dupB
              simp only [Bool.not_eq_true', decide_eq_false_iff_not]
              intro hn
              have h1 : (g.srcs.take k ++ [g.srcs[k]]).Nodup := by
                rw [← HTK.out]
                exact ((List.nodup_append.1 hn).1).sublist (List.take_sublist _ _)
              have h2 := HB0.out
              simp at h2
              have h3 := (List.nodup_append.1 h1).2.2 _ h2 g.srcs[k] (by simp)
              exact h3 rfl
            unfold checkR wovenR
            simp [hok, hd]
          go_ret
          exact ⟨by rw [hck]; rfl, HC2.out.trans HC.out (fun _ _ h => h)⟩
        | false =>
          go_wp2_with (first | (go_at_call 25; refine (has_any v5 (g.srcs.take k) g.srcs[k] _ HN5.out).mono ?_; rw [HB0.out]; rintro e w3 ⟨rfl, rfl⟩) | (at_builtin; refine wpList_append_q rfl _ _ 22 rfl elStr HAL5.out rfl rfl HN6.out (by unfold maxLen; simp; omega) (by simp; omega) ?_; intro v8 w8 hq8 hc8 hb8))
          go_roundw
          case rel =>
            refine ⟨k + 1, _, rfl, by omega, by go_num, ?_, ?_, fun q hq => ?_, (HC.out.trans (al_chg wr _) (fun _ _ h => h)).trans hc8 (fun q hq h => absurd (HBL.out q h) (by omega))⟩
            · rw [HTK.out, List.nodup_append]
              have h2 := HB0.out
              simp at h2
              exact ⟨HND.out, by simp, fun a ha b hb e => by simp at hb; subst hb; subst e; exact h2 ha⟩
            · rw [HTK.out, List.map_append]; exact hq8
            · rcases hb8 q hq with h | h
              · exact HBL.out q h
              · have := HC.out.size; simp at h; omega
          case measure => simp [intOf]; omega
      · obtain rfl : k = g.srcs.length := by omega
        rw [List.take_length] at HND HQ
        go_wp2_with fail
        clear a0 a1 hsl
        go_loopw [5, 7] (fun o kk wx => ∃ (k : Nat) (x : Value), x = o ∧ k ≤ g.acts.length ∧ kk = .int .i64 k ∧ (g.srcs ++ (g.acts.take k).map (·.name)).Nodup ∧ QRow wx 9 x ((g.srcs ++ (g.acts.take k).map (·.name)).map nmV) ∧ (∀ q, x.ownBlock = some q → w2.heap.size ≤ q) ∧ Chg (fun _ => False) w2 wx) (fun _ kk _ => g.acts.length - (intOf kk).toNat)
        case atStart => exact ⟨0, _, rfl, Nat.zero_le _, rfl, by simpa using HND.out, by simpa using HQ.out, HBL.out, HC.out⟩
        case round =>
          obtain ⟨k, v6, hv, hk, rfl, hnd, hq, hbl, hch⟩ := hrel
          subst hv
          clear HND HQ HBL HC
          have HND := hid hnd
          have HQ := hid hq
          have HBL := hid hbl
          have HC := hid hch
          have a0 := cell_of (hch.obj HGB2.out (fun h => h)) 0
          have a1 := cell_of (hch.obj HGB2.out (fun h => h)) 1
          simp at a0 a1
          clear hnd hq hbl hch
          have hg12 := HOK.out.2.1
          by_cases hkn : k < g.acts.length
          · have hkn' : (k : Int) < g.acts.length := by omega
            obtain ⟨bb, oo, hix, hlt, e0, e1, e2, hns, hw1, hw2⟩ := (HA2.out.chg HC.out (fun _ _ h => h)).at k hkn
            clear hns hw1 hw2 e1 e2
            have hmm : ∀ s ∈ g.srcs ++ (g.acts.take k).map (·.name), s.length ≤ 1000 := fun s hs => by
              have h1 : s ∈ namesL g := by
                unfold namesL
                rcases List.mem_append.1 hs with h | h
                · exact List.mem_append.2 (.inl h)
                · obtain ⟨a, ha, rfl⟩ := List.mem_map.1 h
                  exact List.mem_append.2 (.inr (List.mem_map.2 ⟨a, List.mem_of_mem_take ha, rfl⟩))
              have := name_ok hok h1
              omega
            have hx8 : g.acts[k].name.length ≤ 1000 := by
              have := name_ok hok (mem_names.2 (.inr ⟨k, hkn, rfl⟩) : nameAt g k ∈ namesL g)
              rw [nameAt_lt g k hkn] at this
              omega
            have HX8 := hid hx8
            have HN6 := hid (HQ.out.names hmm)
            have HTK : Hid (g.srcs ++ (g.acts.take (k + 1)).map (·.name) = g.srcs ++ (g.acts.take k).map (·.name) ++ [g.acts[k].name]) := hid (by rw [List.take_succ_eq_append_getElem hkn, List.map_append, ← List.append_assoc]; rfl)
            clear hmm hx8
            have HNL : Hid (∀ k, (g.srcs ++ (g.acts.take k).map (·.name)).Sublist (namesL g)) := hid (fun k => by
              unfold namesL
              exact (List.Sublist.refl _).append ((List.take_sublist _ _).map _))
            have hln : (g.srcs ++ (g.acts.take k).map (·.name)).length ≤ 20 := by simp; omega
            have HLN := hid hln
            clear hln
            generalize g.srcs ++ (g.acts.take k).map (·.name) = D at *
            have HQA := hid (HQ.out.chg (al_chg wr (.cells #[.string (bs g.acts[k].name)] 9)) (fun _ _ h => h))
            have HN7 : Hid (StrsAt (wr.alloc (.cells #[.string (bs g.acts[k].name)] 9)) (.slice (some ⟨wr.heap.size, 0, none⟩) 1 1) [bs g.acts[k].name]) := hid (names_new wr [g.acts[k].name] 1 rfl (by decide) (fun t ht => by simp at ht; subst ht; exact HX8.out))
            obtain ⟨b0, hb0⟩ : ∃ b0, D.contains g.acts[k].name = b0 := ⟨_, rfl⟩
            have HB0 := hid hb0
            clear hb0
            cases b0 with
            | true =>
              have hck : checkR g = 21 := by
                have hd : dupB g = true := by
                  unfold dupB
                  simp only [Bool.not_eq_true', decide_eq_false_iff_not]
                  intro hn
                  have h1 := hn.sublist (HNL.out (k + 1))
                  rw [HTK.out] at h1
                  have h2 := HB0.out
                  simp at h2
                  have h3 := (List.nodup_append.1 h1).2.2 _ h2 g.acts[k].name (by simp)
                  exact h3 rfl
                unfold checkR wovenR
                simp [hok, hd]
              have HCK := hid hck
              clear hck
              go_wp2_with (go_at_call 25; refine (has_any v6 D g.acts[k].name _ HN6.out).mono ?_; rw [HB0.out]; rintro e w3 ⟨rfl, rfl⟩)
              go_ret
              exact ⟨by rw [HCK.out]; rfl, HC2.out.trans HC.out (fun _ _ h => h)⟩
            | false =>
              go_wp2_with (first | (go_at_call 25; refine (has_any v6 D g.acts[k].name _ HN6.out).mono ?_; rw [HB0.out]; rintro e w3 ⟨rfl, rfl⟩) | (at_builtin; refine wpList_append_q rfl _ _ 22 rfl elStr HQA.out rfl rfl HN7.out (by have := HLN.out; unfold maxLen; simp; omega) (by have := HLN.out; simp; omega) ?_; intro v8 w8 hq8 hc8 hb8))
              go_roundw
              case rel =>
                refine ⟨k + 1, _, rfl, by omega, by go_num, ?_, ?_, fun q hq => ?_, (HC.out.trans (al_chg wr _) (fun _ _ h => h)).trans hc8 (fun q hq h => absurd (HBL.out q h) (by omega))⟩
                · rw [HTK.out, List.nodup_append]
                  have h2 := HB0.out
                  simp at h2
                  exact ⟨HND.out, by simp, fun a ha b hb e => by simp at hb; subst hb; subst e; exact h2 ha⟩
                · rw [HTK.out, List.map_append]; exact hq8
                · rcases hb8 q hq with h | h
                  · exact HBL.out q h
                  · have := HC.out.size; simp at h; omega
              case measure => simp [intOf]; omega
          · obtain rfl : k = g.acts.length := by omega
            rw [List.take_length] at HND HQ
            have HNL : Hid (NamesAt wr v6 (namesL g)) := hid (HQ.out.names (fun s hs => by have := name_ok hok (show s ∈ namesL g from hs); omega))
            have hdup : dupB g = false := by
              have : (namesL g).Nodup := HND.out
              unfold dupB
              simp [this]
            have HDUP := hid hdup
            clear hdup HND HQ
            go_wp2_with fail
            go_loopw [8] (fun i wx => ∃ k : Nat, k ≤ g.acts.length ∧ i = .int .i64 k ∧ Chg (fun _ => False) wr wx ∧ ∀ a ∈ g.acts.take k, ∀ s ∈ a.ins, s ∈ namesL g) (fun i _ => g.acts.length - (intOf i).toNat)
            case atStart => exact ⟨0, Nat.zero_le _, rfl, Chg.refl _ _, by simp⟩
            case round =>
              obtain ⟨k, hk, rfl, hch, hall⟩ := hrel
              have HAL := hid hall
              have HN := hid (HNL.out.chg hch (fun _ _ h => h))
              have HC3 := hid (HC.out.trans hch (fun _ _ h => h))
              have HCR := hid hch
              clear hch hall a0 a1
              have a0 := cell_of (HC3.out.obj HGB2.out (fun h => h)) 0
              have a1 := cell_of (HC3.out.obj HGB2.out (fun h => h)) 1
              simp at a0 a1
              by_cases hkn : k < g.acts.length
              · have hkn' : (k : Int) < g.acts.length := by omega
                obtain ⟨bb, oo, hix, hlt, e0, e1, e2, hns, hw1, hw2⟩ := (HA2.out.chg HC3.out (fun _ _ h => h)).at k hkn
                obtain ⟨oi, ci, hiv⟩ := hns.form
                rw [hiv] at e1 hns
                have hli := hns.le
                unfold maxLen at hli
                clear e0 e2 hw1 hw2 hiv
                have HNS := hid hns
                have hln : (namesL g).length ≤ 20 := by unfold namesL; simp; omega
                clear hns
                go_wp2_with fail
                go_loopw [9] (fun i wx => ∃ q : Nat, q ≤ g.acts[k].ins.length ∧ i = .int .i64 q ∧ Chg (fun _ => False) wr wx ∧ ∀ s ∈ g.acts[k].ins.take q, s ∈ namesL g) (fun i _ => g.acts[k].ins.length - (intOf i).toNat)
                case atStart => exact ⟨0, Nat.zero_le _, rfl, Chg.refl _ _, by simp⟩
                case round =>
                  obtain ⟨q, hq, rfl, hch, hall⟩ := hrel
                  have HAL2 := hid hall
                  have HN2 := hid (HN.out.chg hch (fun _ _ h => h))
                  have HC4 := hid (HC3.out.trans hch (fun _ _ h => h))
                  have HCR2 := hid hch
                  have f1 := hch.cell e1 (fun h => h)
                  clear hch hall a0 a1
                  have a0 := cell_of (HC4.out.obj HGB2.out (fun h => h)) 0
                  have a1 := cell_of (HC4.out.obj HGB2.out (fun h => h)) 1
                  simp at a0 a1
                  by_cases hqn : q < g.acts[k].ins.length
                  · have hqn' : (q : Int) < g.acts[k].ins.length := by omega
                    obtain ⟨ad, hix2, hadc, hadb⟩ := (HNS.out.chg HCR2.out (fun _ _ h => h)).ix q hqn
                    obtain ⟨b0, hb0⟩ : ∃ b0, (namesL g).contains g.acts[k].ins[q] = b0 := ⟨_, rfl⟩
                    have HB0 := hid hb0
                    clear hb0
                    cases b0 with
                    | false =>
                      have hck : checkR g = 22 := by
                        have hm : missB g = true := by
                          unfold missB
                          rw [List.any_eq_true]
                          refine ⟨_, List.getElem_mem hkn, ?_⟩
                          rw [List.any_eq_true]
                          exact ⟨_, List.getElem_mem hqn, by rw [HB0.out]; rfl⟩
                        unfold checkR wovenR
                        simp [hok, HDUP.out, hm]
                      have HCK := hid hck
                      clear hck
                      go_wp2_with (go_at_call 25; refine (has_any v6 (namesL g) g.acts[k].ins[q] _ HN2.out).mono ?_; rw [HB0.out]; rintro e w3 ⟨rfl, rfl⟩)
                      go_ret
                      exact ⟨by rw [HCK.out]; rfl, HC2.out.trans HC4.out (fun _ _ h => h)⟩
                    | true =>
                      go_wp2_with (go_at_call 25; refine (has_any v6 (namesL g) g.acts[k].ins[q] _ HN2.out).mono ?_; rw [HB0.out]; rintro e w3 ⟨rfl, rfl⟩)
                      go_roundw
                      case rel =>
                        refine ⟨q + 1, by omega, by go_num, HCR2.out, fun s hs => ?_⟩
                        rw [List.take_succ_eq_append_getElem hqn, List.mem_append] at hs
                        rcases hs with h | h
                        · exact HAL2.out s h
                        · rw [List.mem_singleton.1 h]
                          have := HB0.out
                          simpa using this
                      case measure => simp [intOf]; omega
                  · obtain rfl : q = g.acts[k].ins.length := by omega
                    rw [List.take_length] at HAL2
                    go_wp2_with fail
                    go_roundw
                    case rel =>
                      refine ⟨k + 1, by omega, by go_num, HCR.out.trans HCR2.out (fun _ _ h => h), fun a ha => ?_⟩
                      rw [List.take_succ_eq_append_getElem hkn, List.mem_append] at ha
                      rcases ha with h | h
                      · exact HAL.out a h
                      · rw [List.mem_singleton.1 h]; exact HAL2.out
                    case measure => simp [intOf]; omega
              · obtain rfl : k = g.acts.length := by omega
                rw [List.take_length] at HAL
                have hw : Wov g := wovenR_zero.1 (by
                  have hm : ¬ missB g = true := fun hm => by
                    unfold missB at hm
                    rw [List.any_eq_true] at hm
                    obtain ⟨a, ha, hm⟩ := hm
                    rw [List.any_eq_true] at hm
                    obtain ⟨s, hs, hm⟩ := hm
                    have := HAL.out a ha s hs
                    simp [this] at hm
                  unfold wovenR
                  simp [hok, HDUP.out, hm])
                have HW := hid hw
                have HR : Hid (checkR g = if (orderR g).length ≠ g.acts.length then 23 else 0) := hid (by
                  have hwz := wovenR_zero.2 hw
                  show checkR g = _; unfold checkR; rw [if_neg (by simp [hwz])])
                have hord := rorder_any g hw _ wr.drew (HG2.out.chg (HC3.out.drew) (fun _ _ h => h))
                have k0d : wr.drew.cell? ⟨w.heap.size, 0, none⟩ = some (.slice oa g.srcs.length c) := a0
                have k1d : wr.drew.cell? ⟨w.heap.size, 1, none⟩ = some (.slice ob g.acts.length d) := a1
                have HLN := hid (orderR_ordd g).le
                clear hw
                unfold IntsPost at hord
                go_wp2_with fail
                by_cases hfull : (orderR g).length = g.acts.length
                · rw [hfull] at hord
                  go_region_held3 (fun W => W.cell? ⟨w.heap.size, 0, none⟩ = some (.slice oa g.srcs.length c) ∧ W.cell? ⟨w.heap.size, 1, none⟩ = some (.slice ob g.acts.length d)) (first | exact ⟨a0, a1⟩ | exact ⟨hc3.cell k0d (fun h => h), hc3.cell k1d (fun h => h)⟩ | exact ⟨k0d, k1d⟩) (first | (go_at_call 26; refine hord.mono ?_; rintro e w3 ⟨hc3, v3, rfl, hown3⟩; obtain ⟨o3, cap3, rfl⟩ := owns_form hown3; have HC4 := hid hc3))
                  all_goals go_wp2_with fail
                  all_goals go_ret
                  all_goals exact ⟨by rw [HR.out, if_neg (by simp [hfull])]; rfl, (HC2.out.trans HC3.out (fun _ _ h => h)).drew.trans HC4.out (fun _ _ h => h)⟩
                · have hne : ¬ ((orderR g).length : Int) = (g.acts.length : Int) := by omega
                  have HZ : Hid (checkR g = 23) := hid (by rw [HR.out, if_pos hfull])
                  clear hfull
                  generalize orderR g = ol at *
                  generalize ol.length = on at *
                  go_region_held3 (fun W => W.cell? ⟨w.heap.size, 0, none⟩ = some (.slice oa g.srcs.length c) ∧ W.cell? ⟨w.heap.size, 1, none⟩ = some (.slice ob g.acts.length d)) (first | exact ⟨a0, a1⟩ | exact ⟨hc3.cell k0d (fun h => h), hc3.cell k1d (fun h => h)⟩ | exact ⟨k0d, k1d⟩) (first | (go_at_call 26; refine hord.mono ?_; rintro e w3 ⟨hc3, v3, rfl, hown3⟩; obtain ⟨o3, cap3, rfl⟩ := owns_form hown3; have HC4 := hid hc3))
                  all_goals go_wp2_with fail
                  all_goals go_ret
                  all_goals exact ⟨by rw [HZ.out]; rfl, (HC2.out.trans HC3.out (fun _ _ h => h)).drew.trans HC4.out (fun _ _ h => h)⟩
  · have hck : checkR g = 1 := by unfold checkR wovenR; simp [hok]
    have HCK := hid hck
    clear hck
    go_wp2_with (go_at_call 24; refine (rprint_any g _ _ HG1.out).mono ?_; rw [if_neg hok]; rintro e w2 ⟨rfl, hc2⟩)
    go_ret
    exact ⟨by rw [HCK.out]; rfl, HC1.out.trans hc2 (fun _ _ h => h)⟩
end Go.Proofs.YtafdcmhckpdnbaaDoor
