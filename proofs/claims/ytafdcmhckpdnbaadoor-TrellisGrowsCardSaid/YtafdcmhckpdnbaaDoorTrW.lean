/- TrellisGrows walked: it returns true. -/
import Derived.Test.YtafdcmhckpdnbaaDoorTrY
namespace Go.Proofs.YtafdcmhckpdnbaaDoor
open Go.RowKit

def z8 : Nm := [122, 122, 122, 122, 122, 122, 122, 122]

set_option maxRecDepth 100000 in
set_option maxHeartbeats 8000000 in
theorem grows_any (g : GrR) (inputs names : List Nm) (v ivv nv : Value) (w : World) (hg : GrAt w v g) (hin0 : NamesAt w ivv inputs) (hns0 : NamesAt w nv names) :
    Calls Tryd.prog 8 #[v, ivv, nv] w (Rets (.bool true) (Chg (fun _ => False) w)) := by
  obtain ⟨oa, c, ob, d, iv, rfl, hs, ha⟩ := hg.form
  obtain ⟨oi, ci, rfl⟩ := hin0.form
  have hC1 : Chg (fun _ => False) w (w.alloc (.cells #[.slice oa g.srcs.length c, .slice ob g.acts.length d] 25)) := (Chg.refl _ w).alloc _
  have hgb : (w.alloc (.cells #[.slice oa g.srcs.length c, .slice ob g.acts.length d] 25)).heap[w.heap.size]? = some (.cells #[.slice oa g.srcs.length c, .slice ob g.acts.length d] 25 (0, 0)) := heap_alloc_new' w _
  have hli := hin0.le
  have hla := ha.rows.le
  unfold maxLen at hli hla
  have HG := hid (hg.chg hC1 (fun _ _ h => h))
  have HS := hid (hs.chg hC1 (fun _ _ h => h))
  have HA := hid (ha.chg hC1 (fun _ _ h => h))
  have HIN := hid (hin0.chg hC1 (fun _ _ h => h))
  have HNM := hid (hns0.chg hC1 (fun _ _ h => h))
  have HC1 := hid hC1
  have HGB := hid hgb
  clear hg hs ha hC1 hgb hns0 hin0
  go_enter Tryd.func8, Tryd.ntmps8
  go_wp2_with fail
  refine (awake_any _).mono ?_
  rintro e w1 ⟨rfl, hc1⟩
  generalize w.alloc (.cells #[.slice oa g.srcs.length c, .slice ob g.acts.length d] 25) = W0 at *
  have a0 := cell_of (hc1.obj HGB.out (fun h => h)) 0
  have a1 := cell_of (hc1.obj HGB.out (fun h => h)) 1
  simp at a0 a1
  have C := hid hc1
  clear hc1
  go_wp2_with fail
  refine (great_any g names _ _ _ (HG.out.chg C.out (fun _ _ h => h)) (HNM.out.chg C.out (fun _ _ h => h))).mono ?_
  rintro e w2 ⟨B, rfl, hc2, hB⟩
  have C2 := hid (C.out.trans hc2 (fun _ _ h => h))
  have a0 := cell_of (C2.out.obj HGB.out (fun h => h)) 0
  have a1 := cell_of (C2.out.obj HGB.out (fun h => h)) 1
  simp at a0 a1
  clear hc2 C
  generalize w.heap.size = gb at *
  cases B with
  | true =>
    go_wp2_with fail
    go_ret
    exact ⟨rfl, HC1.out.trans C2.out (fun _ _ h => h)⟩
  | false =>
    obtain ⟨hB1, hB2, hB3⟩ := hB rfl
    clear hB
    by_cases h20 : inputs.length ≤ 20
    · have h20' : ¬ (20 : Int) < (inputs.length : Int) := by omega
      have d20 : decide ((20 : Int) < (inputs.length : Int)) = false := decide_eq_false h20'
      by_cases h0 : g.acts.length = 0
      · have h0' : (g.acts.length : Int) = 0 := by omega
        have hlA := HA.out.len
        rw [h0] at hlA a1 ⊢
        go_wp2_with fail
        go_ret
        exact ⟨rfl, HC1.out.trans C2.out (fun _ _ h => h)⟩
      · have h0' : ¬ (g.acts.length : Int) = 0 := by omega
        have h0b : ((g.acts.length : Int) == 0) = false := by rw [beq_eq_false_iff_ne]; omega
        have hlA := HA.out.len
        have hlI := HIN.out.len
        go_wp2_with fail
        go_loopw [7] (fun i wr => ∃ k : Nat, k ≤ inputs.length ∧ i = .int .i64 k ∧ wr = w2) (fun i _ => inputs.length - (intOf i).toNat)
        case atStart => exact ⟨0, Nat.zero_le _, rfl, rfl⟩
        case round =>
          obtain ⟨k, hk, rfl, rfl⟩ := hrel
          by_cases hkn : k < inputs.length
          · have hkn' : (k : Int) < inputs.length := by omega
            obtain ⟨ad, hix, hadc, hadb⟩ := (HIN.out.chg C2.out (fun _ _ h => h)).ix k hkn
            have hwd := (HIN.out.chg C2.out (fun _ _ h => h)).wide _ (List.getElem_mem hkn)
            have hsz := bs_size inputs[k]
            unfold maxLen at hwd
            rw [← hsz] at hwd
            clear hsz
            generalize bs inputs[k] = x at *
            by_cases h200 : (200 : Int) < (x.size : Int)
            · go_wp2_with fail
              go_ret
              exact ⟨rfl, HC1.out.trans C2.out (fun _ _ h => h)⟩
            · go_wp2_with fail
              go_roundw
              case rel => exact ⟨k + 1, by omega, by go_num, by first | rfl | trivial⟩
              case measure => simp [intOf]; omega
          · obtain rfl : k = inputs.length := by omega
            obtain ⟨ad, rfl⟩ : ∃ ad, ob = some ad := by
              rcases HA.out.rows.form with ⟨h1, h2⟩ | ⟨a, cap, h1, _⟩
              · exact absurd h2 h0
              · simp only [Value.slice.injEq] at h1; exact ⟨a, h1.1⟩
            have p1 := cell_alloc' a1 (.cells #[.slice oa g.srcs.length c, .slice (some ad) g.acts.length d] 25)
            have p2 := cell_alloc' p1 (.cells #[] 41)
            have hch := HC1.out
            have hcH := (al_chg wr (.cells #[.slice oa g.srcs.length c, .slice (some ad) g.acts.length d] 25))
            have hcE := hcH.trans (al_chg _ (.cells #[] 41)) (fun _ _ h => h)
            have hsrc := (HA.out.chg (C2.out.trans hcE (fun _ _ h => h)) (fun _ _ h => h)).src
            have hone := HA.out.one
            have hemp := acts_empty (wr.alloc (.cells #[.slice oa g.srcs.length c, .slice (some ad) g.acts.length d] 25))
            rw [show (wr.alloc (.cells #[.slice oa g.srcs.length c, .slice (some ad) g.acts.length d] 25)).heap.size = wr.heap.size + 1 by simp] at hemp
            have kh := heap_alloc_old' (heap_alloc_new' wr (.cells #[.slice oa g.srcs.length c, .slice (some ad) g.acts.length d] 25)) (.cells #[] 41)
            have hplen : (flatA (psOf g.acts iv)).length = g.acts.length * 3 := by rw [flatA_len, psOf_len]
            have HSRC := hid hsrc
            have HONE := hid hone
            have HEMP := hid hemp
            have HKH := hid kh
            have HPL := hid hplen
            have HCE := hid hcE
            have HG30 : Hid (g.acts.length ≤ 30) := hid hB2
            clear hch hcH hcE hsrc hone hemp kh hplen
            go_wp2_with (first | (at_builtin; refine wpList_append_src rfl _ _ 23 rfl elAct HEMP.out rfl ad g.acts.length d (flatA (psOf g.acts iv)) rfl HPL.out HSRC.out HONE.out (by have := HG30.out; unfold maxLen; omega) (by have := HG30.out; omega) h0 ?_; intro g5 cap5 w5 hown5 hch5 hg5; simp only [Nat.zero_add] at hown5) | (go_at_call 22; refine (action_any _ _ _ _ _).mono ?_; rintro e w6 ⟨rfl, hc6⟩; have hown6 := hc6.owns hown5 (fun _ _ h => h)) | (refine wpList_append_new rfl _ _ 23 rfl elAct hown6 rfl #[.string { data := #[122, 122, 122, 122, 122, 122, 122, 122] }, .slice oi inputs.length ci, .string { data := #[] }] 1 1 rfl rfl rfl (by have := HG30.out; unfold maxLen; omega) (by have := HG30.out; omega) (by decide) ?_; intro g7 cap7 w7 hown7 hch7 hg7; have hne5 : ¬ g5 = wr.heap.size := (fun e => by rcases hg5 with h | h <;> first | (simp [Value.ownBlock] at h; omega) | omega); have k7 := hch7.obj (hc6.obj (hch5.obj HKH.out (fun h => by simp [Value.ownBlock] at h)) (fun h => h)) (fun h => by simp [Value.ownBlock] at h; exact hne5 h); have q7 := cell_of k7 1; have f7 := frozen_of k7 1; simp at q7; have hcY : Chg (fun _ => False) wr w7 := ((HCE.out.trans hch5 (fun i hi h => by simp [Value.ownBlock] at h; omega)).trans hc6 (fun _ _ h => h)).trans hch7 (fun i hi h => by simp [Value.ownBlock] at h; rcases hg5 with h5 | h5 <;> first | (simp [Value.ownBlock] at h5; omega) | omega); have hcZ := hcY.setCell (p := ⟨wr.heap.size, 1, none⟩) (fun h => absurd h (Nat.lt_irrefl _)) (.slice (some ⟨g7, 0, none⟩) (g.acts.length + 1) cap7); have y0 : (w7.setCell ⟨wr.heap.size, 1, none⟩ (.slice (some ⟨g7, 0, none⟩) (g.acts.length + 1) cap7)).cell? ⟨gb, 0, none⟩ = some (.slice oa g.srcs.length c) := cell_of ((C2.out.trans hcZ (fun _ _ h => h)).obj HGB.out (fun h => h)) 0; have y1 : (w7.setCell ⟨wr.heap.size, 1, none⟩ (.slice (some ⟨g7, 0, none⟩) (g.acts.length + 1) cap7)).cell? ⟨gb, 1, none⟩ = some (.slice (some ad) g.acts.length d) := cell_of ((C2.out.trans hcZ (fun _ _ h => h)).obj HGB.out (fun h => h)) 1))
            have hge5 : wr.heap.size + 1 ≤ g5 := by rcases hg5 with h | h <;> first | (simp [Value.ownBlock] at h; omega) | omega
            have hs56 : w5.heap.size ≤ w6.heap.size := hc6.size
            have hs5 : wr.heap.size + 2 ≤ w5.heap.size := by have := hch5.size; simp at this; omega
            have hge7 : wr.heap.size + 1 ≤ g7 := by
              rcases hg7 with h | h
              · simp [Value.ownBlock] at h; omega
              · omega
            have k8 := heap_set_same k7 1 (.slice (some ⟨g7, 0, none⟩) (g.acts.length + 1) cap7)
            simp at k8
            have hc57 : Chg (fun _ => False) wr w7 := ((HCE.out.trans hch5 (fun i hi h => by simp [Value.ownBlock] at h; omega)).trans hc6 (fun _ _ h => h)).trans hch7 (fun i hi h => by simp [Value.ownBlock] at h; omega)
            have hc8 : Chg (fun _ => False) wr (w7.setCell ⟨wr.heap.size, 1, none⟩ (.slice (some ⟨g7, 0, none⟩) (g.acts.length + 1) cap7)) := hc57.setCell (p := ⟨wr.heap.size, 1, none⟩) (fun h => absurd h (Nat.lt_irrefl _)) _
            have hown8 := ((Chg.refl (fun k => k = wr.heap.size) w7).setCell (p := ⟨wr.heap.size, 1, none⟩) (fun _ => rfl) (.slice (some ⟨g7, 0, none⟩) (g.acts.length + 1) cap7)).owns hown7 (fun k hk h => by simp [Value.ownBlock] at hk; omega)
            have hC8 := C2.out.trans hc8 (fun _ _ h => h)
            have hgm : GrAt (w7.setCell ⟨wr.heap.size, 1, none⟩ (.slice (some ⟨g7, 0, none⟩) (g.acts.length + 1) cap7)) (.agg #[.slice oa g.srcs.length c, .slice (some ⟨g7, 0, none⟩) (g.acts.length + 1) cap7]) (more g ⟨z8, inputs, []⟩) :=
              gr_more (iv := iv) (iva := .slice oi inputs.length ci) (HS.out.chg hC8 (fun _ _ h => h)) (fun p hp => by
                have := HA.out.names p hp
                exact ⟨this.1.chg hC8 (fun _ _ h => h), this.2⟩) hown8 (HIN.out.chg hC8 (fun _ _ h => h)) ⟨(by show (8 : Nat) ≤ 9223372036854775807; decide), Nat.zero_le _⟩ (by omega)
            have HC8 := hid hC8
            have HGM := hid hgm
            have HK8 := hid k8
            have HNE : Hid (∀ k, k < wr.heap.size + 1 → True) := hid (fun _ _ => trivial)
            obtain ⟨bh, hbh⟩ : ∃ bh, bh = wr.heap.size := ⟨_, rfl⟩
            obtain ⟨v8, hv8⟩ : ∃ v8, v8 = Value.slice (some ⟨g7, 0, none⟩) (g.acts.length + 1) cap7 := ⟨_, rfl⟩
            clear y0 y1 hcY hcZ hge5 hs56 hs5 hge7 hc57 hc8 hown8 hC8 hgm k8 q7 f7 k7 hne5 hg7 hch7 hown7 hown6 hc6 hg5 hch5 hown5 p1 p2 HSRC HONE HEMP HKH HPL HCE HNE a0 a1
            rw [← hbh] at HC8 HGM HK8 ⊢
            clear hbh
            generalize w7.setCell ⟨bh, 1, none⟩ (.slice (some ⟨g7, 0, none⟩) (g.acts.length + 1) cap7) = W8 at *
            clear hv8
            have hlm := more_len g ⟨z8, inputs, []⟩
            refine (tcheck_any g _ _ (HG.out.chg HC8.out (fun _ _ h => h))).mono ?_
            rintro e w9 ⟨rfl, hc9⟩
            have C9 := hid (HC8.out.trans hc9 (fun _ _ h => h))
            have D9 := hid hc9
            have m0 := cell_of (hc9.obj HK8.out (fun h => h)) 0
            have m1 := cell_of (hc9.obj HK8.out (fun h => h)) 1
            simp at m0 m1
            clear hc9
            by_cases hz : checkR g = 0
            · rw [hz]
              have hcan := can_iff.1 hz
              go_wp2_with fail
              refine (tcheck_any (more g ⟨z8, inputs, []⟩) _ _ (HGM.out.chg D9.out (fun _ _ h => h))).mono ?_
              rintro e w10 ⟨rfl, hc10⟩
              have C10 := hid (C9.out.trans hc10 (fun _ _ h => h))
              have D10 := hid (D9.out.trans hc10 (fun _ _ h => h))
              clear hc10 m0 m1 C9 D9
              have a0 := cell_of (C10.out.obj HGB.out (fun h => h)) 0
              have a1 := cell_of (C10.out.obj HGB.out (fun h => h)) 1
              simp at a0 a1
              by_cases hzh : checkR (more g ⟨z8, inputs, []⟩) = 0
              · rw [hzh]
                have hcanh := can_iff.1 hzh
                have hom : ordR (more g ⟨z8, inputs, []⟩) = orderR g ++ [g.acts.length] := by unfold ordR; rw [if_pos hzh, orderR_more hcan hcanh]
                have hog : ordR g = orderR g := by unfold ordR; rw [if_pos hz]
                have hdm : dirtyOf (more g ⟨z8, inputs, []⟩) names = dirtyR g names ++ (if dirtyB (more g ⟨z8, inputs, []⟩) names g.acts.length then [g.acts.length] else []) := by unfold dirtyOf; rw [if_pos hzh, dirtyR_more hcan hcanh]
                have hdg : dirtyOf g names = dirtyR g names := by unfold dirtyOf; rw [if_pos hz]
                have HCAN := hid hcan
                have HCANH := hid hcanh
                have HOM := hid hom
                have HOG := hid hog
                have HDM := hid hdm
                have HEL : Hid ((if dirtyB (more g ⟨z8, inputs, []⟩) names g.acts.length = true then [g.acts.length] else []).length ≤ 1) := hid (by split <;> simp)
                have HDG := hid hdg
                clear hz hzh hcan hcanh hom hog hdm hdg
                go_wp2_with fail
                refine (torder_any g _ _ (HG.out.chg C10.out (fun _ _ h => h))).mono ?_
                rintro e w11 ⟨hc11, v11, rfl, ho11⟩
                rw [HOG.out] at ho11
                have C11 := hid (C10.out.trans hc11 (fun _ _ h => h))
                have D11 := hid (D10.out.trans hc11 (fun _ _ h => h))
                have hI11 := IntsAt.of_owns ho11
                obtain ⟨o11, c11, rfl⟩ := hI11.form
                have HI11 := hid hI11
                have m0 := cell_of (D11.out.obj HK8.out (fun h => h)) 0
                have m1 := cell_of (D11.out.obj HK8.out (fun h => h)) 1
                simp at m0 m1
                clear hc11 ho11 hI11 C10 D10 a0 a1
                go_wp2_with fail
                refine (torder_any (more g ⟨z8, inputs, []⟩) _ _ (HGM.out.chg D11.out (fun _ _ h => h))).mono ?_
                rintro e w12 ⟨hc12, v12, rfl, ho12⟩
                rw [HOM.out] at ho12
                have C12 := hid (C11.out.trans hc12 (fun _ _ h => h))
                have D12 := hid (D11.out.trans hc12 (fun _ _ h => h))
                have hI12 := IntsAt.of_owns ho12
                obtain ⟨o12, c12, rfl⟩ := hI12.form
                have HI12 := hid hI12
                have HI11b := hid (HI11.out.chg hc12 (fun _ _ h => h))
                clear hc12 ho12 hI12 HI11 C11 D11 m0 m1
                have hfull := HCAN.out.full
                have hL11 : (orderR g).length ≤ 30 := by omega
                have hlt : ∀ k (h : k < (orderR g).length), (orderR g)[k] < g.acts.length := fun k h => (orderR_ordd g).lt _ (List.getElem_mem h)
                have HLT := hid hlt
                have HFL := hid hfull
                have m0 := cell_of (C12.out.obj HGB.out (fun h => h)) 1
                simp at m0
                clear hfull hlt
                generalize hL : orderR g = L at *
                have HLL := hid hL
                clear hL
                have hlb : (L ++ [g.acts.length]).length = L.length + 1 := by simp
                go_wp2_with fail
                go_loopw [12, 13] (fun at_ i wr => ∃ k : Nat, k ≤ L.length + 1 ∧ i = .int .i64 k ∧ at_ = .int .i64 ((min k L.length : Nat) : Int) ∧ Chg (fun _ => False) w12 wr) (fun _ i _ => L.length + 1 - (intOf i).toNat)
                case atStart => exact ⟨0, Nat.zero_le _, rfl, by simp, Chg.refl _ _⟩
                case round =>
                  obtain ⟨k, hk, rfl, rfl, hch⟩ := hrel
                  have HCW := hid hch
                  clear hch m0
                  by_cases hkn : k < L.length + 1
                  · have hkn' : (k : Int) < (L.length : Int) + 1 := by omega
                    obtain ⟨b1, o1, hix1, hc1, _⟩ := (HI12.out.chg HCW.out (fun _ _ h => h)).ix k (by rw [hlb]; exact hkn)
                    rw [hlb] at hix1
                    by_cases hkl : k < L.length
                    · have hgk : (L ++ [g.acts.length])[k]'(by rw [hlb]; exact hkn) = L[k] := List.getElem_append_left hkl
                      rw [hgk] at hc1
                      obtain ⟨b2, o2, hix2, hc2, _⟩ := (HI11b.out.chg HCW.out (fun _ _ h => h)).ix k hkl
                      have hlk := HLT.out k hkl
                      have hne : ¬ ((L[k] : Nat) : Int) = (g.acts.length : Int) := by omega
                      rw [Nat.min_eq_left (Nat.le_of_lt hkl)]
                      have hd1 : decide ((L.length : Int) ≤ (k : Int)) = false := by simp; omega
                      have hd2 : decide (L.length ≤ k) = false := by simp; omega
                      have hkl' : ¬ L.length ≤ k := by omega
                      generalize L[k] = x at *
                      go_wp2_with fail
                      go_quiet (fail)
                      go_wp2_with fail
                      go_roundw
                      case rel => exact ⟨k + 1, by omega, by go_num, by rw [Nat.min_eq_left (by omega)]; go_num, HCW.out.drewN _⟩
                      case measure => simp [intOf]; omega
                    · obtain rfl : k = L.length := by omega
                      have hgk : (L ++ [g.acts.length])[L.length]'(by rw [hlb]; exact hkn) = g.acts.length := by simp
                      rw [hgk] at hc1
                      rw [Nat.min_eq_left (Nat.le_refl _)]
                      go_wp2_with fail
                      go_roundw
                      case rel => exact ⟨L.length + 1, by omega, by go_num, by rw [Nat.min_eq_right (by omega)], HCW.out⟩
                      case measure => simp [intOf]
                  · obtain rfl : k = L.length + 1 := by omega
                    rw [Nat.min_eq_right (by omega)]
                    have C13 := hid (C12.out.trans HCW.out (fun _ _ h => h))
                    have D13 := hid (D12.out.trans HCW.out (fun _ _ h => h))
                    have a0 := cell_of (C13.out.obj HGB.out (fun h => h)) 0
                    have a1 := cell_of (C13.out.obj HGB.out (fun h => h)) 1
                    simp at a0 a1
                    go_wp2_with fail
                    refine (tdirty_any g names _ _ _ (HG.out.chg C13.out (fun _ _ h => h)) (HNM.out.chg C13.out (fun _ _ h => h))).mono ?_
                    rintro e w14 ⟨hc14, v14, rfl, ho14⟩
                    rw [HDG.out] at ho14
                    have C14 := hid (C13.out.trans hc14 (fun _ _ h => h))
                    have D14 := hid (D13.out.trans hc14 (fun _ _ h => h))
                    have hI14 := IntsAt.of_owns ho14
                    obtain ⟨o14, c14, rfl⟩ := hI14.form
                    have HI14 := hid hI14
                    have m0 := cell_of (D14.out.obj HK8.out (fun h => h)) 0
                    have m1 := cell_of (D14.out.obj HK8.out (fun h => h)) 1
                    simp at m0 m1
                    clear hc14 ho14 hI14 C13 D13 a0 a1
                    go_wp2_with fail
                    refine (tdirty_any (more g ⟨z8, inputs, []⟩) names _ _ _ (HGM.out.chg D14.out (fun _ _ h => h)) (HNM.out.chg C14.out (fun _ _ h => h))).mono ?_
                    rintro e w15 ⟨hc15, v15, rfl, ho15⟩
                    rw [HDM.out] at ho15
                    have C15 := hid (C14.out.trans hc15 (fun _ _ h => h))
                    have D15 := hid (D14.out.trans hc15 (fun _ _ h => h))
                    have hI15 := IntsAt.of_owns ho15
                    obtain ⟨o15, c15, rfl⟩ := hI15.form
                    have HI15 := hid hI15
                    have HI14b := hid (HI14.out.chg hc15 (fun _ _ h => h))
                    have hdl : (dirtyR g names).length ≤ 30 := by
                      have := List.length_filter_le (dirtyB g names) (List.range g.acts.length)
                      unfold dirtyR
                      simp at this ⊢
                      omega
                    generalize (if dirtyB (more g ⟨z8, inputs, []⟩) names g.acts.length = true then [g.acts.length] else []) = E at *
                    have hE : E.length ≤ 1 := HEL.out
                    generalize hDR : dirtyR g names = DR at *
                    have HDR := hid hDR
                    have h2l : (DR ++ E).length = DR.length + E.length := by simp
                    obtain ⟨n2, hn2⟩ : ∃ n2, n2 = (DR ++ E).length := ⟨_, rfl⟩
                    rw [← hn2] at h2l ⊢
                    have HN2 := hid hn2
                    have hl1 : ¬ (n2 : Int) < (DR.length : Int) := by omega
                    have hl2 : ¬ n2 < DR.length := by omega
                    have hl3 : decide (n2 < DR.length) = false := by simp; omega
                    have hl4 : IntKind.i64.wrap ((DR.length : Int) + 1) = (DR.length : Int) + 1 := by rw [IntKind.wrap_i64]; omega
                    have hl5 : ¬ ((DR.length : Int) + 1) < (n2 : Int) := by omega
                    have hl6 : decide (((DR.length : Int) + 1) < (n2 : Int)) = false := by simp; omega
                    clear hc15 ho15 hI15 HI14 C14 D14 m0 m1 hDR hn2 HDM HDG
                    go_wp2_with fail
                    clear hl1 hl2 hl3 hl4 hl5 hl6
                    obtain ⟨wo, hwo⟩ : ∃ wo, wo = w15 := ⟨_, rfl⟩
                    rw [← hwo] at C15 D15 HI15 HI14b ⊢
                    clear hwo
                    go_loopw [16] (fun i wr => ∃ k : Nat, k ≤ DR.length ∧ i = .int .i64 k ∧ Chg (fun _ => False) wo wr) (fun i _ => DR.length - (intOf i).toNat)
                    case atStart => exact ⟨0, Nat.zero_le _, rfl, Chg.refl _ _⟩
                    case round =>
                      obtain ⟨k, hk, rfl, hch⟩ := hrel
                      have HCV := hid hch
                      clear hch
                      by_cases hkn : k < DR.length
                      · have hkn' : (k : Int) < DR.length := by omega
                        obtain ⟨b1, o1, hix1, hc1, _⟩ := (HI14b.out.chg HCV.out (fun _ _ h => h)).ix k hkn
                        obtain ⟨b2, o2, hix2, hc2, _⟩ := (HI15.out.chg HCV.out (fun _ _ h => h)).ix k (by rw [← HN2.out]; omega)
                        rw [List.length_append] at hix2
                        have hg2 : (DR ++ E)[k]'(by rw [← HN2.out]; omega) = DR[k] := List.getElem_append_left hkn
                        rw [hg2] at hc2
                        have hk2 : (k : Int) < (DR.length : Int) + (E.length : Int) := by omega
                        have hk3 : k < DR.length + E.length := by omega
                        generalize DR[k] = x at *
                        clear hg2
                        go_wp2_with fail
                        go_quiet (fail)
                        go_wp2_with fail
                        go_roundw
                        case rel => exact ⟨k + 1, by omega, by go_num, HCV.out.drewN _⟩
                        case measure => simp [intOf]; omega
                      · obtain rfl : k = DR.length := by omega
                        have C16 := hid (C15.out.trans HCV.out (fun _ _ h => h))
                        have D16 := hid (D15.out.trans HCV.out (fun _ _ h => h))
                        go_wp2_with fail
                        obtain ⟨wp, hwp⟩ : ∃ wp, wp = wr := ⟨_, rfl⟩
                        rw [← hwp] at C16 D16 ⊢
                        clear hwp
                        go_loopw [17] (fun i wr => ∃ k : Nat, k ≤ g.acts.length ∧ i = .int .i64 k ∧ Chg (fun _ => False) wp wr) (fun i _ => g.acts.length - (intOf i).toNat)
                        case atStart => exact ⟨0, Nat.zero_le _, rfl, Chg.refl _ _⟩
                        case round =>
                          obtain ⟨k, hk, rfl, hch⟩ := hrel
                          have C17 := hid (C16.out.trans hch (fun _ _ h => h))
                          have D17 := hid (D16.out.trans hch (fun _ _ h => h))
                          have HCX := hid hch
                          clear hch
                          by_cases hkn : k < g.acts.length
                          · have hkn' : (k : Int) < g.acts.length := by omega
                            obtain ⟨bb, oo, hix, hlt, e0, _, _, _, _, _⟩ := (HA.out.chg C17.out (fun _ _ h => h)).at k hkn
                            have hnm := nameAt_lt g k hkn
                            have hno := needsOf_more HCAN.out HCANH.out hkn
                            have hna := needsOf_at HCAN.out hkn
                            have hnf := HCAN.out.needFacts hkn
                            rw [hna] at hno
                            rw [hnm] at hno hna
                            have HNO := hid hno
                            have HNA := hid hna
                            have HNF := hid hnf
                            have a0 := cell_of (C17.out.obj HGB.out (fun h => h)) 0
                            have a1 := cell_of (C17.out.obj HGB.out (fun h => h)) 1
                            have m0 := cell_of (D17.out.obj HK8.out (fun h => h)) 0
                            have m1 := cell_of (D17.out.obj HK8.out (fun h => h)) 1
                            simp at a0 a1 m0 m1
                            clear hno hna hnf hnm hlt
                            generalize g.acts[k].name = nm at *
                            generalize hnl : needsR g k = n at *
                            clear hnl
                            have HK0 := hid (And.intro a0 (And.intro a1 e0))
                            have HM0 := hid (And.intro m0 m1)
                            have hn20 := HNF.out.le20
                            clear m0 m1
                            go_wp2_with fail
                            go_region_held3 (fun W => W.cell? ⟨gb, 0, none⟩ = some (.slice oa g.srcs.length c) ∧ W.cell? ⟨gb, 1, none⟩ = some (.slice (some ad) g.acts.length d) ∧ W.cell? ⟨bb, oo, none⟩ = some (.string (bs nm))) (first | exact HK0.out | exact ⟨HC18.out.cell HK0.out.1 (fun h => h), HC18.out.cell HK0.out.2.1 (fun h => h), HC18.out.cell HK0.out.2.2 (fun h => h)⟩ | go_keep) (first | (go_at_call 17; refine (tneeds_any g nm _ _ (HG.out.chg (C17.out.drew) (fun _ _ h => h))).mono ?_; rintro e w18 ⟨hc18, v18, rfl, ho18⟩; rw [HNA.out] at ho18; have hN18 := names_own ho18 (by omega) (fun t ht => by have := HNF.out.le8 t ht; omega); obtain ⟨o18, c18, rfl⟩ := hN18.form; have HN18 := hid hN18; have HC18 := hid hc18; clear ho18 hN18 hc18))
                            have C18 := hid (C17.out.drew.trans HC18.out (fun _ _ h => h))
                            have D18 := hid (D17.out.drew.trans HC18.out (fun _ _ h => h))
                            have X18 := hid (HCX.out.drew.trans HC18.out (fun _ _ h => h))
                            have a1 := cell_of (C18.out.obj HGB.out (fun h => h)) 1
                            have m0 := cell_of (D18.out.obj HK8.out (fun h => h)) 0
                            have m1 := cell_of (D18.out.obj HK8.out (fun h => h)) 1
                            have e18 := HC18.out.cell (show wr.drew.cell? ⟨bb, oo, none⟩ = _ from HK0.out.2.2) (fun h => h)
                            simp at a1 m0 m1
                            have HK1 := hid (And.intro m0 (And.intro m1 (And.intro a1 e18)))
                            clear HC18 HCX C17 D17 HK0 HM0
                            go_wp2_with fail
                            go_region_held3 (fun W => W.cell? ⟨bh, 0, none⟩ = some (.slice oa g.srcs.length c) ∧ W.cell? ⟨bh, 1, none⟩ = some (.slice (some ⟨g7, 0, none⟩) (g.acts.length + 1) cap7) ∧ W.cell? ⟨gb, 1, none⟩ = some (.slice (some ad) g.acts.length d) ∧ W.cell? ⟨bb, oo, none⟩ = some (.string (bs nm))) (first | exact HK1.out | exact ⟨HC19.out.cell HK1.out.1 (fun h => h), HC19.out.cell HK1.out.2.1 (fun h => h), HC19.out.cell HK1.out.2.2.1 (fun h => h), HC19.out.cell HK1.out.2.2.2 (fun h => h)⟩ | go_keep) (first | (go_at_call 17; refine (tneeds_any (more g ⟨z8, inputs, []⟩) nm _ _ (HGM.out.chg (D18.out.drew) (fun _ _ h => h))).mono ?_; rintro e w19 ⟨hc19, v19, rfl, ho19⟩; rw [HNO.out] at ho19; have hN19 := names_own ho19 (by omega) (fun t ht => by have := HNF.out.le8 t ht; omega); obtain ⟨o19, c19, rfl⟩ := hN19.form; have HN19 := hid hN19; have HC19 := hid hc19; clear ho19 hN19 hc19))
                            have X19 := hid (X18.out.drew.trans HC19.out (fun _ _ h => h))
                            have HN18b := hid ((HN18.out.chg ((Chg.refl (fun _ => False) w18).drew) (fun _ _ h => h)).chg HC19.out (fun _ _ h => h))
                            clear HK1 a1 m0 m1 e18 HC19 HN18 C18 D18 X18
                            go_wp2_with fail
                            obtain ⟨wz, hwz⟩ : ∃ wz, wz = w19 := ⟨_, rfl⟩
                            rw [← hwz] at X19 HN19 HN18b ⊢
                            clear hwz
                            go_loopw [20] (fun i wr => ∃ q : Nat, q ≤ n.length ∧ i = .int .i64 q ∧ Chg (fun _ => False) wz wr) (fun i _ => n.length - (intOf i).toNat)
                            case atStart => exact ⟨0, Nat.zero_le _, rfl, Chg.refl _ _⟩
                            case round =>
                              obtain ⟨q, hq, rfl, hch⟩ := hrel
                              have HCZ := hid hch
                              clear hch
                              by_cases hqn : q < n.length
                              · have hqn' : (q : Int) < n.length := by omega
                                obtain ⟨ad1, hi1, hd1, _⟩ := (HN18b.out.chg HCZ.out (fun _ _ h => h)).ix q hqn
                                obtain ⟨ad2, hi2, hd2, _⟩ := (HN19.out.chg HCZ.out (fun _ _ h => h)).ix q hqn
                                generalize bs n[q] = x at *
                                go_wp2_with fail
                                go_quiet (fail)
                                go_wp2_with fail
                                go_roundw
                                case rel => exact ⟨q + 1, by omega, by go_num, HCZ.out.drewN _⟩
                                case measure => simp [intOf]; omega
                              · obtain rfl : q = n.length := by omega
                                go_wp2_with fail
                                go_roundw
                                case rel => exact ⟨k + 1, by omega, by go_num, X19.out.trans HCZ.out (fun _ _ h => h)⟩
                                case measure => simp [intOf]; omega
                          · obtain rfl : k = g.acts.length := by omega
                            go_wp2_with fail
                            go_ret
                            exact ⟨rfl, HC1.out.trans C17.out (fun _ _ h => h)⟩
              · have hne : ((checkR (more g ⟨z8, inputs, []⟩) : Int) == 0) = false := by rw [beq_eq_false_iff_ne]; omega
                have hne2 : ¬ (checkR (more g ⟨z8, inputs, []⟩) : Int) = 0 := by omega
                generalize checkR (more g ⟨z8, inputs, []⟩) = n at *
                go_wp2_with fail
                go_ret
                exact ⟨rfl, HC1.out.trans C10.out (fun _ _ h => h)⟩
            · have hne : ((checkR g : Int) == 0) = false := by rw [beq_eq_false_iff_ne]; omega
              have hne2 : ¬ (checkR g : Int) = 0 := by omega
              generalize checkR g = n at *
              go_wp2_with fail
              go_ret
              exact ⟨rfl, HC1.out.trans C9.out (fun _ _ h => h)⟩
    · have h20' : (20 : Int) < (inputs.length : Int) := by omega
      have d20 : decide ((20 : Int) < (inputs.length : Int)) = true := decide_eq_true h20'
      have hlI := HIN.out.len
      go_wp2_with fail
      go_ret
      exact ⟨rfl, HC1.out.trans C2.out (fun _ _ h => h)⟩
end Go.Proofs.YtafdcmhckpdnbaaDoor
