/- TrellisErrors walked: it returns true. -/
import Derived.Test.YtafdcmhckpdnbaaDoorTrY
import Derived.Deep.RegionHeld3
namespace Go.Proofs.YtafdcmhckpdnbaaDoor
open Go.RowKit

def f7 : Nm := [122, 122, 122, 122, 122, 122, 122]
def y8 : Nm := [121, 121, 121, 121, 121, 121, 121, 121]

set_option maxRecDepth 100000 in
set_option maxHeartbeats 8000000 in
theorem errors_any (g : GrR) (v : Value) (at_ : Int) (_ : (Lit.int .i64 at_).wf = true) (w : World) (hg : GrAt w v g) : Calls Tryd.prog 7 #[v, .int .i64 at_] w (Rets (.bool true) (Chg (fun _ => False) w)) := by
  obtain ⟨oa, c, ob, d, iv, rfl, hs, ha⟩ := hg.form
  have hC1 : Chg (fun _ => False) w (w.alloc (.cells #[.slice oa g.srcs.length c, .slice ob g.acts.length d] 25)) := (Chg.refl _ w).alloc _
  have hgb : (w.alloc (.cells #[.slice oa g.srcs.length c, .slice ob g.acts.length d] 25)).heap[w.heap.size]? = some (.cells #[.slice oa g.srcs.length c, .slice ob g.acts.length d] 25 (0, 0)) := heap_alloc_new' w _
  have hla := ha.rows.le
  unfold maxLen at hla
  have HG := hid (hg.chg hC1 (fun _ _ h => h))
  have HS := hid (hs.chg hC1 (fun _ _ h => h))
  have HA := hid (ha.chg hC1 (fun _ _ h => h))
  have HC1 := hid hC1
  have HGB := hid hgb
  clear hg hs ha hC1 hgb
  go_enter Tryd.func7, Tryd.ntmps7
  go_wp2_with fail
  refine (awake_any _).mono ?_
  rintro e w1 ⟨rfl, hc1⟩
  generalize w.alloc (.cells #[.slice oa g.srcs.length c, .slice ob g.acts.length d] 25) = W0 at *
  have a0 := cell_of (hc1.obj HGB.out (fun h => h)) 0
  have a1 := cell_of (hc1.obj HGB.out (fun h => h)) 1
  simp at a0 a1
  have C := hid hc1
  clear hc1
  go_wp2_with fail
  refine (great_any g [] _ _ _ (HG.out.chg C.out (fun _ _ h => h)) (show NamesAt _ (.slice none 0 0) [] from ⟨.inl ⟨rfl, rfl⟩, Nat.zero_le _, by simp⟩)).mono ?_
  rintro e w2 ⟨B, rfl, hc2, hB⟩
  have C2 := hid (C.out.trans hc2 (fun _ _ h => h))
  have a0 := cell_of (C2.out.obj HGB.out (fun h => h)) 0
  have a1 := cell_of (C2.out.obj HGB.out (fun h => h)) 1
  simp at a0 a1
  clear hc2 C hB
  generalize w.heap.size = gb at *
  have hlA := HA.out.len
  cases B with
  | true =>
    go_wp2_with fail
    go_ret
    exact ⟨rfl, HC1.out.trans C2.out (fun _ _ h => h)⟩
  | false =>
    go_wp2_with fail
    refine (tcheck_any g _ _ (HG.out.chg C2.out (fun _ _ h => h))).mono ?_
    rintro e w4 ⟨rfl, hc4⟩
    have C4 := hid (C2.out.trans hc4 (fun _ _ h => h))
    have a0 := cell_of (C4.out.obj HGB.out (fun h => h)) 0
    have a1 := cell_of (C4.out.obj HGB.out (fun h => h)) 1
    simp at a0 a1
    clear hc4 C2
    by_cases hz : checkR g = 0
    · rw [hz]
      have hcan := can_iff.1 hz
      have HCAN := hid hcan
      clear hcan hz
      by_cases h0 : g.acts.length = 0
      · have h0' : (g.acts.length : Int) = 0 := by omega
        rw [h0] at hlA a1 ⊢
        go_wp2_with fail
        go_ret
        exact ⟨rfl, HC1.out.trans C4.out (fun _ _ h => h)⟩
      · have h0' : ¬ (g.acts.length : Int) = 0 := by omega
        have h0b : ((g.acts.length : Int) == 0) = false := by rw [beq_eq_false_iff_ne]; omega
        by_cases h12 : 12 ≤ g.acts.length
        · have h12' : (12 : Int) ≤ (g.acts.length : Int) := by omega
          go_wp2_with fail
          go_ret
          exact ⟨rfl, HC1.out.trans C4.out (fun _ _ h => h)⟩
        · have h12' : ¬ (12 : Int) ≤ (g.acts.length : Int) := by omega
          go_wp2_with fail
          obtain ⟨k, hk, hkn⟩ : ∃ k : Nat, wrap64 ((IntKind.u64.wrap at_).tmod (g.acts.length : Int)) = (k : Int) ∧ k < g.acts.length := by
            have h1 : 0 ≤ IntKind.u64.wrap at_ := by rw [IntKind.wrap_u64]; omega
            have h2 := Int.tmod_eq_emod_of_nonneg (b := (g.acts.length : Int)) h1
            have h3 := Int.emod_nonneg (IntKind.u64.wrap at_) (b := (g.acts.length : Int)) (by omega)
            have h4 := Int.emod_lt_of_pos (IntKind.u64.wrap at_) (b := (g.acts.length : Int)) (by omega)
            refine ⟨((IntKind.u64.wrap at_) % (g.acts.length : Int)).toNat, ?_, by omega⟩
            rw [h2]
            unfold wrap64
            omega
          rw [hk]
          obtain ⟨ad, rfl⟩ : ∃ ad, ob = some ad := by
            rcases HA.out.rows.form with ⟨h1, h2⟩ | ⟨a, cap, h1, _⟩
            · exact absurd h2 h0
            · simp only [Value.slice.injEq] at h1; exact ⟨a, h1.1⟩
          have hkn' : (k : Int) < g.acts.length := by omega
          have hcH := al_chg w4 (.cells #[.slice oa g.srcs.length c, .slice (some ad) g.acts.length d] 25)
          have hkh := heap_alloc_new' w4 (.cells #[.slice oa g.srcs.length c, .slice (some ad) g.acts.length d] 25)
          have hsz : (w4.alloc (.cells #[.slice oa g.srcs.length c, .slice (some ad) g.acts.length d] 25)).heap.size = w4.heap.size + 1 := by simp
          have HKH := hid hkh
          have HSZ := hid hsz
          have hlt4 : gb < w4.heap.size := (Array.getElem?_eq_some_iff.1 (C4.out.obj HGB.out (fun h => h))).1
          have HLT4 := hid hlt4
          have hcc : Chg (fun _ => False) w4 (w4.alloc (.cells #[.slice oa g.srcs.length c, .slice (some ad) g.acts.length d] 25)).drew := hcH.drew
          have HCH := hid hcH
          clear hk hcH hkh hsz hlt4 a0 a1
          generalize w4.alloc (.cells #[.slice oa g.srcs.length c, .slice (some ad) g.acts.length d] 25) = W5 at *
          obtain ⟨bb, oo, hix, hlt, e0, e1, e2, hns, hw1, hw2⟩ := (HA.out.chg C4.out (fun _ _ h => h)).at k hkn
          clear e1 e2 hns hw2
          obtain ⟨nmk, hnmk⟩ : ∃ nmk, nmk = g.acts[k].name := ⟨_, rfl⟩
          rw [← hnmk] at e0 hw1
          have HSRC : Hid (∀ W, Chg (fun _ => False) w4 W → ∀ j u, (flatA (psOf g.acts iv))[j]? = some u → W.cell? (ad.add j) = some u) := hid (fun W hW => (HA.out.chg (C4.out.trans hW (fun _ _ h => h)) (fun _ _ h => h)).src)
          have hb5 : ∀ W, Chg (fun _ => False) w4 W → W.cell? ⟨gb, 1, none⟩ = some (.slice (some ad) g.acts.length d) ∧ W.cell? ⟨bb, oo, none⟩ = some (.string (bs nmk)) := fun W hW => by
            have k1 := (C4.out.trans hW (fun _ _ h => h)).obj HGB.out (fun h => h)
            exact ⟨cell_of k1 1, hW.cell e0 (fun h => h)⟩
          have HB5 := hid hb5
          have HNM : Hid (nameAt g k = nmk) := hid (by rw [hnmk]; exact nameAt_lt g k hkn)
          have HW1 := hid hw1
          have HKN := hid hkn
          have HPL : Hid ((flatA (psOf g.acts iv)).length = g.acts.length * 3) := hid (by rw [flatA_len, psOf_len])
          have HONE := hid (HA.out.one)
          obtain ⟨bh, hbh⟩ : ∃ bh, w4.heap.size = bh := ⟨_, rfl⟩
          have HBH := hid hbh
          rw [hbh] at HSZ
          rw [hbh] at HLT4
          try rw [hbh] at HKH
          have HGL := hid h0
          clear hb5 e0 hw1
          clear hnmk
          simp only [hbh]
          clear hbh
          go_region_held3 (fun W => W.cell? ⟨gb, 1, none⟩ = some (.slice (some ad) g.acts.length d) ∧ W.cell? ⟨bb, oo, none⟩ = some (.string (bs nmk))) (first | (refine HB5.out _ ?_; (repeat (first | exact hcc | exact HCH.out | refine Chg.drew ?_ | refine Chg.alloc ?_ _ | refine Chg.setCell ?_ (fun h => absurd h (by have := HBH.out; simp; omega)) _)))) (first | (refine step_append_src rfl _ _ 23 rfl elAct (owns_drew (acts_empty W5)) rfl ad g.acts.length d (flatA (psOf g.acts iv)) rfl HPL.out (HSRC.out _ ((HCH.out.alloc _).drew)) HONE.out (by unfold maxLen; omega) (by omega) h0 ?_; intro g5 cap5 w5 hown5 hch5 hg5; simp only [Nat.zero_add] at hown5; have hcn := ((HCH.out.alloc (.cells #[] 41)).drew).trans hch5 (fun i hi h => by simp [Value.ownBlock] at h; have := HSZ.out; have := HBH.out; omega); clear hcc; have hcc := hcn; clear hcn; have kh5 := hch5.obj (heap_alloc_old' HKH.out (.cells #[] 41)) (fun h => by simp [Value.ownBlock] at h; have := HSZ.out; omega); have hge5 : bh + 1 ≤ g5 := (by have := HSZ.out; rcases hg5 with h | h <;> first | (simp [Value.ownBlock] at h; omega) | (simp at h; omega)); have HW5 := hid hown5; have HGE := hid hge5; have HK5 := hid kh5; clear hown5 hch5 hg5 hge5 kh5) | (go_at_call 22; refine (action_any _ _ _ _ _).mono ?_; rintro e w6 ⟨rfl, hc6⟩; have hcn := hcc.trans hc6 (fun _ _ h => h); clear hcc; have hcc := hcn; clear hcn; have HW6 := hid (hc6.owns HW5.out (fun _ _ h => h)); have HK6 := hid (hc6.obj HK5.out (fun h => h)); clear hc6 HW5 HK5) | (refine step_append_src rfl _ _ 23 rfl elAct (HW6.out.alloc (.cells #[.string (bs nmk), .slice none 0 0, .string { data := #[] }] 41)) rfl ⟨w6.heap.size, 0, none⟩ 1 1 [.string (bs nmk), .slice none 0 0, .string { data := #[] }] rfl rfl (cells_new w6 #[.string (bs nmk), .slice none 0 0, .string { data := #[] }] 41) (by simp; exact ⟨rfl, rfl, rfl⟩) (by unfold maxLen; omega) (by omega) (by decide) ?_; intro g7 cap7 w7 hown7 hch7 hg7; have hcn := (hcc.alloc (.cells #[.string (bs nmk), .slice none 0 0, .string { data := #[] }] 41)).trans hch7 (fun i hi h => by simp [Value.ownBlock] at h; have := HGE.out; have := HBH.out; omega); clear hcc; have hcc := hcn; clear hcn; have k7 := hch7.obj (heap_alloc_old' HK6.out _) (fun h => by simp [Value.ownBlock] at h; have := HGE.out; omega); have q7 := cell_of k7 1; have f7 := frozen_of k7 1; simp at q7; have hge7 : bh + 1 ≤ g7 := (by rcases hg7 with h | h <;> first | (simp [Value.ownBlock] at h; have := HGE.out; omega) | (simp at h; have := heap_lt HK6.out; omega)); have HW7 := hid hown7; have HGE7 := hid hge7; have HK7 := hid k7; clear hown7 hch7 hg7 hge7 k7 HW6 HK6))
          have k8 := heap_set_same HK7.out 1 (.slice (some ⟨g7, 0, none⟩) (g.acts.length + 1) cap7)
          simp at k8
          have hc8 : Chg (fun _ => False) w4 (w7.setCell ⟨bh, 1, none⟩ (.slice (some ⟨g7, 0, none⟩) (g.acts.length + 1) cap7)) := hcc.setCell (p := ⟨bh, 1, none⟩) (fun h => absurd h (by have := HBH.out; simp; omega)) _
          have hown8 := ((Chg.refl (fun k => k = bh) w7).setCell (p := ⟨bh, 1, none⟩) (fun _ => rfl) (.slice (some ⟨g7, 0, none⟩) (g.acts.length + 1) cap7)).owns HW7.out (fun k hk h => by simp [Value.ownBlock] at hk; have := HGE7.out; omega)
          have C8 := hid (C4.out.trans hc8 (fun _ _ h => h))
          have hgm : GrAt (w7.setCell ⟨bh, 1, none⟩ (.slice (some ⟨g7, 0, none⟩) (g.acts.length + 1) cap7)) (.agg #[.slice oa g.srcs.length c, .slice (some ⟨g7, 0, none⟩) (g.acts.length + 1) cap7]) (more g ⟨nmk, [], []⟩) :=
            gr_more (iv := iv) (iva := .slice none 0 0) (HS.out.chg C8.out (fun _ _ h => h)) (fun p hp => by
              have := HA.out.names p hp
              exact ⟨this.1.chg C8.out (fun _ _ h => h), this.2⟩) hown8 ⟨.inl ⟨rfl, rfl⟩, Nat.zero_le _, by simp⟩ ⟨HW1.out, Nat.zero_le _⟩ (by omega)
          have HTW : Hid (checkR (more g ⟨nmk, [], []⟩) = 21) := hid (by rw [← HNM.out]; exact check_twice HCAN.out (by omega) HKN.out)
          have HK8 := hid k8
          have HGM := hid hgm
          have HC8 := hid hc8
          clear k8 hc8 hown8 hgm hcc HW7 HK7 f7 q7 HCH HKH HSZ HPL HSRC
          generalize w7.setCell ⟨bh, 1, none⟩ (.slice (some ⟨g7, 0, none⟩) (g.acts.length + 1) cap7) = W8 at *
          have m0 := cell_of HK8.out 0
          have m1 := cell_of HK8.out 1
          simp at m0 m1
          go_wp2_with fail
          refine (tcheck_any (more g ⟨nmk, [], []⟩) _ _ HGM.out).mono ?_
          rintro e w9 ⟨rfl, hc9⟩
          rw [HTW.out]
          have C9 := hid (C8.out.trans hc9 (fun _ _ h => h))
          have HC9 := hid (HC8.out.trans hc9 (fun _ _ h => h))
          have HK9 := hid (hc9.obj HK8.out (fun h => h))
          clear m0 m1 hc9 HGM HK8 C8 HC8
          go_wp2_with fail
          obtain ⟨fl, hfl⟩ : ∃ fl, bs f7 = fl := ⟨_, rfl⟩
          have hfl2 : (⟨#[122, 122, 122, 122, 122, 122, 122]⟩ : ByteArray) = fl := hfl
          rw [hfl2]
          have HFL := hid hfl
          clear hfl hfl2
          go_loopw [8] (fun i wr => ∃ q : Nat, q ≤ g.acts.length ∧ i = .int .i64 q ∧ wr = w9 ∧ ∀ j (h : j < g.acts.length), j < q → ¬ g.acts[j].name = f7) (fun i _ => g.acts.length - (intOf i).toNat)
          case atStart => exact ⟨0, Nat.zero_le _, rfl, rfl, fun j _ h => absurd h (Nat.not_lt_zero _)⟩
          case round =>
            obtain ⟨q, hq, rfl, rfl, hall⟩ := hrel
            have HAL := hid hall
            have a0 := cell_of (C9.out.obj HGB.out (fun h => h)) 0
            have a1 := cell_of (C9.out.obj HGB.out (fun h => h)) 1
            simp at a0 a1
            clear hall
            by_cases hqn : q < g.acts.length
            · have hqn' : (q : Int) < g.acts.length := by omega
              obtain ⟨b2, o2, hix2, hlt2, e0, e1, e2, hns2, hw3, hw4⟩ := (HA.out.chg C9.out (fun _ _ h => h)).at q hqn
              clear hns2 hw3 hw4 e1 e2
              by_cases he : g.acts[q].name = f7
              · rw [he, HFL.out] at e0
                go_wp2_with fail
                go_ret
                exact ⟨rfl, HC1.out.trans C9.out (fun _ _ h => h)⟩
              · have hne := bs_eq g.acts[q].name f7
                rw [decide_eq_false he] at hne
                rw [HFL.out] at hne
                have HE := hid he
                clear he
                generalize bs g.acts[q].name = x at *
                go_wp2_with fail
                go_roundw
                case rel =>
                  refine ⟨q + 1, by omega, by go_num, by first | rfl | trivial, fun j hj hjk => ?_⟩
                  by_cases e : j = q
                  · subst e; exact HE.out
                  · exact HAL.out j hj (by omega)
                case measure => simp [intOf]; omega
            · obtain rfl : q = g.acts.length := by omega
              go_wp2_with fail
              have hin := in_any _ g.srcs f7 _ (HS.out.chg C9.out (fun _ _ h => h))
              rw [HFL.out] at hin
              refine hin.mono ?_
              clear hin
              obtain ⟨b0, hb0⟩ : ∃ b0, g.srcs.contains f7 = b0 := ⟨_, rfl⟩
              rw [hb0]
              have HB0 := hid hb0
              clear hb0
              rintro e w10 ⟨rfl, rfl⟩
              cases b0 with
              | true =>
                go_wp2_with fail
                go_ret
                exact ⟨rfl, HC1.out.trans C9.out (fun _ _ h => h)⟩
              | false =>
                have p1 := cell_alloc' a1 (.cells #[] 41)
                have hcE := al_chg wr (.cells #[] 41)
                have HEMP := hid (acts_empty wr)
                have HSRC := hid ((HA.out.chg (C9.out.trans hcE (fun _ _ h => h)) (fun _ _ h => h)).src)
                have HPL : Hid ((flatA (psOf g.acts iv)).length = g.acts.length * 3) := hid (by rw [flatA_len, psOf_len])
                have HBL := hid (heap_lt HK9.out)
                have HCE := hid hcE
                clear hcE
                go_wp2_with (first | (at_builtin; refine wpList_append_src rfl _ _ 23 rfl elAct HEMP.out rfl ad g.acts.length d (flatA (psOf g.acts iv)) rfl HPL.out HSRC.out HONE.out (by unfold maxLen; omega) (by omega) HGL.out ?_; intro g5 cap5 w5 hown5 hch5 hg5; simp only [Nat.zero_add] at hown5) | (go_at_call 22; refine (action_any _ _ _ _ _).mono ?_; rintro e w6 ⟨rfl, hc6⟩; have hown6 := hc6.owns ((al_chg w5 (.cells #[.string { data := #[121, 121, 121, 121, 121, 121, 121, 121] }, .string fl] 9)).owns hown5 (fun _ _ h => h)) (fun _ _ h => h)) | (refine wpList_append_new rfl _ _ 23 rfl elAct hown6 rfl #[.string fl, .slice (some ⟨w5.heap.size, 0, none⟩) 2 2, .string { data := #[] }] 1 1 rfl rfl rfl (by unfold maxLen; omega) (by omega) (by decide) ?_; intro g8 cap8 w7 hown7 hch7 hg7; have hge5 : wr.heap.size ≤ g5 := (by rcases hg5 with h | h <;> first | (simp [Value.ownBlock] at h; omega) | (simp at h; omega)); have k7 := hch7.obj (hc6.obj ((al_chg w5 (.cells #[.string { data := #[121, 121, 121, 121, 121, 121, 121, 121] }, .string fl] 9)).obj (hch5.obj (heap_alloc_old' HK9.out (.cells #[] 41)) (fun h => by simp [Value.ownBlock] at h; have := HBL.out; omega)) (fun h => h)) (fun h => h)) (fun h => by simp [Value.ownBlock] at h; have := HBL.out; omega); have q7 := cell_of k7 1; have f7 := frozen_of k7 1; simp at q7))
                have hs5 : wr.heap.size ≤ w5.heap.size := by have := hch5.size; simp at this; omega
                have hs6 := hc6.size
                simp at hs6
                have hge8 : wr.heap.size ≤ g8 := by
                  rcases hg7 with h | h
                  · simp [Value.ownBlock] at h; omega
                  · omega
                have hc57 : Chg (fun _ => False) wr w7 := (((HCE.out.trans hch5 (fun i hi h => by simp [Value.ownBlock] at h; omega)).trans (al_chg w5 (.cells #[.string { data := #[121, 121, 121, 121, 121, 121, 121, 121] }, .string fl] 9)) (fun _ _ h => h)).trans hc6 (fun _ _ h => h)).trans hch7 (fun i hi h => by simp [Value.ownBlock] at h; omega)
                have hc8 : Chg (fun _ => False) w4 (w7.setCell ⟨bh, 1, none⟩ (.slice (some ⟨g8, 0, none⟩) (g.acts.length + 1) cap8)) := (HC9.out.trans hc57 (fun _ _ h => h)).setCell (p := ⟨bh, 1, none⟩) (fun h => absurd h (by have := HBH.out; simp; omega)) _
                have hown8 := ((Chg.refl (fun k => k = bh) w7).setCell (p := ⟨bh, 1, none⟩) (fun _ => rfl) (.slice (some ⟨g8, 0, none⟩) (g.acts.length + 1) cap8)).owns hown7 (fun k hk h => by simp [Value.ownBlock] at hk; have := HBL.out; omega)
                have hni : NamesAt (w5.alloc (.cells #[.string { data := #[121, 121, 121, 121, 121, 121, 121, 121] }, .string fl] 9)) (.slice (some ⟨w5.heap.size, 0, none⟩) 2 2) [y8, Go.Proofs.YtafdcmhckpdnbaaDoor.f7] := by
                  have := names_new w5 [y8, Go.Proofs.YtafdcmhckpdnbaaDoor.f7] 2 rfl (by decide) (by decide)
                  rw [show ([y8, Go.Proofs.YtafdcmhckpdnbaaDoor.f7].map nmV).toArray = #[.string { data := #[121, 121, 121, 121, 121, 121, 121, 121] }, .string fl] by rw [← HFL.out]; rfl] at this
                  exact this
                have hni8 : NamesAt (w7.setCell ⟨bh, 1, none⟩ (.slice (some ⟨g8, 0, none⟩) (g.acts.length + 1) cap8)) (.slice (some ⟨w5.heap.size, 0, none⟩) 2 2) [y8, Go.Proofs.YtafdcmhckpdnbaaDoor.f7] :=
                  (hni.chg hc6 (fun _ _ h => h)).chg' ((hch7.mono (G := fun i => (Value.slice (some ⟨g5, 0, none⟩) g.acts.length cap5).ownBlock = some i ∨ i = bh) (fun _ _ h => .inl h)).setCell (p := ⟨bh, 1, none⟩) (fun _ => .inr rfl) (.slice (some ⟨g8, 0, none⟩) (g.acts.length + 1) cap8)) (fun _ k hk h => by
                    cases hk
                    rcases h with h | h
                    · simp [Value.ownBlock] at h
                      rcases hg5 with e | e
                      · simp [Value.ownBlock] at e
                        have := hch5.size
                        simp at this
                        omega
                      · have := (World.ownsRow.lt hown5 g5 rfl).2
                        omega
                    · have h2 : w5.heap.size = bh := h
                      have := HBL.out
                      omega)
                have C10 := hid (C4.out.trans hc8 (fun _ _ h => h))
                have hgm : GrAt (w7.setCell ⟨bh, 1, none⟩ (.slice (some ⟨g8, 0, none⟩) (g.acts.length + 1) cap8)) (.agg #[.slice oa g.srcs.length c, .slice (some ⟨g8, 0, none⟩) (g.acts.length + 1) cap8]) (more g ⟨Go.Proofs.YtafdcmhckpdnbaaDoor.f7, [y8, Go.Proofs.YtafdcmhckpdnbaaDoor.f7], []⟩) :=
                  gr_more (iv := iv) (iva := .slice (some ⟨w5.heap.size, 0, none⟩) 2 2) (HS.out.chg C10.out (fun _ _ h => h)) (fun p hp => by
                    have := HA.out.names p hp
                    exact ⟨this.1.chg C10.out (fun _ _ h => h), this.2⟩) (by rw [← HFL.out] at hown8; exact hown8) hni8 ⟨(by show (7 : Nat) ≤ 9223372036854775807; decide), Nat.zero_le _⟩ (by omega)
                have k8 := heap_set_same k7 1 (.slice (some ⟨g8, 0, none⟩) (g.acts.length + 1) cap8)
                simp at k8
                have HK10 := hid k8
                have HGM := hid hgm
                clear k8 hgm hni hni8 hown8 hc8 hc57 hge8 hs6 hs5 q7 f7 k7 hge5 hg7 hch7 hown7 hown6 hc6 hg5 hch5 hown5 p1 HEMP HSRC HPL HBL HCE C9 HC9 HK9
                generalize w7.setCell ⟨bh, 1, none⟩ (.slice (some ⟨g8, 0, none⟩) (g.acts.length + 1) cap8) = W10 at *
                go_wp2_with fail
                obtain ⟨yl, hyl⟩ : ∃ yl, bs y8 = yl := ⟨_, rfl⟩
                have hyl2 : (⟨#[121, 121, 121, 121, 121, 121, 121, 121]⟩ : ByteArray) = yl := hyl
                rw [hyl2]
                have HYL := hid hyl
                have HAF := hid HAL.out
                clear hyl hyl2 a0 a1
                go_loopw [9] (fun i wx => ∃ q : Nat, q ≤ g.acts.length ∧ i = .int .i64 q ∧ wx = W10 ∧ ∀ j (h : j < g.acts.length), j < q → ¬ g.acts[j].name = y8) (fun i _ => g.acts.length - (intOf i).toNat)
                case atStart => exact ⟨0, Nat.zero_le _, rfl, rfl, fun j _ h => absurd h (Nat.not_lt_zero _)⟩
                case round =>
                  obtain ⟨q, hq, rfl, rfl, hall⟩ := hrel
                  have HAY := hid hall
                  have a0 := cell_of (C10.out.obj HGB.out (fun h => h)) 0
                  have a1 := cell_of (C10.out.obj HGB.out (fun h => h)) 1
                  simp at a0 a1
                  clear hall
                  by_cases hqn : q < g.acts.length
                  · have hqn' : (q : Int) < g.acts.length := by omega
                    obtain ⟨b2, o2, hix2, hlt2, e0, e1, e2, hns2, hw3, hw4⟩ := (HA.out.chg C10.out (fun _ _ h => h)).at q hqn
                    clear hns2 hw3 hw4 e1 e2
                    by_cases he : g.acts[q].name = y8
                    · rw [he, HYL.out] at e0
                      go_wp2_with fail
                      go_ret
                      exact ⟨rfl, HC1.out.trans C10.out (fun _ _ h => h)⟩
                    · have hne := bs_eq g.acts[q].name y8
                      rw [decide_eq_false he] at hne
                      rw [HYL.out] at hne
                      have HE := hid he
                      clear he
                      generalize bs g.acts[q].name = x at *
                      go_wp2_with fail
                      go_roundw
                      case rel =>
                        refine ⟨q + 1, by omega, by go_num, by first | rfl | trivial, fun j hj hjk => ?_⟩
                        by_cases e : j = q
                        · subst e; exact HE.out
                        · exact HAY.out j hj (by omega)
                      case measure => simp [intOf]; omega
                  · obtain rfl : q = g.acts.length := by omega
                    go_wp2_with fail
                    have hin := in_any _ g.srcs y8 _ (HS.out.chg C10.out (fun _ _ h => h))
                    rw [show bs y8 = ⟨#[121, 121, 121, 121, 121, 121, 121, 121]⟩ from rfl] at hin
                    refine hin.mono ?_
                    clear hin
                    obtain ⟨b1, hb1⟩ : ∃ b1, g.srcs.contains y8 = b1 := ⟨_, rfl⟩
                    rw [hb1]
                    have HB1 := hid hb1
                    clear hb1
                    rintro e w11 ⟨rfl, rfl⟩
                    cases b1 with
                    | true =>
                      go_wp2_with fail
                      go_ret
                      exact ⟨rfl, HC1.out.trans C10.out (fun _ _ h => h)⟩
                    | false =>
                      have hf : Go.Proofs.YtafdcmhckpdnbaaDoor.f7 ∉ namesL g := fun h => by
                        rcases mem_names.1 h with h1 | ⟨j, hj, h1⟩
                        · have := HB0.out
                          simp [h1] at this
                        · rw [nameAt_lt g j hj] at h1
                          exact HAF.out j hj hj h1
                      have hy : y8 ∉ namesL g := fun h => by
                        rcases mem_names.1 h with h1 | ⟨j, hj, h1⟩
                        · have := HB1.out
                          simp [h1] at this
                        · rw [nameAt_lt g j hj] at h1
                          exact HAY.out j hj hj h1
                      have HMS : Hid (checkR (more g ⟨Go.Proofs.YtafdcmhckpdnbaaDoor.f7, [y8, Go.Proofs.YtafdcmhckpdnbaaDoor.f7], []⟩) = 22) := hid (check_miss HCAN.out (by omega) (by decide) (by decide) hf hy (by decide))
                      clear hf hy
                      have m0 := cell_of HK10.out 0
                      have m1 := cell_of HK10.out 1
                      simp at m0 m1
                      go_wp2_with fail
                      refine (tcheck_any (more g ⟨Go.Proofs.YtafdcmhckpdnbaaDoor.f7, [y8, Go.Proofs.YtafdcmhckpdnbaaDoor.f7], []⟩) _ _ HGM.out).mono ?_
                      rintro e w12 ⟨rfl, hc12⟩
                      rw [HMS.out]
                      have C12 := hid (C10.out.trans hc12 (fun _ _ h => h))
                      clear hc12
                      go_wp2_with fail
                      go_ret
                      exact ⟨rfl, HC1.out.trans C12.out (fun _ _ h => h)⟩
    · have hne : ((checkR g : Int) == 0) = false := by simp; omega
      have hne2 : ¬ (checkR g : Int) = 0 := by omega
      clear hz
      generalize checkR g = n at *
      go_wp2_with fail
      go_ret
      exact ⟨rfl, HC1.out.trans C4.out (fun _ _ h => h)⟩
end Go.Proofs.YtafdcmhckpdnbaaDoor
