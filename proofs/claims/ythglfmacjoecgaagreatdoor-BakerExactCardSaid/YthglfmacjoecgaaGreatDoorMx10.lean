/- Texts of the proof, one behind the other: oven.laid walked. -/
import Derived.Test.YthglfmacjoecgaaGreatDoorMx09
namespace Go.Proofs.YthglfmacjoecgaaGreatDoor
open Go.RowKit

/-- A build that has just been made, nothing in it. -/
structure KitNew (w W : World) (b r kb : Nat) (g : GrR) (sv av : Value) : Prop where
  blk : W.heap[b]? = some (.cells #[sv, av, .map (some r), .slice (some ⟨kb, 0, none⟩) g.acts.length g.acts.length] 112 (0, 0))
  map : MapL W r nmV resW ([] : List (Nm × ResR))
  keys : W.heap[kb]? = some (.cells (rowB (g.acts.length * 32) (keysF zeroK)) 57 (0, 0))
  chg : Chg (fun _ => False) w W
  rge : w.heap.size ≤ r
  kge : w.heap.size ≤ kb
  bge : w.heap.size ≤ b
  ne1 : r ≠ kb
  ne2 : b ≠ r
  ne3 : b ≠ kb
theorem mapL_new {w : World} {r : Nat} (h : w.heap[r]? = some (.map #[] 0)) : MapL w r nmV resW ([] : List (Nm × ResR)) := ⟨#[], 0, h, rfl⟩
theorem kitNew_map (w : World) (g : GrR) (sv av : Value) : KitNew w (((w.alloc (.map #[] 0)).alloc (.cells (rowB (g.acts.length * 32) (fun _ => 0)) 57)).alloc (.cells #[sv, av, .map (some w.heap.size), .slice (some ⟨w.heap.size + 1, 0, none⟩) g.acts.length g.acts.length] 112)).drew (w.heap.size + 1 + 1) w.heap.size (w.heap.size + 1) g sv av := by
  obtain ⟨w1, h1⟩ : ∃ w1, w1 = w.alloc (.map #[] 0) := ⟨_, rfl⟩
  obtain ⟨w3, h3⟩ : ∃ w3, w3 = w1.alloc (.cells (rowB (g.acts.length * 32) (fun _ => 0)) 57) := ⟨_, rfl⟩
  rw [← h1, ← h3]
  have s1 : w1.heap.size = w.heap.size + 1 := by rw [h1]; simp
  have s3 : w3.heap.size = w.heap.size + 1 + 1 := by rw [h3]; simp [s1]
  have hm : w1.heap[w.heap.size]? = some (.map #[] 0) := h1 ▸ heap_alloc_new w _
  have hk : w3.heap[w.heap.size + 1]? = some (.cells (rowB (g.acts.length * 32) (fun _ => 0)) 57 (0, 0)) := by
    rw [h3, ← s1]
    exact heap_alloc_new w1 _
  have hm3 : w3.heap[w.heap.size]? = some (.map #[] 0) := by
    rw [h3]
    exact heap_alloc_old' hm _
  refine ⟨?_, mapL_new (heap_alloc_old' hm3 _), heap_alloc_old' hk _, ?_, by omega, by omega, by omega, by omega, by omega, by omega⟩
  · rw [← s3]
    exact heap_alloc_new w3 _
  · rw [h3, h1]
    exact ((((Chg.refl _ w).alloc _).alloc _).alloc _).drew
theorem kitNew_slice (w : World) (g : GrR) (sv av : Value) : KitNew w (((w.alloc (.cells (rowB (g.acts.length * 32) (fun _ => 0)) 57)).alloc (.map #[] 0)).alloc (.cells #[sv, av, .map (some (w.heap.size + 1)), .slice (some ⟨w.heap.size, 0, none⟩) g.acts.length g.acts.length] 112)).drew (w.heap.size + 1 + 1) (w.heap.size + 1) w.heap.size g sv av := by
  obtain ⟨w1, h1⟩ : ∃ w1, w1 = w.alloc (.cells (rowB (g.acts.length * 32) (fun _ => 0)) 57) := ⟨_, rfl⟩
  obtain ⟨w3, h3⟩ : ∃ w3, w3 = w1.alloc (.map #[] 0) := ⟨_, rfl⟩
  rw [← h1, ← h3]
  have s1 : w1.heap.size = w.heap.size + 1 := by rw [h1]; simp
  have s3 : w3.heap.size = w.heap.size + 1 + 1 := by rw [h3]; simp [s1]
  have hk : w1.heap[w.heap.size]? = some (.cells (rowB (g.acts.length * 32) (fun _ => 0)) 57 (0, 0)) := h1 ▸ heap_alloc_new w _
  have hm : w3.heap[w.heap.size + 1]? = some (.map #[] 0) := by
    rw [h3, ← s1]
    exact heap_alloc_new w1 _
  have hk3 : w3.heap[w.heap.size]? = some (.cells (rowB (g.acts.length * 32) (fun _ => 0)) 57 (0, 0)) := by
    rw [h3]
    exact heap_alloc_old' hk _
  refine ⟨?_, mapL_new (heap_alloc_old' hm _), heap_alloc_old' hk3 _, ?_, by omega, by omega, by omega, by omega, by omega, by omega⟩
  · rw [← s3]
    exact heap_alloc_new w3 _
  · rw [h3, h1]
    exact ((((Chg.refl _ w).alloc _).alloc _).alloc _).drew
set_option maxRecDepth 100000 in
set_option maxHeartbeats 4000000 in
theorem laid_any (g : GrR) (srcs : List SrcR) (sv av sv0 : Value) (iv : Nat → Value) (w : World) (hs : NamesAt w sv g.srcs) (ha : ActsAt w av g.acts iv) (hss : SrcsAt w sv0 srcs) : Calls Tryz.prog 53 #[.agg #[sv, av], sv0] w (LaidPost w g sv av iv srcs) := by
  obtain ⟨oa, c, rfl⟩ := hs.form
  obtain ⟨ob, d, rfl⟩ := ha.form
  have hg : GrAt w (.agg #[.slice oa g.srcs.length c, .slice ob g.acts.length d]) g := ⟨_, _, iv, rfl, hs, ha⟩
  obtain ⟨os, cs, rfl⟩ := hss.form
  have hC1 : Chg (fun _ => False) w (w.alloc (.cells #[.slice oa g.srcs.length c, .slice ob g.acts.length d] 25)) := (Chg.refl _ w).alloc _
  have hck := tcheck_any g _ _ (hg.chg hC1 (fun _ _ h => h))
  have hgb := heap_alloc_new' w (.cells #[.slice oa g.srcs.length c, .slice ob g.acts.length d] 25)
  have hmx := hss.rows.le
  have hmx2 := ha.rows.le
  have hmx3 := hs.le
  unfold maxLen at hmx hmx2 hmx3
  have hn12 : checkR g = 0 → g.acts.length ≤ 12 := fun h => (can_iff.1 h).w.acts12
  have HS := hid hs
  have HA := hid ha
  have HSS := hid hss
  have HC1 := hid hC1
  have HGB := hid hgb
  clear hs ha hss hg hC1 hgb
  by_cases hz : checkR g = 0
  · have h12 := hn12 hz
    have HCAN := hid (can_iff.1 hz)
    have HZ : Hid (checkR g = 0) := hid hz
    rw [hz] at hck
    clear hz hn12
    go_enter Tryz.func53, Tryz.ntmps53
    go_wp2_with (go_at_call 88; refine hck.mono ?_; rintro e w2 ⟨rfl, hc2⟩)
    clear hck
    have HG2 := hid (hc2.obj HGB.out (fun h => h))
    have HC2 := hid (HC1.out.trans hc2 (fun _ _ h => h))
    have HGL := hid (heap_lt HG2.out)
    clear hc2
    go_cut [7] from 21 to 28 (fun s7 wx => ∃ b r kb : Nat, s7 = .pointer (some ⟨b, 0, none⟩) ∧ KitNew w2 wx b r kb g (.slice oa g.srcs.length c) (.slice ob g.acts.length d))
    case first =>
      have hS : ∀ W, Chg (fun _ => False) w2 W → W.rangeAt w.heap.size 0 [.slice oa g.srcs.length c, .slice ob g.acts.length d] := fun W hW j u hv => by
        rw [Nat.zero_add, cell_of (hW.obj HG2.out (fun h => h))]
        simpa using hv
      have hS1 : ∀ W, Chg (fun _ => False) w2 W → W.cell? ⟨w.heap.size, 1, none⟩ = some (.slice ob g.acts.length d) := fun W hW => cell_of (hW.obj HG2.out (fun h => h)) 1
      refine wp_region_held_drew (S := fun W => Chg (fun _ => False) w2 W) (by kernel_rfl) ((Chg.refl _ w2).drew) (fun hd => ?_)
      refine wpAnyH_take (i := 0) rfl (by kernel_rfl) (by kernel_rfl) (by kernel_rfl) (fun _ _ _ h => h) (yieldsIf_load_mid rfl 25 _ rfl w.heap.size 0 rfl _ _ hS Tryz.underlying25 rfl (by kernel_rfl)) hd ?_
      refine wpAnyH_take (i := 2) (v := .pointer (some ⟨w.heap.size, 1, none⟩)) rfl (by kernel_rfl) (by kernel_rfl) (by kernel_rfl) (fun _ _ _ h => h) (.inl ⟨rfl, fun W _ => by kernel_rfl⟩) hd ?_
      refine wpAnyH_take (i := 3) (v := .slice ob g.acts.length d) rfl (by kernel_rfl) (by kernel_rfl) (by kernel_rfl) (fun _ _ _ h => h) (.inl ⟨by kernel_rfl, fun W hW => by have e := hS1 W hW; simp [execOp, Instr.loadAt, Instr.sureAddr, go_sem, e]⟩) hd ?_
      refine wpAnyH_take (i := 4) (v := .int .i64 g.acts.length) rfl (by kernel_rfl) (by kernel_rfl) (by kernel_rfl) (fun _ _ _ h => h) (.inl ⟨by kernel_rfl, fun W hW => by simp [execOp, go_sem]⟩) hd ?_
      refine wpAnyH_all (rs := [1, 5]) (by kernel_rfl) (by simp) (fun i hi => ?_)
      have hmm := @run_makeMap Tryz.prog
      have hms := run_makeDig g.acts.length (by omega)
      have hi2 : i = 1 ∨ i = 5 := by simpa using hi
      rcases hi2 with rfl | rfl
      · refine wpOp_step rfl (fun K1 hK1 => ?_)
        refine Eq.mpr (if_pos (by kernel_rfl)) ?_
        go_wp2_with fail
        have hd3 : Chg (fun _ => False) w2 (w2.alloc (.map #[] 0)).drew := ((Chg.refl _ w2).alloc _).drew
        refine ⟨hd3, ?_⟩
        refine wpAnyH_all (rs := [5]) (by kernel_rfl) (by simp) (fun i hi => ?_)
        obtain rfl : i = 5 := by simpa using hi
        refine wpOp_step rfl (fun K2 hK2 => ?_)
        refine Eq.mpr (if_pos (by kernel_rfl)) ?_
        go_wp2_with fail
        have hd4 : Chg (fun _ => False) w2 ((w2.alloc (.map #[] 0)).alloc (.cells (rowB (g.acts.length * 32) (fun _ => 0)) 57)).drew := (((Chg.refl _ w2).alloc _).alloc _).drew
        refine ⟨hd4, ?_⟩
        refine wpAnyH_take (i := 6) (v := .agg #[.slice oa g.srcs.length c, .slice ob g.acts.length d, .map (some (w2.heap.size)), .slice (some ⟨w2.heap.size + 1, 0, none⟩) g.acts.length g.acts.length]) rfl (by kernel_rfl) (by kernel_rfl) (by kernel_rfl) (fun _ _ _ h => h) (.inl ⟨by kernel_rfl, fun W _ => by kernel_rfl⟩) hd4 ?_
        refine wpAnyH_all (rs := [7]) (by kernel_rfl) (by simp) (fun i hi => ?_)
        obtain rfl : i = 7 := by simpa using hi
        refine wpOp_step rfl (fun K3 hK3 => ?_)
        refine Eq.mpr (if_pos (by kernel_rfl)) ?_
        go_wp2_with fail
        have hd5 : Chg (fun _ => False) w2 (((w2.alloc (.map #[] 0)).alloc (.cells (rowB (g.acts.length * 32) (fun _ => 0)) 57)).alloc (.cells #[.slice oa g.srcs.length c, .slice ob g.acts.length d, .map (some (w2.heap.size)), .slice (some ⟨w2.heap.size + 1, 0, none⟩) g.acts.length g.acts.length] 112)).drew := ((((Chg.refl _ w2).alloc _).alloc _).alloc _).drew
        refine ⟨hd5, ?_⟩
        refine wpAnyH_take (i := 8) (v := .pointer (some ⟨w2.heap.size + 1 + 1, 0, none⟩)) rfl (by kernel_rfl) (by kernel_rfl) (by kernel_rfl) (fun _ _ _ h => h) (.inl ⟨by kernel_rfl, fun W _ => by kernel_rfl⟩) hd5 ?_
        refine wpAnyH_done (by kernel_rfl) ?_ _
        have HKN := hid (kitNew_map w2 g (.slice oa g.srcs.length c) (.slice ob g.acts.length d))
        clear hd3 hd4 hd5 hd hS hS1
        go_wp2_with fail
        go_meet
        exact ⟨_, _, _, rfl, HKN.out⟩
      · refine wpOp_step rfl (fun K1 hK1 => ?_)
        refine Eq.mpr (if_pos (by kernel_rfl)) ?_
        go_wp2_with fail
        have hd3 : Chg (fun _ => False) w2 (w2.alloc (.cells (rowB (g.acts.length * 32) (fun _ => 0)) 57)).drew := ((Chg.refl _ w2).alloc _).drew
        refine ⟨hd3, ?_⟩
        refine wpAnyH_all (rs := [1]) (by kernel_rfl) (by simp) (fun i hi => ?_)
        obtain rfl : i = 1 := by simpa using hi
        refine wpOp_step rfl (fun K2 hK2 => ?_)
        refine Eq.mpr (if_pos (by kernel_rfl)) ?_
        go_wp2_with fail
        have hd4 : Chg (fun _ => False) w2 ((w2.alloc (.cells (rowB (g.acts.length * 32) (fun _ => 0)) 57)).alloc (.map #[] 0)).drew := (((Chg.refl _ w2).alloc _).alloc _).drew
        refine ⟨hd4, ?_⟩
        refine wpAnyH_take (i := 6) (v := .agg #[.slice oa g.srcs.length c, .slice ob g.acts.length d, .map (some (w2.heap.size + 1)), .slice (some ⟨w2.heap.size, 0, none⟩) g.acts.length g.acts.length]) rfl (by kernel_rfl) (by kernel_rfl) (by kernel_rfl) (fun _ _ _ h => h) (.inl ⟨by kernel_rfl, fun W _ => by kernel_rfl⟩) hd4 ?_
        refine wpAnyH_all (rs := [7]) (by kernel_rfl) (by simp) (fun i hi => ?_)
        obtain rfl : i = 7 := by simpa using hi
        refine wpOp_step rfl (fun K3 hK3 => ?_)
        refine Eq.mpr (if_pos (by kernel_rfl)) ?_
        go_wp2_with fail
        have hd5 : Chg (fun _ => False) w2 (((w2.alloc (.cells (rowB (g.acts.length * 32) (fun _ => 0)) 57)).alloc (.map #[] 0)).alloc (.cells #[.slice oa g.srcs.length c, .slice ob g.acts.length d, .map (some (w2.heap.size + 1)), .slice (some ⟨w2.heap.size, 0, none⟩) g.acts.length g.acts.length] 112)).drew := ((((Chg.refl _ w2).alloc _).alloc _).alloc _).drew
        refine ⟨hd5, ?_⟩
        refine wpAnyH_take (i := 8) (v := .pointer (some ⟨w2.heap.size + 1 + 1, 0, none⟩)) rfl (by kernel_rfl) (by kernel_rfl) (by kernel_rfl) (fun _ _ _ h => h) (.inl ⟨by kernel_rfl, fun W _ => by kernel_rfl⟩) hd5 ?_
        refine wpAnyH_done (by kernel_rfl) ?_ _
        have HKN := hid (kitNew_slice w2 g (.slice oa g.srcs.length c) (.slice ob g.acts.length d))
        clear hd3 hd4 hd5 hd hS hS1
        go_wp2_with fail
        go_meet
        exact ⟨_, _, _, rfl, HKN.out⟩
    case rest =>
      obtain ⟨b, r, kb, rfl, hkn⟩ := hcut
      have hfar : ∀ W, Chg (fun k => k = r) wc W → Chg (fun _ => False) w W := fun W hW => HC2.out.trans ((hkn.chg.mono (G := fun k => k = r) (fun _ _ h => h.elim)).trans hW (fun _ _ h => h)) (fun i hi h => by have := hkn.rge; have := HC2.out.size; omega)
      have hgc : ∀ W, Chg (fun k => k = r) wc W → W.cell? ⟨w.heap.size, 0, none⟩ = some (.slice oa g.srcs.length c) := fun W hW => cell_of (hW.obj (hkn.chg.obj HG2.out (fun h => h)) (by have := hkn.rge; have := HGL.out; omega)) 0
      have hkc : ∀ W, Chg (fun k => k = r) wc W → W.cell? ⟨b, 2, none⟩ = some (.map (some r)) := fun W hW => cell_of (hW.obj hkn.blk hkn.ne2) 2
      have HF := hid hfar
      have HGC := hid hgc
      have HKC := hid hkc
      have HKN := hid hkn
      have hm0 : MapL wc r nmV resW (srcT (srcs.take 0)) := hkn.map
      have HM0 := hid hm0
      clear hfar hgc hkc hkn hm0 HG2 HGB HC1
      go_wp2_with fail
      go_loopw [31] (fun i wr => ∃ k : Nat, k ≤ srcs.length ∧ i = .int .i64 k ∧ Chg (fun k => k = r) wc wr ∧ MapL wr r nmV resW (srcT (srcs.take k))) (fun i _ => srcs.length - (intOf i).toNat)
      case atStart => exact ⟨0, Nat.zero_le _, rfl, Chg.refl _ _, HM0.out⟩
      case round =>
        obtain ⟨k, hk, rfl, hch, hm⟩ := hrel
        have HC := hid hch
        have HM := hid hm
        clear hch hm
        by_cases hkn : k < srcs.length
        · have hkn' : (k : Int) < srcs.length := by omega
          obtain ⟨bb, oo, hix, e0, e1, hlt⟩ := (HSS.out.chg (HF.out wr HC.out) (fun _ _ h => h)).ix k hkn
          have HP : Hid (∀ W', MapL W' r nmV resW (lput srcs[k].1 ((0 : Int), srcs[k].2) (srcT (srcs.take k))) → MapL W' r nmV resW (srcT (srcs.take (k + 1)))) := by
            intro W' h
            rw [srcT_take srcs k hkn]
            exact h
          generalize hnm : srcs[k].1 = nm at *
          generalize hbl : srcs[k].2 = bl2 at *
          have hch5 := HC.out.alloc (.cells #[.string (bs nm), .string bl2] 55)
          have q2 := HKC.out _ hch5
          have hm5 : MapL (wr.alloc (.cells #[.string (bs nm), .string bl2] 55)) r nmV resW (srcT (srcs.take k)) := HM.out.al _
          have k5 := heap_alloc_new' wr (.cells #[.string (bs nm), .string bl2] 55)
          have HC5 := hid hch5
          have HM5 := hid hm5
          have HK5 := hid k5
          clear hnm hbl hch5 hm5 k5
          go_wp2_with fail
          generalize wr.alloc (.cells #[.string (bs nm), .string bl2] 55) = W5 at *
          have c0 : W5.cell? ⟨wr.heap.size, 0, none⟩ = some (.string (bs nm)) := cell_of HK5.out 0
          have c1 : W5.cell? ⟨wr.heap.size, 1, none⟩ = some (.string bl2) := cell_of HK5.out 1
          go_still_tail 10, (by kernel_rfl)
          change wpList _ _ _ _ _ W5.drew
          refine wpList_mapUpdate_l rfl _ _ _ 110 rfl keyNm Tryz.underlying110 (show MapL W5.drew r nmV resW _ from HM5.out) rfl nm rfl ((0 : Int), bl2) rfl ?_
          intro w1 hm1 hc1
          go_wp2_with fail
          go_roundw
          case rel => exact ⟨k + 1, by omega, by go_num, HC5.out.drew.trans hc1 (fun _ _ h => h), HP.out _ hm1⟩
          case measure => simp [intOf]; omega
        · obtain rfl : k = srcs.length := by omega
          have hm6 : MapL wr r nmV resW (srcT srcs) := by
            have := HM.out
            rwa [List.take_of_length_le (Nat.le_refl _)] at this
          have q2 := HKC.out _ HC.out
          have hlenM : ∀ n ty, (Builtin.len_ #[110] ty #[.map (some r)]).run Tryz.prog (wr.drewN n) = .ok (.int .i64 (srcT srcs).length) (wr.drewN n) := fun n ty =>
            MapL.len (show MapL (wr.drewN n) r nmV resW (srcT srcs) from hm6) Tryz.underlying110 ty
          have hlenM0 := hlenM 0
          change ∀ ty, (Builtin.len_ #[110] ty #[.map (some r)]).run Tryz.prog wr = .ok (.int .i64 (srcT srcs).length) wr at hlenM0
          have HM6 := hid hm6
          clear hm6 HM hlenM
          by_cases hnd : (srcs.map Prod.fst).Nodup
          · have hL := (srcT_length srcs).2.2 hnd
            rw [hL] at hlenM0
            have HND := hid hnd
            have g0 := HGC.out _ HC.out
            clear hL hnd
            go_wp2_with fail
            clear hlenM0 q2 g0
            obtain ⟨wo, hwo⟩ : ∃ wo, wo = wr := ⟨_, rfl⟩
            rw [← hwo] at HC HM6 ⊢
            clear hwo
            go_loopw [57] (fun i wx => ∃ k : Nat, k ≤ g.srcs.length ∧ i = .int .i64 k ∧ Chg (fun _ => False) wo wx ∧ ∀ j (h : j < g.srcs.length), j < k → g.srcs[j] ∈ srcs.map Prod.fst) (fun i _ => g.srcs.length - (intOf i).toNat)
            case atStart => exact ⟨0, Nat.zero_le _, rfl, Chg.refl _ _, fun j _ h => absurd h (Nat.not_lt_zero _)⟩
            case round =>
              obtain ⟨k, hk, rfl, hch, hall⟩ := hrel
              have HC7 := hid hch
              have HC8 := hid (HC.out.trans hch (fun _ _ h => h.elim))
              have HALL := hid hall
              clear hch hall
              by_cases hkn : k < g.srcs.length
              · have hkn' : (k : Int) < g.srcs.length := by omega
                obtain ⟨ad, hix, hadc, hadb⟩ := (HS.out.chg (HF.out _ HC8.out) (fun _ _ h => h)).ix k hkn
                have HMX := hid (HM6.out.chg HC7.out (fun h => h))
                have q2 := HKC.out _ HC8.out
                have HKN2 := hid hkn
                have hsome := srcT_some srcs HND.out g.srcs[k]
                have HMEM := hid (List.getElem_mem hkn)
                generalize hs3 : g.srcs[k] = s3 at *
                have HS3 := hid hs3
                clear hs3
                obtain ⟨rc, rb, hrv⟩ : ∃ rc rb, ((lval s3 (srcT srcs)).map resW).getD (resW noRes) = .agg #[.int .i64 rc, .string rb] := ⟨_, _, by rw [valT_getD]; rfl⟩
                have HRV := hid hrv
                clear hrv
                by_cases hmem : s3 ∈ srcs.map Prod.fst
                · have hb : (lval s3 (srcT srcs)).isSome = true := hsome.2 hmem
                  have HB := hid hb
                  have HMM := hid hmem
                  clear hsome hb hmem
                  go_wp2_with (guard_target =~ wpList _ _ _ (Oper.mk (some 67) _ _ _ _ _ :: _) _ _; refine wpList_lookup_ok rfl _ _ 110 rfl keyNm Tryz.underlying110 (zeroR _) HMX.out rfl s3 rfl _ HRV.out true HB.out ?_)
                  go_roundw
                  case rel =>
                    refine ⟨k + 1, by omega, by go_num, HC7.out.alloc _, fun j hj hjk => ?_⟩
                    by_cases e : j = k
                    · subst e
                      have e3 : g.srcs[j] = s3 := HS3.out
                      exact (congrArg (fun s => s ∈ srcs.map Prod.fst) e3).mpr HMM.out
                    · exact HALL.out j hj (by omega)
                  case measure => simp [intOf]; omega
                · have hb : (lval s3 (srcT srcs)).isSome = false := by
                    rw [Bool.eq_false_iff]
                    exact fun h => hmem (hsome.1 h)
                  have HB := hid hb
                  have HW : Hid (checkS g srcs = 22) := by
                    show checkS g srcs = 22
                    unfold checkS
                    rw [if_neg (by rw [HZ.out]; simp), if_neg (by simpa using HND.out), if_pos ⟨s3, HMEM.out, hmem⟩]
                  clear hsome hb hmem
                  go_wp2_with (guard_target =~ wpList _ _ _ (Oper.mk (some 67) _ _ _ _ _ :: _) _ _; refine wpList_lookup_ok rfl _ _ 110 rfl keyNm Tryz.underlying110 (zeroR _) HMX.out rfl s3 rfl _ HRV.out false HB.out ?_)
                  go_ret2
                  exact ⟨HF.out _ (HC8.out.alloc _), .inr ⟨by rw [HW.out]; decide, by rw [HW.out]; rfl⟩⟩
              · obtain rfl : k = g.srcs.length := by omega
                have g0 := HGC.out _ HC8.out
                have HIN : Hid (∀ s ∈ g.srcs, s ∈ srcs.map Prod.fst) := fun s hs => by
                  obtain ⟨j, hj, rfl⟩ := List.mem_iff_getElem.1 hs
                  exact HALL.out j hj hj
                by_cases hln : srcs.length = g.srcs.length
                · have HLN := hid hln
                  have hbe : ((srcs.length : Int) == (g.srcs.length : Int)) = true := by rw [beq_iff_eq]; omega
                  clear hln
                  go_wp2_with fail
                  clear hbe g0
                  obtain ⟨wy, hwy⟩ : ∃ wy, wy = wr := ⟨_, rfl⟩
                  rw [← hwy] at HC7 HC8 ⊢
                  clear hwy
                  go_loopw [81] (fun i wz => ∃ k : Nat, k ≤ srcs.length ∧ i = .int .i64 k ∧ Chg (fun _ => False) wy wz ∧ ∀ j (h : j < srcs.length), j < k → srcs[j].2.size ≤ 512) (fun i _ => srcs.length - (intOf i).toNat)
                  case atStart => exact ⟨0, Nat.zero_le _, rfl, Chg.refl _ _, fun j _ h => absurd h (Nat.not_lt_zero _)⟩
                  case round =>
                    obtain ⟨k, hk, rfl, hch, hall⟩ := hrel
                    have HC9 := hid hch
                    have HCA := hid (HC8.out.trans hch (fun _ _ h => h.elim))
                    have HALL2 := hid hall
                    clear hch hall
                    by_cases hkn : k < srcs.length
                    · have hkn' : (k : Int) < srcs.length := by omega
                      obtain ⟨bb, oo, hix, e0, e1, hlt⟩ := (HSS.out.chg (HF.out _ HCA.out) (fun _ _ h => h)).ix k hkn
                      have HMEM := hid (List.getElem_mem hkn)
                      generalize bs srcs[k].1 = nm at *
                      by_cases hw5 : 512 < srcs[k].2.size
                      · have HW : Hid (checkS g srcs = 33) := by
                          show checkS g srcs = 33
                          unfold checkS
                          rw [if_neg (by rw [HZ.out]; simp), if_neg (by simpa using HND.out), if_neg (fun ⟨s, h1, h2⟩ => h2 (HIN.out s h1)), if_neg (by rw [HLN.out]; simp), if_pos ⟨_, HMEM.out, hw5⟩]
                        generalize srcs[k].2 = bl2 at *
                        have hw5' : (512 : Int) < bl2.size := by omega
                        go_wp2_with fail
                        go_ret2
                        exact ⟨HF.out _ (HCA.out.alloc _), .inr ⟨by rw [HW.out]; decide, by rw [HW.out]; rfl⟩⟩
                      · have HLE : Hid (srcs[k].2.size ≤ 512) := hid (by omega)
                        generalize hbl : srcs[k].2 = bl2 at *
                        have HBL := hid hbl
                        have hw5' : ¬ (512 : Int) < bl2.size := by omega
                        clear hbl
                        go_wp2_with fail
                        go_roundw
                        case rel =>
                          refine ⟨k + 1, by omega, by go_num, HC9.out.alloc _, fun j hj hjk => ?_⟩
                          by_cases e : j = k
                          · subst e
                            rw [HBL.out]
                            exact HLE.out
                          · exact HALL2.out j hj (by omega)
                        case measure => simp [intOf]; omega
                    · obtain rfl : k = srcs.length := by omega
                      have HD : Hid (checkS g srcs = 0) := by
                        show checkS g srcs = 0
                        unfold checkS
                        rw [if_neg (by rw [HZ.out]; simp), if_neg (by simpa using HND.out), if_neg (fun ⟨s, h1, h2⟩ => h2 (HIN.out s h1)), if_neg (by rw [HLN.out]; simp), if_neg]
                        rintro ⟨s, h1, h2⟩
                        obtain ⟨j, hj, rfl⟩ := List.mem_iff_getElem.1 h1
                        have := HALL2.out j hj hj
                        omega
                      go_wp2_with fail
                      go_ret2
                      have hr := HKN.out.rge
                      have h2 := HC2.out.size
                      have hk2 := HKN.out.kge
                      have hb2 := HKN.out.bge
                      exact ⟨HF.out _ HCA.out, .inl ⟨HD.out, b, r, kb, rfl, ⟨HCA.out.obj HKN.out.blk HKN.out.ne2, HS.out.chg (HF.out _ HCA.out) (fun _ _ h => h), HA.out.chg (HF.out _ HCA.out) (fun _ _ h => h), HM6.out.chg (HC7.out.trans HC9.out (fun _ _ h => h)) (fun h => h), HCA.out.obj HKN.out.keys (fun e => HKN.out.ne1 e.symm)⟩, by omega, by omega, by omega, HKN.out.ne1, HKN.out.ne2, HKN.out.ne3⟩⟩
                · have hbe : ((srcs.length : Int) == (g.srcs.length : Int)) = false := by rw [beq_eq_false_iff_ne]; omega
                  have HW : Hid (checkS g srcs = 22) := by
                    show checkS g srcs = 22
                    unfold checkS
                    rw [if_neg (by rw [HZ.out]; simp), if_neg (by simpa using HND.out), if_neg (fun ⟨s, h1, h2⟩ => h2 (HIN.out s h1)), if_pos hln]
                  clear hln
                  go_wp2_with fail
                  go_ret2
                  exact ⟨HF.out _ HC8.out, .inr ⟨by rw [HW.out]; decide, by rw [HW.out]; rfl⟩⟩
          · have hL : ¬ (srcT srcs).length = srcs.length := fun e => hnd ((srcT_length srcs).2.1 e)
            have HW : Hid (checkS g srcs = 21) := by
              show checkS g srcs = 21
              unfold checkS
              rw [if_neg (by rw [HZ.out]; simp), if_pos (by simpa using hnd)]
            generalize (srcT srcs).length = L at *
            have hbe : ((L : Int) == (srcs.length : Int)) = false := by rw [beq_eq_false_iff_ne]; omega
            clear hnd
            go_wp2_with fail
            go_ret2
            exact ⟨HF.out _ HC.out, .inr ⟨by rw [HW.out]; decide, by rw [HW.out]; rfl⟩⟩
  · have HW : Hid (checkS g srcs = checkR g) := by
      show checkS g srcs = checkR g
      unfold checkS
      rw [if_pos hz]
    have HNZ := hid hz
    have hbe : ((checkR g : Int) == 0) = false := by rw [beq_eq_false_iff_ne]; omega
    clear hn12 hz
    generalize checkR g = cr at *
    go_enter Tryz.func53, Tryz.ntmps53
    go_wp2_with (go_at_call 88; refine hck.mono ?_; rintro e w2 ⟨rfl, hc2⟩)
    go_ret2
    exact ⟨HC1.out.trans hc2 (fun _ _ h => h), .inr ⟨by rw [HW.out]; exact HNZ.out, by rw [HW.out]; rfl⟩⟩
end Go.Proofs.YthglfmacjoecgaaGreatDoor
