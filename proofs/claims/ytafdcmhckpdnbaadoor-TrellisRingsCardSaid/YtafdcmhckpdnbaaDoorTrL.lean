/- trellis.Dirty walked. -/
import Derived.Test.YtafdcmhckpdnbaaDoorTrK
namespace Go.Proofs.YtafdcmhckpdnbaaDoor
open Go.RowKit

set_option maxRecDepth 100000 in
theorem hit_any (s nm : Nm) (K : List Nm) (w : World) (ba bn r : Nat) (ha : w.cell? ⟨ba, 0, none⟩ = some (.string (bs nm))) (hn : w.cell? ⟨bn, 0, none⟩ = some (.map (some r))) (hs : SetAt w r K) :
    Calls Tryd.prog 34 #[.string (bs s), .pointer (some ⟨ba, 0, none⟩), .pointer (some ⟨bn, 0, none⟩)] w (Rets (.bool (s == nm || K.contains s)) (fun w' => w = w')) := by
  have hval := setL_val s K
  have hv2 : ((lval s (setL K)).map boolV).getD (.bool false) = .bool (K.contains s) := by
    rw [← hval]; cases lval s (setL K) <;> rfl
  have hmp := hs.map
  have HMP := hid hmp
  by_cases h : s = nm
  · have hr : (s == nm || K.contains s) = true := by simp [h]
    rw [hr]
    subst h
    clear hval hv2 hmp hs hr
    go_enter Tryd.func34, Tryd.ntmps34
    go_wp2_with fail
    go_ret
    exact ⟨rfl, rfl⟩
  · have hr : (s == nm || K.contains s) = K.contains s := by simp [h]
    have hb2 : ¬ (bs s).toList = (bs nm).toList := by rw [Lib.toList_data, Lib.toList_data, bs_data, bs_data]; exact h
    rw [hr]
    generalize K.contains s = B at *
    have HV := hid hv2
    clear hval hv2 hmp hs hr h
    go_enter Tryd.func34, Tryd.ntmps34
    go_wp2_with (at_lookup; refine wpList_lookup_w (by simp [Region.wanted, yielded, hb2]) _ _ 63 rfl keyNm Tryd.underlying63 (zeroB _) HMP.out rfl s rfl _ HV.out ?_)
    go_ret
    exact ⟨by simp [hb2], rfl⟩
theorem hit_dirty {g : GrR} (h : Can g) (names : List Nm) {i : Nat} (hi : i < g.acts.length) {K : List Nm} (hK : ∀ s, s ∈ K ↔ Needs g i s) : names.any (fun s => s == nameAt g i || K.contains s) = dirtyB g names i := by
  unfold dirtyB
  congr 1
  funext s
  congr 1
  rw [Bool.eq_iff_iff]
  simp only [List.contains_iff_mem]
  rw [hK s, h.mem_needs hi]
/-- Dirty's answer. -/
def dirtyOf (g : GrR) (names : List Nm) : List Nat := if checkR g = 0 then dirtyR g names else []
theorem range_snoc (g : GrR) (names : List Nm) (k : Nat) : ((List.range (k + 1)).filter (dirtyB g names)) = (List.range k).filter (dirtyB g names) ++ (if dirtyB g names k then [k] else []) := by
  rw [List.range_succ, List.filter_append]
  congr 1
  by_cases h : dirtyB g names k <;> simp [h]

set_option maxRecDepth 100000 in
set_option maxHeartbeats 4000000 in
theorem tdirty_any (g : GrR) (names : List Nm) (v nv : Value) (w : World) (hg : GrAt w v g) (hns : NamesAt w nv names) : Calls Tryd.prog 19 #[v, nv] w (IntsPost w (dirtyOf g names)) := by
  obtain ⟨oa, c, ob, d, iv, rfl, hs, ha⟩ := hg.form
  have hC1 : Chg (fun _ => False) w (w.alloc (.cells #[.slice oa g.srcs.length c, .slice ob g.acts.length d] 25)) := (Chg.refl _ w).alloc _
  have hwv := checked_any g _ _ (hg.chg hC1 (fun _ _ h => h))
  unfold CheckedPost at hwv
  by_cases hz : checkR g = 0
  · have hcan := can_iff.1 hz
    have hwv2 : Calls Tryd.prog 23 #[.agg #[.slice oa g.srcs.length c, .slice ob g.acts.length d]] (w.alloc (.cells #[.slice oa g.srcs.length c, .slice ob g.acts.length d] 25)) (fun e w' => ∃ b, e = .returned (.tuple #[.pointer (some ⟨b, 0, none⟩), .int .i64 0]) ∧ Chg (fun _ => False) (w.alloc (.cells #[.slice oa g.srcs.length c, .slice ob g.acts.length d] 25)) w' ∧ IsWeb w' b g) :=
      hwv.mono (fun e w' ⟨h1, h2⟩ => by
        rcases h2 with ⟨_, b, h3, h4⟩ | ⟨h3, _⟩
        · exact ⟨b, h3, h1, h4⟩
        · exact absurd hz h3)
    have hr : dirtyOf g names = dirtyR g names := by unfold dirtyOf; rw [if_pos hz]
    have hgb : (w.alloc (.cells #[.slice oa g.srcs.length c, .slice ob g.acts.length d] 25)).heap[w.heap.size]? = some (.cells #[.slice oa g.srcs.length c, .slice ob g.acts.length d] 25 (0, 0)) := heap_alloc_new' w _
    have hlenA := ha.len
    have hn12 := hcan.w.acts12
    have HCAN := hid hcan
    have HA := hid ha
    have HNS := hid hns
    have HG := hid hgb
    rw [hr]
    clear hs ha hg hz hr hwv hcan hns hgb
    go_enter Tryd.func19, Tryd.ntmps19
    go_wp2_with (go_at_call 23; refine hwv2.mono ?_; rintro e w2 ⟨b, rfl, hc2, hb2⟩; have HB2 := hid hb2; have HC2 := hid hc2; have k1 := cell_of (hc2.obj HG.out (fun h => h)) 1; simp at k1; clear hb2 hc2)
    have HW2 : Hid (Chg (fun _ => False) w w2) := hid (hC1.trans HC2.out (fun _ _ h => h))
    clear k1 hwv2 hC1 HC2 HG
    go_loopw [4, 20] (fun v i wr => ∃ (k : Nat) (x : Value), x = v ∧ k ≤ g.acts.length ∧ i = .int .i64 k ∧ Chg (fun _ => False) w2 wr ∧ wr.ownsRow 0 3 1 x ((List.range k).filter (dirtyB g names)).length (((List.range k).filter (dirtyB g names)).map natV) ∧ (∀ q, x.ownBlock = some q → w2.heap.size ≤ q)) (fun _ i _ => g.acts.length - (intOf i).toNat)
    case atStart => exact ⟨0, _, rfl, Nat.zero_le _, rfl, Chg.refl _ _, World.ownsRow_nil _ _ _ _, (fun q h => by cases h)⟩
    case round =>
      obtain ⟨k, v, hv, hk, rfl, hch, hown, hbl⟩ := hrel
      subst hv
      have HC := hid hch
      have HOWN := hid hown
      have HBL := hid hbl
      clear hown hbl
      by_cases hkn : k < g.acts.length
      · have hkn' : (k : Int) < g.acts.length := by omega
        obtain ⟨bb, oo, hix, hlt, e0, e1, e2, hnsk, hw1, hw2⟩ := (HA.out.chg (HW2.out.trans hch (fun _ _ h => h)) (fun _ _ h => h)).at k hkn
        obtain ⟨oi, ci, hiv⟩ := hnsk.form
        rw [hiv] at e1
        have hnmk := nameAt_lt g k hkn
        have hfl : ((List.range k).filter (dirtyB g names)).length ≤ k := by
          have := List.length_filter_le (dirtyB g names) (List.range k)
          simpa using this
        have hsn := range_snoc g names k
        have HSN := hid hsn
        have HNMK := hid hnmk
        have HKN := hid hkn
        have hA : Chg (fun _ => False) wr (wr.alloc (.cells #[.string (bs g.acts[k].name), .slice oi g.acts[k].ins.length ci, .string (bs g.acts[k].code)] 41)) := (Chg.refl _ wr).alloc _
        have kA := heap_alloc_new' wr (.cells #[.string (bs g.acts[k].name), .slice oi g.acts[k].ins.length ci, .string (bs g.acts[k].code)] 41)
        have HA1 := hid hA
        have HKA := hid kA
        clear hiv hnsk hw1 hw2 hA kA hsn hnmk hch
        generalize g.acts[k].ins.length = ni at *
        generalize bs g.acts[k].code = cd at *
        generalize ((List.range k).filter (dirtyB g names)) = fl at *
        generalize hnm : g.acts[k].name = nm at *
        have HNM := hid hnm
        clear hnm
        have HDB : Hid (∀ K : List Nm, (∀ s, s ∈ K ↔ Needs g k s) → names.any (fun s => s == nm || K.contains s) = dirtyB g names k) := by
          intro K hK
          have := hit_dirty HCAN.out names HKN.out hK
          rw [HNMK.out] at this
          exact this
        generalize dirtyB g names k = B at HSN HDB
        cases B with
        | false =>
          go_wp2_with (first | (go_at_call 30; refine (needs_any g HCAN.out.w k HKN.out _ b (HB2.out.chg (HC.out.trans HA1.out (fun _ _ h => h)) (fun _ _ h => h))).mono ?_; rintro e w3 ⟨hc3, r3, K, rfl, hr3, hs3, hnd, hlK, hmK⟩; have HC3 := hid hc3; have HS3 := hid hs3; have HMK := hid hmK; have hal : Chg (fun _ => False) w3 (w3.alloc (.cells #[.map (some r3)] 63)) := (Chg.refl _ w3).alloc _; have HAL := hid hal; have HKL := hid (heap_alloc_new' w3 (.cells #[.map (some r3)] 63)); clear hc3 hs3 hmK hnd hlK hr3 hal) | (go_at_call 33; refine (cfs_hit (some ⟨wr.heap.size, 0, none⟩) (some ⟨w3.heap.size, 0, none⟩) (fun s => s == nm || K.contains s) nv names _ (HNS.out.chg ((((HW2.out.trans HC.out (fun _ _ h => h)).trans HA1.out (fun _ _ h => h)).trans HC3.out (fun _ _ h => h)).trans HAL.out (fun _ _ h => h)) (fun _ _ h => h)) (fun s _ W hW => (hit_any s nm K W wr.heap.size w3.heap.size r3 (cell_of (hW.obj (HAL.out.obj (HC3.out.obj HKA.out (fun h => h)) (fun h => h)) (fun h => h)) 0) (cell_of (hW.obj HKL.out (fun h => h)) 0) (HS3.out.chg (HAL.out.trans hW (fun _ _ h => h)) (fun h => h))).mono (fun e w' ⟨h1, h2⟩ => ⟨h1, h2 ▸ Chg.refl _ _⟩))).mono ?_; rintro e w4 ⟨he, hc4⟩; rw [show names.any (fun s => s == nm || K.contains s) = false from HDB.out K HMK.out] at he; subst he; have hc5 := (HA1.out.trans (HC3.out.trans (HAL.out.trans hc4 (fun _ _ h => h)) (fun _ _ h => h)) (fun _ _ h => h)); have hown5 := hc5.owns HOWN.out (fun _ _ h => h); have HC5 := hid hc5; clear hc4 hc5))
          go_roundw
          case rel => exact ⟨k + 1, v, rfl, by omega, by go_num, HC.out.trans HC5.out (fun _ _ h => h), (by rw [HSN.out]; simpa using hown5), HBL.out⟩
          case measure => simp [intOf]; omega
        | true =>
          go_wp2_with (first | (go_at_call 30; refine (needs_any g HCAN.out.w k HKN.out _ b (HB2.out.chg (HC.out.trans HA1.out (fun _ _ h => h)) (fun _ _ h => h))).mono ?_; rintro e w3 ⟨hc3, r3, K, rfl, hr3, hs3, hnd, hlK, hmK⟩; have HC3 := hid hc3; have HS3 := hid hs3; have HMK := hid hmK; have hal : Chg (fun _ => False) w3 (w3.alloc (.cells #[.map (some r3)] 63)) := (Chg.refl _ w3).alloc _; have HAL := hid hal; have HKL := hid (heap_alloc_new' w3 (.cells #[.map (some r3)] 63)); clear hc3 hs3 hmK hnd hlK hr3 hal) | (go_at_call 33; refine (cfs_hit (some ⟨wr.heap.size, 0, none⟩) (some ⟨w3.heap.size, 0, none⟩) (fun s => s == nm || K.contains s) nv names _ (HNS.out.chg ((((HW2.out.trans HC.out (fun _ _ h => h)).trans HA1.out (fun _ _ h => h)).trans HC3.out (fun _ _ h => h)).trans HAL.out (fun _ _ h => h)) (fun _ _ h => h)) (fun s _ W hW => (hit_any s nm K W wr.heap.size w3.heap.size r3 (cell_of (hW.obj (HAL.out.obj (HC3.out.obj HKA.out (fun h => h)) (fun h => h)) (fun h => h)) 0) (cell_of (hW.obj HKL.out (fun h => h)) 0) (HS3.out.chg (HAL.out.trans hW (fun _ _ h => h)) (fun h => h))).mono (fun e w' ⟨h1, h2⟩ => ⟨h1, h2 ▸ Chg.refl _ _⟩))).mono ?_; rintro e w4 ⟨he, hc4⟩; rw [show names.any (fun s => s == nm || K.contains s) = true from HDB.out K HMK.out] at he; subst he; have hc5 := (HA1.out.trans (HC3.out.trans (HAL.out.trans hc4 (fun _ _ h => h)) (fun _ _ h => h)) (fun _ _ h => h)); have hown5 := hc5.owns HOWN.out (fun _ _ h => h); have HC5 := hid hc5; clear hc4 hc5) | (refine wpList_append_new rfl _ _ 31 rfl elInt hown5 rfl _ 1 1 rfl rfl rfl (by unfold maxLen; omega) (by omega) (by decide) ?_; intro g6 cap6 w6 hown6 hch6 hg6))
          go_roundw
          case rel =>
            refine ⟨k + 1, _, rfl, by omega, by go_num, (HC.out.trans HC5.out (fun _ _ h => h)).trans hch6 (fun q hq h => absurd (HBL.out q h) (by omega)), ?_, fun q hq => ?_⟩
            · rw [HSN.out]
              simpa using hown6
            · simp [Value.ownBlock] at hq
              subst hq
              rcases hg6 with h | h
              · exact HBL.out _ h
              · have := HC.out.size; have := HC5.out.size; omega
          case measure => simp [intOf]; omega
      · obtain rfl : k = g.acts.length := by omega
        go_wp2_with fail
        go_ret
        exact ⟨HW2.out.trans HC.out (fun _ _ h => h), v, rfl, HOWN.out⟩
  · have hr : dirtyOf g names = [] := by unfold dirtyOf; rw [if_neg hz]
    have hwv2 : Calls Tryd.prog 23 #[.agg #[.slice oa g.srcs.length c, .slice ob g.acts.length d]] (w.alloc (.cells #[.slice oa g.srcs.length c, .slice ob g.acts.length d] 25)) (Rets (.tuple #[.pointer none, .int .i64 (checkR g)]) (Chg (fun _ => False) (w.alloc (.cells #[.slice oa g.srcs.length c, .slice ob g.acts.length d] 25)))) :=
      hwv.mono (fun e w' ⟨h1, h2⟩ => by
        rcases h2 with ⟨h3, _⟩ | ⟨_, h3⟩
        · exact absurd h3 hz
        · exact ⟨h3, h1⟩)
    have hne : ((checkR g : Int) == 0) = false := by simp; omega
    have hne2 : ¬ (checkR g : Int) = 0 := by omega
    rw [hr]
    clear hz hr hwv hs ha hg hns
    generalize checkR g = n at *
    go_enter Tryd.func19, Tryd.ntmps19
    go_wp2_with (go_at_call 23; refine hwv2.mono ?_; rintro e w2 ⟨rfl, hc2⟩)
    go_ret
    exact ⟨hC1.trans hc2 (fun _ _ h => h), _, rfl, World.ownsRow_nil _ _ _ _⟩
end Go.Proofs.YtafdcmhckpdnbaaDoor
