/- Texts of the proof, one behind the other: trellis.Needs, Dirty walked; trellis.Dirty walked; apiaryref07.IsName, apiaryref01.Same walked; apiaryref07.Code walked; apiaryref07.good walked; apiaryref07.Print walked; apiarylaw08: action, in; apiaryref08.Ints walked; Actions in a row of the call's own, names in such a row: read as a build's; What an action more does to a build, in plain words. No program in sight. -/
import Derived.Test.YthglfmacjoecgaaGreatDoorMg12
import Derived.Test.YthglfmacjoecgaaGreatDoorMg04
namespace Go.Proofs.YthglfmacjoecgaaGreatDoor
open Go.RowKit

/-- Needs' answer. -/
def needsOf (g : GrR) (s : Nm) : List Nm := if checkR g = 0 then (match placeOf g s with | some i => needsR g i | none => []) else []
def NmsPost (w : World) (l : List Nm) (e : Ending) (w' : World) : Prop := Chg (fun _ => False) w w' ∧ ∃ v, e = .returned v ∧ w'.ownsRow 0 9 1 v l.length (l.map nmV)
theorem name_le {g : GrR} (hw : Wov g) {s : Nm} (hs : s ∈ namesL g) : s.length ≤ 8 := by
  have h := (grOK_iff g).1 hw.ok
  rcases mem_names.1 hs with h1 | ⟨i, hi, rfl⟩
  · exact (nameL_let (h.2.2.1 s h1)).2.1
  · rw [nameAt_lt g i hi]
    exact (nameL_let ((actOK_iff _).1 (h.2.2.2 _ (List.getElem_mem hi))).1).2.1

set_option maxRecDepth 100000 in
set_option maxHeartbeats 4000000 in
theorem tneeds_any (g : GrR) (s : Nm) (v : Value) (w : World) (hg : GrAt w v g) : Calls Tryz.prog 51 #[v, .string (bs s)] w (NmsPost w (needsOf g s)) := by
  obtain ⟨oa, c, ob, d, iv, rfl, hs, ha⟩ := hg.form
  have hC1 : Chg (fun _ => False) w (w.alloc (.cells #[.slice oa g.srcs.length c, .slice ob g.acts.length d] 25)) := (Chg.refl _ w).alloc _
  have hwv := checked_any g _ _ (hg.chg hC1 (fun _ _ h => h))
  unfold CheckedPost at hwv
  clear hs ha hg
  by_cases hz : checkR g = 0
  · have hcan := can_iff.1 hz
    have hwv2 : Calls Tryz.prog 73 #[.agg #[.slice oa g.srcs.length c, .slice ob g.acts.length d]] (w.alloc (.cells #[.slice oa g.srcs.length c, .slice ob g.acts.length d] 25)) (fun e w' => ∃ b, e = .returned (.tuple #[.pointer (some ⟨b, 0, none⟩), .int .i64 0]) ∧ Chg (fun _ => False) (w.alloc (.cells #[.slice oa g.srcs.length c, .slice ob g.acts.length d] 25)) w' ∧ IsWeb w' b g) :=
      hwv.mono (fun e w' ⟨h1, h2⟩ => by
        rcases h2 with ⟨_, b, h3, h4⟩ | ⟨h3, _⟩
        · exact ⟨b, h3, h1, h4⟩
        · exact absurd hz h3)
    have HCAN := hid hcan
    cases hp : placeOf g s with
    | none =>
      have hr : needsOf g s = [] := by unfold needsOf; rw [if_pos hz, hp]
      have HP := hid hp
      rw [hr]
      clear hz hr hwv hcan hp
      by_cases hsrc : s ∈ g.srcs
      · have hav : atV g s = some (-1) := by unfold atV; rw [HP.out]; simp [hsrc]
        have HAV := hid hav
        clear hav hsrc
        go_enter Tryz.func51, Tryz.ntmps51
        go_wp2_with (first | (go_at_call 73; refine hwv2.mono ?_; rintro e w2 ⟨b, rfl, hc2, ⟨sv, av, iv2, r, lm, hb2⟩⟩; have HB2 := hid hb2; have d2 := cell_of hb2.blk 2; clear hb2; simp at d2; have HV : Hid (((lval s lm).map intV).getD (.int .i64 0) = .int .i64 (-1)) := hid (by rw [HB2.out.look, HAV.out]; rfl); have HV2 : Hid ((lval s lm).isSome = true) := hid (by rw [HB2.out.look, HAV.out]; rfl)) | (at_lookup; refine wpList_lookup_ok rfl _ _ 148 rfl keyNm Tryz.underlying148 (zeroI _) HB2.out.map rfl s rfl _ HV.out true HV2.out ?_))
        go_ret
        exact ⟨hC1.trans hc2 (fun _ _ h => h), _, rfl, World.ownsRow_nil _ _ _ _⟩
      · have hav : atV g s = none := by unfold atV; rw [HP.out]; simp [hsrc]
        have HAV := hid hav
        clear hav hsrc
        go_enter Tryz.func51, Tryz.ntmps51
        go_wp2_with (first | (go_at_call 73; refine hwv2.mono ?_; rintro e w2 ⟨b, rfl, hc2, ⟨sv, av, iv2, r, lm, hb2⟩⟩; have HB2 := hid hb2; have d2 := cell_of hb2.blk 2; clear hb2; simp at d2; have HV : Hid (((lval s lm).map intV).getD (.int .i64 0) = .int .i64 0) := hid (by rw [HB2.out.look, HAV.out]; rfl); have HV2 : Hid ((lval s lm).isSome = false) := hid (by rw [HB2.out.look, HAV.out]; rfl)) | (at_lookup; refine wpList_lookup_ok rfl _ _ 148 rfl keyNm Tryz.underlying148 (zeroI _) HB2.out.map rfl s rfl _ HV.out false HV2.out ?_))
        go_ret
        exact ⟨hC1.trans hc2 (fun _ _ h => h), _, rfl, World.ownsRow_nil _ _ _ _⟩
    | some i =>
      have hr : needsOf g s = needsR g i := by unfold needsOf; rw [if_pos hz, hp]
      have hi := (placeOf_some hp).1
      have hav : atV g s = some (i : Int) := by unfold atV; rw [hp]
      have HAV := hid hav
      have HI := hid hi
      have hi0 : ¬ (i : Int) < 0 := by omega
      rw [hr]
      clear hz hr hwv hcan hp hav hi
      go_enter Tryz.func51, Tryz.ntmps51
      go_wp2_with (first | (go_at_call 73; refine hwv2.mono ?_; rintro e w2 ⟨b, rfl, hc2, ⟨sv, av, iv2, r, lm, hb2⟩⟩; have HB2 := hid hb2; have d2 := cell_of hb2.blk 2; clear hb2; simp at d2; have HV : Hid (((lval s lm).map intV).getD (.int .i64 0) = .int .i64 i) := hid (by rw [HB2.out.look, HAV.out]; rfl); have HV2 : Hid ((lval s lm).isSome = true) := hid (by rw [HB2.out.look, HAV.out]; rfl)) | (at_lookup; refine wpList_lookup_ok rfl _ _ 148 rfl keyNm Tryz.underlying148 (zeroI _) HB2.out.map rfl s rfl _ HV.out true HV2.out ?_) | (go_at_call 74; refine (needs_any g HCAN.out.w i HI.out w2 b ⟨sv, av, iv2, r, lm, HB2.out⟩).mono ?_; rintro e w3 ⟨hc3, r3, K, rfl, hr3, hs3, hnd, hlK, hmK⟩; have HS3 := hid hs3; have HND := hid hnd; have HLK := hid hlK; have HMK := hid hmK; have HC3 := hid hc3; clear hs3 hnd hlK hmK hc3 hr3) | (go_at_call 87; refine (keys_any _ _).mono ?_; rintro e w4 ⟨rfl, rfl⟩) | (go_at_call 86; refine (sorted_any r3 K (needsR g i) w3 HS3.out (fun t ht => by have := name_le HCAN.out.w (((HMK.out t).1 ht).names HCAN.out.w HI.out); unfold maxLen; omega) (by have := HLK.out; omega) HND.out (needsR_rise g i) (fun t => (HMK.out t).trans (HCAN.out.mem_needs HI.out).symm)).mono ?_; rintro e w5 ⟨v5, rfl, hown5, hc5⟩))
      go_ret
      exact ⟨((hC1.trans hc2 (fun _ _ h => h)).trans HC3.out (fun _ _ h => h)).trans hc5 (fun _ _ h => h), v5, rfl, hown5⟩
  · have hr : needsOf g s = [] := by unfold needsOf; rw [if_neg hz]
    have hwv2 : Calls Tryz.prog 73 #[.agg #[.slice oa g.srcs.length c, .slice ob g.acts.length d]] (w.alloc (.cells #[.slice oa g.srcs.length c, .slice ob g.acts.length d] 25)) (Rets (.tuple #[.pointer none, .int .i64 (checkR g)]) (Chg (fun _ => False) (w.alloc (.cells #[.slice oa g.srcs.length c, .slice ob g.acts.length d] 25)))) :=
      hwv.mono (fun e w' ⟨h1, h2⟩ => by
        rcases h2 with ⟨h3, _⟩ | ⟨_, h3⟩
        · exact absurd h3 hz
        · exact ⟨h3, h1⟩)
    have hne : ((checkR g : Int) == 0) = false := by simp; omega
    have hne2 : ¬ (checkR g : Int) = 0 := by omega
    rw [hr]
    clear hz hr hwv
    generalize checkR g = n at *
    go_enter Tryz.func51, Tryz.ntmps51
    go_wp2_with (go_at_call 73; refine hwv2.mono ?_; rintro e w2 ⟨rfl, hc2⟩)
    go_ret
    exact ⟨hC1.trans hc2 (fun _ _ h => h), _, rfl, World.ownsRow_nil _ _ _ _⟩
end Go.Proofs.YthglfmacjoecgaaGreatDoor
namespace Go.Proofs.YthglfmacjoecgaaGreatDoor
open Go.RowKit

set_option maxRecDepth 100000 in
theorem hit_any (s nm : Nm) (K : List Nm) (w : World) (ba bn r : Nat) (ha : w.cell? ⟨ba, 0, none⟩ = some (.string (bs nm))) (hn : w.cell? ⟨bn, 0, none⟩ = some (.map (some r))) (hs : SetAt w r K) :
    Calls Tryz.prog 75 #[.string (bs s), .pointer (some ⟨ba, 0, none⟩), .pointer (some ⟨bn, 0, none⟩)] w (Rets (.bool (s == nm || K.contains s)) (fun w' => w = w')) := by
  have hval := setL_val s K
  have hv2 : ((lval s (setL K)).map boolV).getD (.bool false) = .bool (K.contains s) := by
    rw [← hval]; cases lval s (setL K) <;> rfl
  have hmp := hs.map
  have HMP := hid hmp
  by_cases h : s = nm
  · have hr : (s == nm || K.contains s) = true := by simp [h]
    rw [hr]
    subst h
    clear hval hv2 hmp hs hr
    go_enter Tryz.func75, Tryz.ntmps75
    go_wp2_with fail
    go_ret
    exact ⟨rfl, rfl⟩
  · have hr : (s == nm || K.contains s) = K.contains s := by simp [h]
    have hb2 : ¬ (bs s).toList = (bs nm).toList := by rw [Lib.toList_data, Lib.toList_data, bs_data, bs_data]; exact h
    rw [hr]
    generalize K.contains s = B at *
    have HV := hid hv2
    clear hval hv2 hmp hs hr h
    go_enter Tryz.func75, Tryz.ntmps75
    go_wp2_with (at_lookup; refine wpList_lookup_w (by simp [Region.wanted, yielded, hb2]) _ _ 139 rfl keyNm Tryz.underlying139 (zeroB _) HMP.out rfl s rfl _ HV.out ?_)
    go_ret
    exact ⟨by simp [hb2], rfl⟩
theorem hit_dirty {g : GrR} (h : Can g) (names : List Nm) {i : Nat} (hi : i < g.acts.length) {K : List Nm} (hK : ∀ s, s ∈ K ↔ Needs g i s) : names.any (fun s => s == nameAt g i || K.contains s) = dirtyB g names i := by
  unfold dirtyB
  congr 1
  funext s
  congr 1
  rw [Bool.eq_iff_iff]
  simp only [List.contains_iff_mem]
  rw [hK s, h.mem_needs hi]
/-- Dirty's answer. -/
def dirtyOf (g : GrR) (names : List Nm) : List Nat := if checkR g = 0 then dirtyR g names else []
theorem range_snoc (g : GrR) (names : List Nm) (k : Nat) : ((List.range (k + 1)).filter (dirtyB g names)) = (List.range k).filter (dirtyB g names) ++ (if dirtyB g names k then [k] else []) := by
  rw [List.range_succ, List.filter_append]
  congr 1
  by_cases h : dirtyB g names k <;> simp [h]

set_option maxRecDepth 100000 in
set_option maxHeartbeats 4000000 in
theorem tdirty_any (g : GrR) (names : List Nm) (v nv : Value) (w : World) (hg : GrAt w v g) (hns : NamesAt w nv names) : Calls Tryz.prog 36 #[v, nv] w (IntsPost w (dirtyOf g names)) := by
  obtain ⟨oa, c, ob, d, iv, rfl, hs, ha⟩ := hg.form
  have hC1 : Chg (fun _ => False) w (w.alloc (.cells #[.slice oa g.srcs.length c, .slice ob g.acts.length d] 25)) := (Chg.refl _ w).alloc _
  have hwv := checked_any g _ _ (hg.chg hC1 (fun _ _ h => h))
  unfold CheckedPost at hwv
  by_cases hz : checkR g = 0
  · have hcan := can_iff.1 hz
    have hwv2 : Calls Tryz.prog 73 #[.agg #[.slice oa g.srcs.length c, .slice ob g.acts.length d]] (w.alloc (.cells #[.slice oa g.srcs.length c, .slice ob g.acts.length d] 25)) (fun e w' => ∃ b, e = .returned (.tuple #[.pointer (some ⟨b, 0, none⟩), .int .i64 0]) ∧ Chg (fun _ => False) (w.alloc (.cells #[.slice oa g.srcs.length c, .slice ob g.acts.length d] 25)) w' ∧ IsWeb w' b g) :=
      hwv.mono (fun e w' ⟨h1, h2⟩ => by
        rcases h2 with ⟨_, b, h3, h4⟩ | ⟨h3, _⟩
        · exact ⟨b, h3, h1, h4⟩
        · exact absurd hz h3)
    have hr : dirtyOf g names = dirtyR g names := by unfold dirtyOf; rw [if_pos hz]
    have hgb : (w.alloc (.cells #[.slice oa g.srcs.length c, .slice ob g.acts.length d] 25)).heap[w.heap.size]? = some (.cells #[.slice oa g.srcs.length c, .slice ob g.acts.length d] 25 (0, 0)) := heap_alloc_new' w _
    have hlenA := ha.len
    have hn12 := hcan.w.acts12
    have HCAN := hid hcan
    have HA := hid ha
    have HNS := hid hns
    have HG := hid hgb
    rw [hr]
    clear hs ha hg hz hr hwv hcan hns hgb
    go_enter Tryz.func36, Tryz.ntmps36
    go_wp2_with (go_at_call 73; refine hwv2.mono ?_; rintro e w2 ⟨b, rfl, hc2, hb2⟩; have HB2 := hid hb2; have HC2 := hid hc2; have k1 := cell_of (hc2.obj HG.out (fun h => h)) 1; simp at k1; clear hb2 hc2)
    have HW2 : Hid (Chg (fun _ => False) w w2) := hid (hC1.trans HC2.out (fun _ _ h => h))
    clear k1 hwv2 hC1 HC2 HG
    go_loopw [4, 20] (fun v i wr => ∃ (k : Nat) (x : Value), x = v ∧ k ≤ g.acts.length ∧ i = .int .i64 k ∧ Chg (fun _ => False) w2 wr ∧ wr.ownsRow 0 3 1 x ((List.range k).filter (dirtyB g names)).length (((List.range k).filter (dirtyB g names)).map natV) ∧ (∀ q, x.ownBlock = some q → w2.heap.size ≤ q)) (fun _ i _ => g.acts.length - (intOf i).toNat)
    case atStart => exact ⟨0, _, rfl, Nat.zero_le _, rfl, Chg.refl _ _, World.ownsRow_nil _ _ _ _, (fun q h => by cases h)⟩
    case round =>
      obtain ⟨k, v, hv, hk, rfl, hch, hown, hbl⟩ := hrel
      subst hv
      have HC := hid hch
      have HOWN := hid hown
      have HBL := hid hbl
      clear hown hbl
      by_cases hkn : k < g.acts.length
      · have hkn' : (k : Int) < g.acts.length := by omega
        obtain ⟨bb, oo, hix, hlt, e0, e1, e2, hnsk, hw1, hw2⟩ := (HA.out.chg (HW2.out.trans hch (fun _ _ h => h)) (fun _ _ h => h)).at k hkn
        obtain ⟨oi, ci, hiv⟩ := hnsk.form
        rw [hiv] at e1
        have hnmk := nameAt_lt g k hkn
        have hfl : ((List.range k).filter (dirtyB g names)).length ≤ k := by
          have := List.length_filter_le (dirtyB g names) (List.range k)
          simpa using this
        have hsn := range_snoc g names k
        have HSN := hid hsn
        have HNMK := hid hnmk
        have HKN := hid hkn
        have hA : Chg (fun _ => False) wr (wr.alloc (.cells #[.string (bs g.acts[k].name), .slice oi g.acts[k].ins.length ci, .string (bs g.acts[k].code)] 43)) := (Chg.refl _ wr).alloc _
        have kA := heap_alloc_new' wr (.cells #[.string (bs g.acts[k].name), .slice oi g.acts[k].ins.length ci, .string (bs g.acts[k].code)] 43)
        have HA1 := hid hA
        have HKA := hid kA
        clear hiv hnsk hw1 hw2 hA kA hsn hnmk hch
        generalize g.acts[k].ins.length = ni at *
        generalize bs g.acts[k].code = cd at *
        generalize ((List.range k).filter (dirtyB g names)) = fl at *
        generalize hnm : g.acts[k].name = nm at *
        have HNM := hid hnm
        clear hnm
        have HDB : Hid (∀ K : List Nm, (∀ s, s ∈ K ↔ Needs g k s) → names.any (fun s => s == nm || K.contains s) = dirtyB g names k) := by
          intro K hK
          have := hit_dirty HCAN.out names HKN.out hK
          rw [HNMK.out] at this
          exact this
        generalize dirtyB g names k = B at HSN HDB
        cases B with
        | false =>
          go_wp2_with (first | (go_at_call 74; refine (needs_any g HCAN.out.w k HKN.out _ b (HB2.out.chg (HC.out.trans HA1.out (fun _ _ h => h)) (fun _ _ h => h))).mono ?_; rintro e w3 ⟨hc3, r3, K, rfl, hr3, hs3, hnd, hlK, hmK⟩; have HC3 := hid hc3; have HS3 := hid hs3; have HMK := hid hmK; have hal : Chg (fun _ => False) w3 (w3.alloc (.cells #[.map (some r3)] 139)) := (Chg.refl _ w3).alloc _; have HAL := hid hal; have HKL := hid (heap_alloc_new' w3 (.cells #[.map (some r3)] 139)); clear hc3 hs3 hmK hnd hlK hr3 hal) | (go_at_call 57; refine (cfs_hit (some ⟨wr.heap.size, 0, none⟩) (some ⟨w3.heap.size, 0, none⟩) (fun s => s == nm || K.contains s) nv names _ (HNS.out.chg ((((HW2.out.trans HC.out (fun _ _ h => h)).trans HA1.out (fun _ _ h => h)).trans HC3.out (fun _ _ h => h)).trans HAL.out (fun _ _ h => h)) (fun _ _ h => h)) (fun s _ W hW => (hit_any s nm K W wr.heap.size w3.heap.size r3 (cell_of (hW.obj (HAL.out.obj (HC3.out.obj HKA.out (fun h => h)) (fun h => h)) (fun h => h)) 0) (cell_of (hW.obj HKL.out (fun h => h)) 0) (HS3.out.chg (HAL.out.trans hW (fun _ _ h => h)) (fun h => h))).mono (fun e w' ⟨h1, h2⟩ => ⟨h1, h2 ▸ Chg.refl _ _⟩))).mono ?_; rintro e w4 ⟨he, hc4⟩; rw [show names.any (fun s => s == nm || K.contains s) = false from HDB.out K HMK.out] at he; subst he; have hc5 := (HA1.out.trans (HC3.out.trans (HAL.out.trans hc4 (fun _ _ h => h)) (fun _ _ h => h)) (fun _ _ h => h)); have hown5 := hc5.owns HOWN.out (fun _ _ h => h); have HC5 := hid hc5; clear hc4 hc5))
          go_roundw
          case rel => exact ⟨k + 1, v, rfl, by omega, by go_num, HC.out.trans HC5.out (fun _ _ h => h), (by rw [HSN.out]; simpa using hown5), HBL.out⟩
          case measure => simp [intOf]; omega
        | true =>
          go_wp2_with (first | (go_at_call 74; refine (needs_any g HCAN.out.w k HKN.out _ b (HB2.out.chg (HC.out.trans HA1.out (fun _ _ h => h)) (fun _ _ h => h))).mono ?_; rintro e w3 ⟨hc3, r3, K, rfl, hr3, hs3, hnd, hlK, hmK⟩; have HC3 := hid hc3; have HS3 := hid hs3; have HMK := hid hmK; have hal : Chg (fun _ => False) w3 (w3.alloc (.cells #[.map (some r3)] 139)) := (Chg.refl _ w3).alloc _; have HAL := hid hal; have HKL := hid (heap_alloc_new' w3 (.cells #[.map (some r3)] 139)); clear hc3 hs3 hmK hnd hlK hr3 hal) | (go_at_call 57; refine (cfs_hit (some ⟨wr.heap.size, 0, none⟩) (some ⟨w3.heap.size, 0, none⟩) (fun s => s == nm || K.contains s) nv names _ (HNS.out.chg ((((HW2.out.trans HC.out (fun _ _ h => h)).trans HA1.out (fun _ _ h => h)).trans HC3.out (fun _ _ h => h)).trans HAL.out (fun _ _ h => h)) (fun _ _ h => h)) (fun s _ W hW => (hit_any s nm K W wr.heap.size w3.heap.size r3 (cell_of (hW.obj (HAL.out.obj (HC3.out.obj HKA.out (fun h => h)) (fun h => h)) (fun h => h)) 0) (cell_of (hW.obj HKL.out (fun h => h)) 0) (HS3.out.chg (HAL.out.trans hW (fun _ _ h => h)) (fun h => h))).mono (fun e w' ⟨h1, h2⟩ => ⟨h1, h2 ▸ Chg.refl _ _⟩))).mono ?_; rintro e w4 ⟨he, hc4⟩; rw [show names.any (fun s => s == nm || K.contains s) = true from HDB.out K HMK.out] at he; subst he; have hc5 := (HA1.out.trans (HC3.out.trans (HAL.out.trans hc4 (fun _ _ h => h)) (fun _ _ h => h)) (fun _ _ h => h)); have hown5 := hc5.owns HOWN.out (fun _ _ h => h); have HC5 := hid hc5; clear hc4 hc5) | (refine wpList_append_new rfl _ _ 75 rfl elInt hown5 rfl _ 1 1 rfl rfl rfl (by unfold maxLen; omega) (by omega) (by decide) ?_; intro g6 cap6 w6 hown6 hch6 hg6))
          go_roundw
          case rel =>
            refine ⟨k + 1, _, rfl, by omega, by go_num, (HC.out.trans HC5.out (fun _ _ h => h)).trans hch6 (fun q hq h => absurd (HBL.out q h) (by omega)), ?_, fun q hq => ?_⟩
            · rw [HSN.out]
              simpa using hown6
            · simp [Value.ownBlock] at hq
              subst hq
              rcases hg6 with h | h
              · exact HBL.out _ h
              · have := HC.out.size; have := HC5.out.size; omega
          case measure => simp [intOf]; omega
      · obtain rfl : k = g.acts.length := by omega
        go_wp2_with fail
        go_ret
        exact ⟨HW2.out.trans HC.out (fun _ _ h => h), v, rfl, HOWN.out⟩
  · have hr : dirtyOf g names = [] := by unfold dirtyOf; rw [if_neg hz]
    have hwv2 : Calls Tryz.prog 73 #[.agg #[.slice oa g.srcs.length c, .slice ob g.acts.length d]] (w.alloc (.cells #[.slice oa g.srcs.length c, .slice ob g.acts.length d] 25)) (Rets (.tuple #[.pointer none, .int .i64 (checkR g)]) (Chg (fun _ => False) (w.alloc (.cells #[.slice oa g.srcs.length c, .slice ob g.acts.length d] 25)))) :=
      hwv.mono (fun e w' ⟨h1, h2⟩ => by
        rcases h2 with ⟨h3, _⟩ | ⟨_, h3⟩
        · exact absurd h3 hz
        · exact ⟨h3, h1⟩)
    have hne : ((checkR g : Int) == 0) = false := by simp; omega
    have hne2 : ¬ (checkR g : Int) = 0 := by omega
    rw [hr]
    clear hz hr hwv hs ha hg hns
    generalize checkR g = n at *
    go_enter Tryz.func36, Tryz.ntmps36
    go_wp2_with (go_at_call 73; refine hwv2.mono ?_; rintro e w2 ⟨rfl, hc2⟩)
    go_ret
    exact ⟨hC1.trans hc2 (fun _ _ h => h), _, rfl, World.ownsRow_nil _ _ _ _⟩
end Go.Proofs.YthglfmacjoecgaaGreatDoor
namespace Go.Proofs.YthglfmacjoecgaaGreatDoor
open Go.RowKit

theorem beq_dec (a b : List UInt8) : (a == b) = decide (a = b) := by by_cases h : a = b <;> simp [h]
def Ans (P : Prop) (w : World) (e : Ending) (w' : World) : Prop := ∃ B : Bool, e = .returned (.bool B) ∧ (B = true ↔ P) ∧ Chg (fun _ => False) w w'
theorem bs_eq (a b : List UInt8) : ((bs a).toList == (bs b).toList) = decide (a = b) := by
  rw [Lib.toList_data, Lib.toList_data, bs_data, bs_data]
  exact beq_dec a b


set_option maxRecDepth 100000 in
set_option maxHeartbeats 4000000 in
theorem rname_any (s : ByteArray) (hs : s.size ≤ maxLen) (w : World) : Calls Tryz.prog 159 #[.string s] w (Rets (.bool (nameL s.data.toList)) (fun w' => w = w')) := by
  have hsl : s.data.toList.length = s.size := (Lib.size_eq s).symm
  unfold maxLen at hs
  by_cases h1 : s.size < 1
  · have h1' : (s.size : Int) < 1 := by omega
    have hr : nameL s.data.toList = false := by unfold nameL; rw [hsl]; simp; omega
    rw [hr]
    clear hsl hr
    go_enter Tryz.func159, Tryz.ntmps159
    go_wp2_with fail
    go_ret
    exact ⟨rfl, rfl⟩
  · have h1' : ¬ (s.size : Int) < 1 := by omega
    have d1 : decide ((s.size : Int) < 1) = false := decide_eq_false h1'
    by_cases h8 : 8 < s.size
    · have h8' : (8 : Int) < (s.size : Int) := by omega
      have hr : nameL s.data.toList = false := by unfold nameL; rw [hsl]; simp; omega
      rw [hr]
      clear hsl hr
      go_enter Tryz.func159, Tryz.ntmps159
      go_wp2_with fail
      go_ret
      exact ⟨rfl, rfl⟩
    · have h8' : ¬ (8 : Int) < (s.size : Int) := by omega
      have d8 : decide ((8 : Int) < (s.size : Int)) = false := decide_eq_false h8'
      have hr : nameL s.data.toList = s.data.toList.all letB := by unfold nameL; rw [hsl]; simp; omega
      have HR := hid hr
      have HSL := hid hsl
      obtain ⟨R, hR⟩ : ∃ R, R = nameL s.data.toList := ⟨_, rfl⟩
      rw [← hR]
      rw [hr] at hR
      have HRR := hid hR
      clear hsl hr hR
      go_enter Tryz.func159, Tryz.ntmps159
      go_wp2_with fail
      go_loop [3] (fun i => ∃ k : Nat, k ≤ s.size ∧ i = .int .i64 k ∧ ∀ j (h : j < s.size), j < k → letB s[j] = true) (fun i => s.size - (intOf i).toNat)
      case atStart => exact ⟨0, Nat.zero_le _, rfl, fun j _ h => absurd h (Nat.not_lt_zero _)⟩
      case round =>
        obtain ⟨k, hk, rfl, hall⟩ := hrel
        have HA := hid hall
        clear hall
        by_cases hkn : k < s.size
        · have hkn' : (k : Int) < s.size := by omega
          have cls : (decide ((97 : Int) ≤ ((s[k]'hkn).toNat : Int)) = true ∧ decide (((s[k]'hkn).toNat : Int) ≤ 122) = true ∧ decide ((48 : Int) ≤ ((s[k]'hkn).toNat : Int)) = true ∧ decide (((s[k]'hkn).toNat : Int) ≤ 57) = false ∧ letB (s[k]'hkn) = true) ∨ (decide ((97 : Int) ≤ ((s[k]'hkn).toNat : Int)) = true ∧ decide (((s[k]'hkn).toNat : Int) ≤ 122) = false ∧ decide ((48 : Int) ≤ ((s[k]'hkn).toNat : Int)) = true ∧ decide (((s[k]'hkn).toNat : Int) ≤ 57) = false ∧ letB (s[k]'hkn) = false) ∨ (decide ((97 : Int) ≤ ((s[k]'hkn).toNat : Int)) = false ∧ decide (((s[k]'hkn).toNat : Int) ≤ 122) = true ∧ decide ((48 : Int) ≤ ((s[k]'hkn).toNat : Int)) = true ∧ decide (((s[k]'hkn).toNat : Int) ≤ 57) = true ∧ letB (s[k]'hkn) = true) ∨ (decide ((97 : Int) ≤ ((s[k]'hkn).toNat : Int)) = false ∧ decide (((s[k]'hkn).toNat : Int) ≤ 122) = true ∧ decide ((48 : Int) ≤ ((s[k]'hkn).toNat : Int)) = true ∧ decide (((s[k]'hkn).toNat : Int) ≤ 57) = false ∧ letB (s[k]'hkn) = false) ∨ (decide ((97 : Int) ≤ ((s[k]'hkn).toNat : Int)) = false ∧ decide (((s[k]'hkn).toNat : Int) ≤ 122) = true ∧ decide ((48 : Int) ≤ ((s[k]'hkn).toNat : Int)) = false ∧ decide (((s[k]'hkn).toNat : Int) ≤ 57) = true ∧ letB (s[k]'hkn) = false) := by
            unfold letB
            simp only [decide_eq_true_eq, decide_eq_false_iff_not, Bool.or_eq_true, Bool.or_eq_false_iff, Bool.and_eq_true, Bool.and_eq_false_iff]
            omega
          rcases cls with ⟨e97, e122, e48, e57, hB⟩ | ⟨e97, e122, e48, e57, hB⟩ | ⟨e97, e122, e48, e57, hB⟩ | ⟨e97, e122, e48, e57, hB⟩ | ⟨e97, e122, e48, e57, hB⟩
          all_goals have HB := hid hB
          all_goals clear hB
          all_goals go_wp2_with fail
          all_goals first
            | (go_ret
               refine ⟨?_, rfl⟩
               have : R = false := by
                 rw [HRR.out, Bool.eq_false_iff]
                 intro h
                 have h2 := List.all_eq_true.1 h (s[k]'hkn) (by rw [ByteArray.getElem_eq_getElem_data, ← Array.getElem_toList]; exact List.getElem_mem _)
                 rw [HB.out] at h2
                 exact Bool.false_ne_true h2
               rw [this] <;> rfl)
            | skip
          all_goals go_round
          all_goals first
            | (refine ⟨k + 1, by omega, by go_num, fun j hj hjk => ?_⟩
               by_cases e : j = k
               · subst e; exact HB.out
               · exact HA.out j hj (by omega))
            | (simp [intOf]; omega)
        · obtain rfl : k = s.size := by omega
          go_wp2_with fail
          go_ret
          refine ⟨?_, rfl⟩
          have : R = true := by
            rw [HRR.out, List.all_eq_true]
            intro x hx
            obtain ⟨j, hj, e⟩ := List.mem_iff_getElem.1 hx
            have hj' : j < s.size := by rw [← HSL.out]; exact hj
            have h2 := HA.out j hj' hj'
            have e2 : s[j] = x := by rw [← e]; simp [ByteArray.getElem_eq_getElem_data]
            rw [← e2]; exact h2
          rw [this] <;> rfl

end Go.Proofs.YthglfmacjoecgaaGreatDoor
namespace Go.Proofs.YthglfmacjoecgaaGreatDoor
open Go.RowKit

theorem u8_div (x : UInt8) : IntKind.u8.wrap ((x.toNat : Int) / 16) = (x.toNat : Int) / 16 := by
  have key : ∀ n : Fin 256, IntKind.u8.wrap ((n.1 : Int) / 16) = (n.1 : Int) / 16 := by decide +kernel
  exact key ⟨x.toNat, x.toNat_lt⟩
theorem u8_mod (x : UInt8) : (x.toNat : Int).tmod 16 = (x.toNat : Int) % 16 := Int.tmod_eq_emod_of_nonneg (by omega)

set_option maxRecDepth 100000 in
set_option maxHeartbeats 2000000 in
theorem rword_any (c : List UInt8) (hc : c.length ≤ 64) (w : World) : Calls Tryz.prog 140 #[.string (bs c)] w (Rets (.string (bs (wordL c))) (Chg (fun _ => False) w)) := by
  have hsz := bs_size c
  by_cases h0 : c = []
  · subst h0
    have e0 : (bs []).toList.isEmpty = true := by rw [ba_isEmpty]; rfl
    go_enter Tryz.func140, Tryz.ntmps140
    go_wp2
    go_ret
    exact ⟨rfl, Chg.refl _ _⟩
  · have hp : 0 < c.length := List.length_pos_iff.2 h0
    have e0 : (bs c).toList.isEmpty = false := by rw [ba_isEmpty, hsz]; simp; omega
    have hwl : wordL c = hex2 c := by unfold wordL; rw [if_neg h0]; rfl
    have hcc : ∀ k (h : k < c.length), (bs c)[k]'(by rw [hsz]; exact h) = c[k] := fun k h => by simp [bs, ByteArray.getElem_eq_getElem_data]
    have hown0 := owns_new w [] 5 1 0 rfl (by unfold maxLen; omega)
    have hc0 : Chg (fun _ => False) w (w.alloc (.cells #[] 5)) := (Chg.refl _ w).alloc _
    have hs0 : w.heap.size ≤ w.heap.size := Nat.le_refl _
    rw [hwl]
    have HCC : Hid (∃ hz : (bs c).size = c.length, ∀ k (h : k < c.length), (bs c)[k]'(by rw [hz]; exact h) = c[k]) := ⟨hsz, hcc⟩
    have HO := hid hown0
    have HC0 := hid hc0
    clear hwl h0 hcc hown0 hc0
    generalize bs c = sc at *
    go_enter Tryz.func140, Tryz.ntmps140
    go_wp2_with fail
    go_loopw [3, 4] (fun ov iv wr => ∃ k : Nat, k ≤ c.length ∧ iv = .int .i64 k ∧ wr.ownsRow 0 5 1 ov (2 * k) ((hex2 (c.take k)).map encB) ∧ (∀ b, ov.ownBlock = some b → w.heap.size ≤ b) ∧ Chg (fun k => w.heap.size ≤ k) w wr) (fun _ iv _ => c.length - (intOf iv).toNat)
    case atStart => exact ⟨0, Nat.zero_le _, rfl, by simpa [hex2] using HO.out, by simp [Value.ownBlock], (HC0.out).mono (fun _ _ h => h.elim)⟩
    case round =>
      obtain ⟨k, hk, rfl, hown, hov, hw⟩ := hrel
      have HW := hid hw
      have HV := hid hov
      clear hw hov
      by_cases hkn : k < c.length
      · have hkn' : (k : Int) < c.length := by omega
        obtain ⟨hz, hcc⟩ := HCC.out
        have hx := hcc k hkn
        have hx8 := c[k].toNat_lt
        rw [← hx] at hx8
        have q1 : (0 : Int) ≤ ((sc[k]'(by omega)).toNat : Int) / 16 := by omega
        have q2 : ((sc[k]'(by omega)).toNat : Int) / 16 < 16 := by omega
        have q3 : (0 : Int) ≤ ((sc[k]'(by omega)).toNat : Int) % 16 := by omega
        have q4 : ((sc[k]'(by omega)).toNat : Int) % 16 < 16 := by omega
        have w1 := u8_div (sc[k]'(by omega))
        have w2 := u8_mod (sc[k]'(by omega))
        have HX := hid hx
        clear hx hcc
        go_wp2_with fail
        go_region_law (refine step_append_new rfl _ _ 125 rfl elU8 hown rfl _ 2 2 rfl rfl rfl (by unfold maxLen; omega) (by omega) (by decide) ?_; intro g1 cap1 w2 hown1 hchg hg1)
        all_goals go_wp2_with fail
        all_goals go_roundw
        all_goals first
          | (simp [intOf]; omega)
          | (refine ⟨k + 1, by omega, by go_num, ?_, ?_, HW.out.trans hchg ?_⟩
             · have e1 : (2 * (k + 1)) = 2 * k + 2 := by omega
               rw [e1, hex2_take c k hkn, List.map_append, ← HX.out]
               rw [dig_at _ q1 q2, dig_at _ q3 q4] at hown1
               exact hown1
             · intro b hb
               simp [Value.ownBlock] at hb
               subst hb
               rcases hg1 with h | h
               · exact HV.out _ h
               · exact Nat.le_trans HW.out.size h
             · intro i hi h
               exact HV.out _ h)
      · obtain rfl : k = c.length := by omega
        have hcv := conv_own wr u3 (hex2 c) (by rw [hex2_len]; simpa using hown) wr (Chg.refl _ _)
        go_wp2_with fail
        go_ret
        exact ⟨rfl, HW.out.mono (fun i hi h => by have : w.heap.size ≤ i := h; omega)⟩
end Go.Proofs.YthglfmacjoecgaaGreatDoor
namespace Go.Proofs.YthglfmacjoecgaaGreatDoor
open Go.RowKit

theorem rname_bs (l : List UInt8) (hl : l.length ≤ maxLen) (B : Bool) (hB : nameL l = B) (W : World) : Calls Tryz.prog 159 #[.string (bs l)] W (Rets (.bool B) (fun w' => W = w')) := by
  have := rname_any (bs l) (by rw [bs_size]; exact hl) W
  rw [bs_data, hB] at this
  exact this

set_option maxRecDepth 100000 in
set_option maxHeartbeats 4000000 in
theorem rgood_any (g : GrR) (v : Value) (w : World) (hg : GrAt w v g) : Calls Tryz.prog 139 #[v] w (Rets (.bool (grOK g)) (Chg (fun _ => False) w)) := by
  obtain ⟨oa, c, ob, d, iv, rfl, hs, ha⟩ := hg.form
  have hms := hs.le
  have hma := ha.rows.le
  unfold maxLen at hms hma
  have hC1 : Chg (fun _ => False) w (w.alloc (.cells #[.slice oa g.srcs.length c, .slice ob g.acts.length d] 25)) := (Chg.refl _ w).alloc _
  have k1 := heap_alloc_new' w (.cells #[.slice oa g.srcs.length c, .slice ob g.acts.length d] 25)
  have HC1 := hid hC1
  have HK := hid k1
  have HS := hid hs
  have HA := hid ha
  obtain ⟨R, hR⟩ : ∃ R, R = grOK g := ⟨_, rfl⟩
  rw [← hR]
  have HF : Hid (¬ (g.srcs.length ≤ 8 ∧ g.acts.length ≤ 12 ∧ (∀ s ∈ g.srcs, nameL s = true) ∧ (∀ a ∈ g.acts, actOK a = true)) → R = false) := fun h => by
    rw [hR, Bool.eq_false_iff]; exact fun e => h ((grOK_iff g).1 e)
  have HT : Hid (g.srcs.length ≤ 8 ∧ g.acts.length ≤ 12 ∧ (∀ s ∈ g.srcs, nameL s = true) ∧ (∀ a ∈ g.acts, actOK a = true) → R = true) := fun h => by
    rw [hR]; exact (grOK_iff g).2 h
  clear hg hs ha hC1 k1 hR
  by_cases h40 : g.srcs.length ≤ 8
  · have h40' : ¬ (8 : Int) < (g.srcs.length : Int) := by omega
    have d40 : decide ((8 : Int) < (g.srcs.length : Int)) = false := decide_eq_false h40'
    by_cases h41 : g.acts.length ≤ 12
    · have h41' : ¬ (12 : Int) < (g.acts.length : Int) := by omega
      have d41 : decide ((12 : Int) < (g.acts.length : Int)) = false := decide_eq_false h41'
      go_enter Tryz.func139, Tryz.ntmps139
      go_wp2_with fail
      generalize w.alloc (.cells #[.slice oa g.srcs.length c, .slice ob g.acts.length d] 25) = W1 at *
      have c0 := cell_of HK.out 0
      have c1 := cell_of HK.out 1
      simp at c0 c1
      go_loopw [3] (fun i wr => ∃ k : Nat, k ≤ g.srcs.length ∧ i = .int .i64 k ∧ wr = W1 ∧ ∀ s ∈ g.srcs.take k, nameL s = true) (fun i _ => g.srcs.length - (intOf i).toNat)
      case atStart => exact ⟨0, Nat.zero_le _, rfl, rfl, by simp⟩
      case round =>
        obtain ⟨k, hk, rfl, rfl, hall⟩ := hrel
        have HL := hid hall
        clear hall
        by_cases hkn : k < g.srcs.length
        · have hkn' : (k : Int) < g.srcs.length := by omega
          obtain ⟨ad, hix, hadc, hadb⟩ := (HS.out.chg HC1.out (fun _ _ h => h)).ix k hkn
          have hwd := (HS.out.chg HC1.out (fun _ _ h => h)).wide _ (List.getElem_mem hkn)
          obtain ⟨B, hB⟩ : ∃ B, nameL g.srcs[k] = B := ⟨_, rfl⟩
          have hn := rname_bs _ hwd B hB
          have HB := hid hB
          have hmem := List.getElem_mem hkn
          have HM := hid hmem
          have htk : ∀ s ∈ g.srcs.take (k + 1), s ∈ g.srcs.take k ∨ s = g.srcs[k] := fun s hs => by
            rw [List.take_succ_eq_append_getElem hkn, List.mem_append] at hs
            rcases hs with h | h
            · exact .inl h
            · exact .inr (List.mem_singleton.1 h)
          have HTK := hid htk
          clear hB hmem htk hwd
          generalize bs g.srcs[k] = x at *
          cases B
          · go_wp2_with (go_at_call 159; refine (hn _).mono ?_; rintro e w9 ⟨rfl, rfl⟩)
            go_ret
            refine ⟨?_, HC1.out⟩
            rw [HF.out (fun h => Bool.false_ne_true (HB.out.symm.trans (h.2.2.1 _ HM.out)))] <;> rfl
          · go_wp2_with (go_at_call 159; refine (hn _).mono ?_; rintro e w9 ⟨rfl, rfl⟩)
            go_roundw
            case rel =>
              refine ⟨k + 1, by omega, by go_num, (by first | rfl | trivial), fun s hs => ?_⟩
              rcases HTK.out s hs with h | h
              · exact HL.out s h
              · rw [h]; exact HB.out
            case measure => simp [intOf]; omega
        · obtain rfl : k = g.srcs.length := by omega
          have hsa : ∀ s ∈ g.srcs, nameL s = true := by have := HL.out; rwa [List.take_length] at this
          have HSA := hid hsa
          clear hsa
          go_wp2_with fail
          obtain ⟨wo, hwo⟩ : ∃ wo, wo = wr := ⟨_, rfl⟩
          rw [← hwo] at HC1 HK c0 c1 ⊢
          clear hwo
          go_loopw [4] (fun i wr => ∃ k : Nat, k ≤ g.acts.length ∧ i = .int .i64 k ∧ Chg (fun _ => False) wo wr ∧ ∀ s ∈ g.acts.take k, actOK s = true) (fun i _ => g.acts.length - (intOf i).toNat)
          case atStart => exact ⟨0, Nat.zero_le _, rfl, Chg.refl _ _, by simp⟩
          case round =>
            obtain ⟨k, hk, rfl, hch, hall⟩ := hrel
            have HAA := hid hall
            have e0 := hch.cell c0 (fun h => h)
            have e1 := hch.cell c1 (fun h => h)
            have HCH := hid hch
            have HW := hid (HC1.out.trans hch (fun _ _ h => h))
            clear hch hall
            by_cases hkn : k < g.acts.length
            · have hkn' : (k : Int) < g.acts.length := by omega
              obtain ⟨bb, oo, hix, hlt, p0, p1, p2, hns, hw1, hw2⟩ := (HA.out.chg HW.out (fun _ _ h => h)).at k hkn
              obtain ⟨oi, ci, hiv⟩ := hns.form
              rw [hiv] at p1 hns
              have hli := hns.le
              unfold maxLen at hw2 hli
              have hz2 := bs_size g.acts[k].code
              obtain ⟨B, hB⟩ : ∃ B, nameL g.acts[k].name = B := ⟨_, rfl⟩
              have hn := rname_bs _ hw1 B hB
              have HB := hid hB
              have hmem := List.getElem_mem hkn
              have HNO : Hid (¬ (nameL g.acts[k].name = true ∧ (∀ s ∈ g.acts[k].ins, nameL s = true) ∧ g.acts[k].ins.length ≤ 4 ∧ (bs g.acts[k].code).size ≤ 64) → R = false) := fun h => by
                refine HF.out (fun h2 => h ?_)
                have := (actOK_iff _).1 (h2.2.2.2 _ hmem)
                rw [hz2]; exact this
              have HYES : Hid (nameL g.acts[k].name = true → (∀ s ∈ g.acts[k].ins, nameL s = true) → g.acts[k].ins.length ≤ 4 → (bs g.acts[k].code).size ≤ 64 → ∀ s ∈ g.acts.take (k + 1), actOK s = true) := fun h1 h2 h3 h4 s hs => by
                rw [List.take_succ_eq_append_getElem hkn, List.mem_append] at hs
                rcases hs with h | h
                · exact HAA.out s h
                · rw [List.mem_singleton.1 h]
                  exact (actOK_iff _).2 ⟨h1, h2, h3, by rwa [← hz2]⟩
              rw [← hz2] at hw2
              clear hz2 hiv hw1 hB hmem
              have HNS := hid hns
              clear hns
              generalize bs g.acts[k].name = x1 at *
              generalize bs g.acts[k].code = x2 at *
              generalize g.acts[k].name = nm at *
              generalize g.acts[k].ins = ins at *
              cases B
              · go_wp2_with (go_at_call 159; refine (hn _).mono ?_; rintro e w9 ⟨rfl, rfl⟩)
                go_ret
                refine ⟨?_, HW.out.alloc _⟩
                rw [HNO.out (fun h => Bool.false_ne_true (HB.out.symm.trans h.1))] <;> rfl
              · by_cases t2 : (4 : Int) < (ins.length : Int)
                · go_wp2_with (go_at_call 159; refine (hn _).mono ?_; rintro e w9 ⟨rfl, rfl⟩)
                  go_ret
                  refine ⟨?_, HW.out.alloc _⟩
                  rw [HNO.out (fun h => by have := h.2.2.1; omega)] <;> rfl
                · have d2 : decide ((4 : Int) < (ins.length : Int)) = false := decide_eq_false t2
                  by_cases t3 : (64 : Int) < (x2.size : Int)
                  · go_wp2_with (go_at_call 159; refine (hn _).mono ?_; rintro e w9 ⟨rfl, rfl⟩)
                    go_ret
                    refine ⟨?_, HW.out.alloc _⟩
                    rw [HNO.out (fun h => by have := h.2.2.2; omega)] <;> rfl
                  · have d3 : decide ((64 : Int) < (x2.size : Int)) = false := decide_eq_false t3
                    have hwa : Chg (fun _ => False) wr (wr.alloc (.cells #[.string x1, .slice oi ins.length ci, .string x2] 43)) := (Chg.refl _ wr).alloc _
                    have kA := heap_alloc_new' wr (.cells #[.string x1, .slice oi ins.length ci, .string x2] 43)
                    have HN3 := hid (HNS.out.chg hwa (fun _ _ h => h))
                    have HWA := hid hwa
                    have HKA := hid kA
                    clear hwa kA
                    go_wp2_with (go_at_call 159; refine (hn _).mono ?_; rintro e w9 ⟨rfl, rfl⟩)
                    generalize wr.alloc (.cells #[.string x1, .slice oi ins.length ci, .string x2] 43) = wa at *
                    obtain ⟨A6, hA6⟩ : ∃ A6, A6 = wr.heap.size := ⟨_, rfl⟩
                    rw [← hA6] at HKA ⊢
                    clear hA6 hn
                    have r1 : wa.cell? ⟨A6, 1, none⟩ = some (.slice oi ins.length ci) := (cell_of HKA.out 1).trans rfl
                    go_loopw [6] (fun i wb => ∃ q : Nat, q ≤ ins.length ∧ i = .int .i64 q ∧ wb = wa ∧ ∀ s ∈ ins.take q, nameL s = true) (fun i _ => ins.length - (intOf i).toNat)
                    case atStart => exact ⟨0, Nat.zero_le _, rfl, rfl, by simp⟩
                    case round =>
                      obtain ⟨q, hq, rfl, rfl, hqa⟩ := hrel
                      have HQA := hid hqa
                      clear hqa
                      by_cases hqn : q < ins.length
                      · have hqn' : (q : Int) < ins.length := by omega
                        obtain ⟨ad3, hix3, hadc3, hadb3⟩ := HN3.out.ix q hqn
                        have hwd3 := HN3.out.wide _ (List.getElem_mem hqn)
                        obtain ⟨B, hB⟩ : ∃ B, nameL ins[q] = B := ⟨_, rfl⟩
                        have hn := rname_bs _ hwd3 B hB
                        have HB3 := hid hB
                        have hmem := List.getElem_mem hqn
                        have HM := hid hmem
                        have htk : ∀ s ∈ ins.take (q + 1), s ∈ ins.take q ∨ s = ins[q] := fun s hs => by
                          rw [List.take_succ_eq_append_getElem hqn, List.mem_append] at hs
                          rcases hs with h | h
                          · exact .inl h
                          · exact .inr (List.mem_singleton.1 h)
                        have HTK := hid htk
                        clear hB hmem htk hwd3
                        generalize bs ins[q] = x3 at *
                        cases B
                        · go_wp2_with (go_at_call 159; refine (hn _).mono ?_; rintro e w9 ⟨rfl, rfl⟩)
                          go_ret
                          refine ⟨?_, HW.out.trans HWA.out (fun _ _ h => h)⟩
                          rw [HNO.out (fun h => Bool.false_ne_true (HB3.out.symm.trans (h.2.1 _ HM.out)))] <;> rfl
                        · go_wp2_with (go_at_call 159; refine (hn _).mono ?_; rintro e w9 ⟨rfl, rfl⟩)
                          go_roundw
                          case rel =>
                            refine ⟨q + 1, by omega, by go_num, (by first | rfl | trivial), fun s hs => ?_⟩
                            rcases HTK.out s hs with h | h
                            · exact HQA.out s h
                            · rw [h]; exact HB3.out
                          case measure => simp [intOf]; omega
                      · obtain rfl : q = ins.length := by omega
                        have hsa2 : ∀ s ∈ ins, nameL s = true := by have := HQA.out; rwa [List.take_length] at this
                        have HS2 := hid hsa2
                        clear hsa2
                        go_wp2_with fail
                        go_roundw
                        case rel => exact ⟨k + 1, by omega, by go_num, HCH.out.trans HWA.out (fun _ _ h => h), HYES.out HB.out HS2.out (by omega) (by omega)⟩
                        case measure => simp [intOf]; omega
            · obtain rfl : k = g.acts.length := by omega
              go_wp2_with fail
              go_ret
              refine ⟨?_, HW.out⟩
              rw [HT.out ⟨h40, h41, HSA.out, by have := HAA.out; rwa [List.take_length] at this⟩] <;> rfl
    · have h41' : (12 : Int) < (g.acts.length : Int) := by omega
      go_enter Tryz.func139, Tryz.ntmps139
      go_wp2_with fail
      go_ret
      refine ⟨?_, HC1.out⟩
      rw [HF.out (fun h => by have := h.2.1; omega)] <;> rfl
  · have h40' : (8 : Int) < (g.srcs.length : Int) := by omega
    go_enter Tryz.func139, Tryz.ntmps139
    go_wp2_with fail
    go_ret
    refine ⟨?_, HC1.out⟩
    rw [HF.out (fun h => by have := h.1; omega)] <;> rfl
end Go.Proofs.YthglfmacjoecgaaGreatDoor
namespace Go.Proofs.YthglfmacjoecgaaGreatDoor
open Go.RowKit

/-- What the inputs add to a line. -/
def insT (l : List (List UInt8)) : List UInt8 := if l = [] then [] else 32 :: wFrom ++ l.flatMap (32 :: ·)
theorem join_flat (x : List UInt8) : ∀ l : List (List UInt8), joinC 32 (x :: l) = x ++ l.flatMap (32 :: ·)
  | [] => by simp [joinC]
  | y :: r => by
    have ih := join_flat y r
    show x ++ 32 :: joinC 32 (y :: r) = _
    rw [ih]
    simp
theorem actLine_eq (a : ActR) : actLine a = wMake ++ 32 :: a.name ++ insT a.ins ++ (32 :: wBy ++ 32 :: wordL a.code) ++ [10] := by
  unfold actLine actWs
  rw [List.append_assoc, List.cons_append, join_flat]
  unfold insT
  by_cases h : a.ins = []
  · rw [if_pos h, if_pos h]; simp
  · rw [if_neg h, if_neg h]; simp
theorem insT_one (s : List UInt8) : insT [s] = 32 :: wFrom ++ 32 :: s := by unfold insT; simp
theorem insT_more (l : List (List UInt8)) (s : List UInt8) (h : l ≠ []) : insT (l ++ [s]) = insT l ++ 32 :: s := by
  unfold insT
  rw [if_neg (by simp), if_neg h]
  simp
theorem insT_len (l : List (List UInt8)) (n : Nat) (hn : l.length ≤ n) (h : ∀ s ∈ l, s.length ≤ 8) : (insT l).length ≤ 5 + 9 * n := by
  unfold insT
  split
  · simp
  · have : ∀ l : List (List UInt8), (∀ s ∈ l, s.length ≤ 8) → (l.flatMap (32 :: ·)).length ≤ 9 * l.length := by
      intro l
      induction l with
      | nil => intro _; simp
      | cons x r ih =>
        intro h
        have h1 := ih (fun s hs => h s (by simp [hs]))
        have h2 := h x (by simp)
        rw [List.flatMap_cons, List.length_append]
        simp only [List.length_cons]
        omega
    have h1 := this l h
    simp [wFrom] at h1 ⊢
    omega
theorem cat_src (T s : List UInt8) : bs T ++ { data := #[115, 111, 117, 114, 99, 101, 32] } ++ bs s ++ { data := #[10] } = bs (T ++ srcLine s) := by
  rw [show ({ data := #[115, 111, 117, 114, 99, 101, 32] } : ByteArray) = bs [115, 111, 117, 114, 99, 101, 32] from rfl, show ({ data := #[10] } : ByteArray) = bs [10] from rfl, ← bs_append, ← bs_append, ← bs_append]
  congr 1
  simp [srcLine, joinC, wSource]
theorem cat_make (T s : List UInt8) : bs T ++ { data := #[109, 97, 107, 101, 32] } ++ bs s = bs (T ++ (wMake ++ 32 :: s)) := by
  rw [show ({ data := #[109, 97, 107, 101, 32] } : ByteArray) = bs [109, 97, 107, 101, 32] from rfl, ← bs_append, ← bs_append]
  congr 1
  simp [wMake]
theorem cat_from (T s : List UInt8) : bs T ++ { data := #[32, 102, 114, 111, 109] } ++ { data := #[32] } ++ bs s = bs (T ++ insT [s]) := by
  rw [show ({ data := #[32, 102, 114, 111, 109] } : ByteArray) = bs [32, 102, 114, 111, 109] from rfl, show ({ data := #[32] } : ByteArray) = bs [32] from rfl, ← bs_append, ← bs_append, ← bs_append, insT_one]
  congr 1
  simp [wFrom]
theorem cat_more (T s : List UInt8) : bs T ++ { data := #[32] } ++ bs s = bs (T ++ 32 :: s) := by
  rw [show ({ data := #[32] } : ByteArray) = bs [32] from rfl, ← bs_append, ← bs_append]
  congr 1
  simp
theorem cat_by (T : List UInt8) (a : ActR) : bs (T ++ (wMake ++ 32 :: a.name) ++ insT a.ins) ++ { data := #[32, 98, 121, 32] } ++ bs (wordL a.code) ++ { data := #[10] } = bs (T ++ actLine a) := by
  rw [show ({ data := #[32, 98, 121, 32] } : ByteArray) = bs [32, 98, 121, 32] from rfl, show ({ data := #[10] } : ByteArray) = bs [10] from rfl, ← bs_append, ← bs_append, ← bs_append, actLine_eq]
  congr 1
  simp [wBy]

set_option maxRecDepth 100000 in
set_option maxHeartbeats 4000000 in
theorem rprint_any (g : GrR) (v : Value) (w : World) (hg : GrAt w v g) :
    Calls Tryz.prog 120 #[v] w (Rets (.tuple #[.string (bs ((printR g).getD [])), .int .i64 (if grOK g = true then 0 else 1)]) (Chg (fun _ => False) w)) := by
  have hig : ∀ W, Chg (fun _ => False) w W → Calls Tryz.prog 139 #[v] W (Rets (.bool (grOK g)) (Chg (fun _ => False) W)) := fun W hW => rgood_any g v W (hg.chg hW (fun _ _ h => h))
  obtain ⟨oa, c, ob, d, iv, rfl, hs, ha⟩ := hg.form
  have hC1 : Chg (fun _ => False) w (w.alloc (.cells #[.slice oa g.srcs.length c, .slice ob g.acts.length d] 25)) := (Chg.refl _ w).alloc _
  cases hok : grOK g with
  | false =>
    rw [hok] at hig
    have hr : printR g = none := by unfold printR; rw [hok]; rfl
    rw [hr]
    have h1 := hig _ hC1
    clear hig hs ha
    go_enter Tryz.func120, Tryz.ntmps120
    go_wp2_with (go_at_call 139; refine h1.mono ?_; rintro e w' ⟨rfl, hc⟩)
    go_ret2
    exact ⟨rfl, hC1.trans hc (fun _ _ h => h)⟩
  | true =>
    rw [hok] at hig
    obtain ⟨n1, n2, n3, n4⟩ := (grOK_iff g).1 hok
    have hr : printR g = some (textL g) := by unfold printR; rw [hok]; rfl
    rw [hr]
    have h1 := hig _ hC1
    have hgb : (w.alloc (.cells #[.slice oa g.srcs.length c, .slice ob g.acts.length d] 25)).heap[w.heap.size]? = some (.cells #[.slice oa g.srcs.length c, .slice ob g.acts.length d] 25 (0, 0)) := heap_alloc_new' w _
    have HI := hid n3
    have HJ := hid n4
    have HS := hid hs
    have HA := hid ha
    have HG := hid hgb
    obtain ⟨txt, htxt⟩ : ∃ txt, txt = textL g := ⟨_, rfl⟩
    have HT : Hid (txt = (g.srcs.map srcLine).flatten ++ (g.acts.map actLine).flatten) := htxt
    have HTX := hid htxt
    have hb1 : ∀ k, ((g.srcs.take k).map srcLine).flatten.length ≤ 128 := fun k => by
      have := flatten_len ((g.srcs.take k).map srcLine) 16 (fun l hl => by obtain ⟨s, hs, rfl⟩ := List.mem_map.1 hl; exact srcLine_len s (HI.out s (List.mem_of_mem_take hs)))
      simp only [List.length_map, List.length_take] at this
      omega
    have HB1 := hid hb1
    have hb2 : ∀ k, ((g.acts.take k).map actLine).flatten.length ≤ 2400 := fun k => by
      have := flatten_len ((g.acts.take k).map actLine) 200 (fun l hl => by obtain ⟨s, hs, rfl⟩ := List.mem_map.1 hl; exact actLine_len s (HJ.out s (List.mem_of_mem_take hs)))
      simp only [List.length_map, List.length_take] at this
      omega
    have HB2 := hid hb2
    clear hig hg hs ha n3 n4 hr hok hgb htxt hb1 hb2
    go_enter Tryz.func120, Tryz.ntmps120
    go_wp2_with (go_at_call 139; refine h1.mono ?_; clear h1; rintro e W1 ⟨rfl, hc⟩; have HC1 := hid (hC1.trans hc (fun _ _ h => h)); have q0 : W1.cell? ⟨w.heap.size, 0, none⟩ = some (.slice oa g.srcs.length c) := (cell_of (hc.obj HG.out (fun h => h)) 0).trans rfl; have q1 : W1.cell? ⟨w.heap.size, 1, none⟩ = some (.slice ob g.acts.length d) := (cell_of (hc.obj HG.out (fun h => h)) 1).trans rfl; clear hc hC1 HG)
    go_loopw [4, 5] (fun ov i wr => ∃ k : Nat, k ≤ g.srcs.length ∧ i = .int .i64 k ∧ ov = .string (bs ((g.srcs.take k).map srcLine).flatten) ∧ wr = W1) (fun _ i _ => g.srcs.length - (intOf i).toNat)
    case atStart => exact ⟨0, Nat.zero_le _, rfl, rfl, rfl⟩
    case round =>
      obtain ⟨k, hk, rfl, rfl, rfl⟩ := hrel
      by_cases hkn : k < g.srcs.length
      · have hkn' : (k : Int) < g.srcs.length := by omega
        obtain ⟨ad, hix, hadc, hadb⟩ := (HS.out.chg HC1.out (fun _ _ h => h)).ix k hkn
        have hx8 := (nameL_let (HI.out _ (List.getElem_mem hkn))).2.1
        have hTk := HB1.out k
        rw [← bs_size] at hx8 hTk
        have htk : bs ((g.srcs.take k).map srcLine).flatten ++ { data := #[115, 111, 117, 114, 99, 101, 32] } ++ bs g.srcs[k] ++ { data := #[10] } = bs ((g.srcs.take (k + 1)).map srcLine).flatten := by
          rw [cat_src, List.take_succ_eq_append_getElem hkn, List.map_append, List.flatten_append]; simp
        have HTK := hid htk
        clear htk
        generalize bs g.srcs[k] = x at *
        generalize bs ((g.srcs.take k).map srcLine).flatten = sv at *
        have z1 : ¬ 9223372036854775807 < sv.size + 7 := by omega
        have z2 : ¬ 9223372036854775807 < sv.size + 7 + x.size := by omega
        have z3 : ¬ 9223372036854775807 < sv.size + 7 + x.size + 1 := by omega
        go_wp2_with fail
        go_roundw
        case rel => exact ⟨k + 1, by omega, by go_num, congrArg Value.string HTK.out, by first | rfl | trivial⟩
        case measure => simp [intOf]; omega
      · obtain rfl : k = g.srcs.length := by omega
        have hT1 := HB1.out g.srcs.length
        rw [List.take_length] at hT1 ⊢
        go_wp2_with fail
        generalize (g.srcs.map srcLine).flatten = T1 at *
        have HT1 := hid hT1
        obtain ⟨wo, hwo⟩ : ∃ wo, wo = wr := ⟨_, rfl⟩
        rw [← hwo] at HC1 q0 q1 ⊢
        clear hwo hT1
        go_loopw [4, 6] (fun ov i wr => ∃ k : Nat, k ≤ g.acts.length ∧ i = .int .i64 k ∧ ov = .string (bs (T1 ++ ((g.acts.take k).map actLine).flatten)) ∧ Chg (fun _ => False) wo wr) (fun _ i _ => g.acts.length - (intOf i).toNat)
        case atStart => exact ⟨0, Nat.zero_le _, rfl, by simp, Chg.refl _ _⟩
        case round =>
          obtain ⟨k, hk, rfl, rfl, hch⟩ := hrel
          have e1 := hch.cell q1 (fun h => h)
          have HCH := hid hch
          have HW := hid (HC1.out.trans hch (fun _ _ h => h))
          clear hch
          by_cases hkn : k < g.acts.length
          · have hkn' : (k : Int) < g.acts.length := by omega
            obtain ⟨bb, oo, hix, hlt, p0, p1, p2, hns, hw1, hw2⟩ := (HA.out.chg HW.out (fun _ _ h => h)).at k hkn
            obtain ⟨oi, ci, hiv⟩ := hns.form
            rw [hiv] at p1 hns
            have hok := HJ.out _ (List.getElem_mem hkn)
            have hTK : T1 ++ ((g.acts.take (k + 1)).map actLine).flatten = (T1 ++ ((g.acts.take k).map actLine).flatten) ++ actLine g.acts[k] := by
              rw [List.take_succ_eq_append_getElem hkn, List.map_append, List.flatten_append]; simp
            have hTl : (T1 ++ ((g.acts.take k).map actLine).flatten).length ≤ 2528 := by
              have h1 := HT1.out
              have h2 := HB2.out k
              rw [List.length_append]; omega
            have HTK := hid hTK
            obtain ⟨a, haE⟩ : ∃ a, a = g.acts[k] := ⟨_, rfl⟩
            rw [← haE] at p0 p1 p2 hns hok HTK
            clear haE hTK hw1 hw2 hiv
            generalize T1 ++ ((g.acts.take k).map actLine).flatten = T at *
            obtain ⟨o1, o2, o3, o4⟩ := (actOK_iff a).1 hok
            have hcode : ∀ W, Calls Tryz.prog 140 #[.string (bs a.code)] W (Rets (.string (bs (wordL a.code))) (Chg (fun _ => False) W)) := fun W => rword_any a.code o4 W
            have hwl := wordL_len a.code o4
            have hnl := (nameL_let o1).2.1
            have hil : ∀ q, (insT (a.ins.take q)).length ≤ 41 := fun q => by
              have := insT_len (a.ins.take q) 4 (by simp; omega) (fun s hs => (nameL_let (o2 s (List.mem_of_mem_take hs))).2.1)
              omega
            have HIL := hid hil
            have HO2 := hid o2
            have HNS := hid hns
            have HMK : Hid (bs T ++ { data := #[109, 97, 107, 101, 32] } ++ bs a.name = bs (T ++ (wMake ++ 32 :: a.name))) := cat_make T a.name
            have HBY : Hid (bs (T ++ (wMake ++ 32 :: a.name) ++ insT a.ins) ++ { data := #[32, 98, 121, 32] } ++ bs (wordL a.code) ++ { data := #[10] } = bs (T ++ actLine a)) := cat_by T a
            have hP : (T ++ (wMake ++ 32 :: a.name)).length ≤ 2600 := by simp [wMake]; omega
            have HP := hid hP
            rw [← bs_size] at hTl hwl hnl
            clear hil o1 o2 o4 hns hok hP
            generalize T ++ (wMake ++ 32 :: a.name) = P at *
            generalize bs T = sv at *
            generalize bs a.name = x1 at *
            generalize bs a.code = x2 at *
            generalize bs (wordL a.code) = x3 at *
            have z1 : ¬ 9223372036854775807 < sv.size + 5 := by omega
            have z2 : ¬ 9223372036854775807 < sv.size + 5 + x1.size := by omega
            have hwa : Chg (fun _ => False) wr (wr.alloc (.cells #[.string x1, .slice oi a.ins.length ci, .string x2] 43)) := (Chg.refl _ wr).alloc _
            have kA := heap_alloc_new' wr (.cells #[.string x1, .slice oi a.ins.length ci, .string x2] 43)
            have HN3 := hid (HNS.out.chg hwa (fun _ _ h => h))
            have HWA := hid hwa
            have HKA := hid kA
            clear hwa kA
            go_wp2_with fail
            rw [HMK.out]
            generalize wr.alloc (.cells #[.string x1, .slice oi a.ins.length ci, .string x2] 43) = wa at *
            obtain ⟨A6, hA6⟩ : ∃ A6, A6 = wr.heap.size := ⟨_, rfl⟩
            rw [← hA6] at HKA ⊢
            clear hA6 z1 z2
            have r1 : wa.cell? ⟨A6, 1, none⟩ = some (.slice oi a.ins.length ci) := (cell_of HKA.out 1).trans rfl
            have r2 : wa.cell? ⟨A6, 2, none⟩ = some (.string x2) := (cell_of HKA.out 2).trans rfl
            go_loopw [4, 8] (fun ov i wb => ∃ q : Nat, q ≤ a.ins.length ∧ i = .int .i64 q ∧ ov = .string (bs (P ++ insT (a.ins.take q))) ∧ wb = wa) (fun _ i _ => a.ins.length - (intOf i).toNat)
            case atStart => exact ⟨0, Nat.zero_le _, rfl, by simp [insT], rfl⟩
            case round =>
              obtain ⟨q, hq, rfl, rfl, rfl⟩ := hrel
              by_cases hqn : q < a.ins.length
              · have hqn' : (q : Int) < a.ins.length := by omega
                obtain ⟨ad3, hix3, hadc3, hadb3⟩ := HN3.out.ix q hqn
                have hx8 := (nameL_let (HO2.out _ (List.getElem_mem hqn))).2.1
                have hpl : (P ++ insT (a.ins.take q)).length ≤ 2700 := by
                  have h1 := HP.out
                  have h2 := HIL.out q
                  rw [List.length_append]; omega
                rw [← bs_size] at hx8 hpl
                by_cases hq0 : q = 0
                · subst hq0
                  have e00 : ((0 : Nat) : Int) = 0 := rfl
                  rw [e00] at hix3
                  have hcat : bs (P ++ insT (a.ins.take 0)) ++ { data := #[32, 102, 114, 111, 109] } ++ { data := #[32] } ++ bs a.ins[0] = bs (P ++ insT (a.ins.take (0 + 1))) := by
                    rw [cat_from, List.take_succ_eq_append_getElem hqn]; simp [insT]
                  have HCAT := hid hcat
                  clear hcat
                  generalize bs (P ++ insT (a.ins.take 0)) = sv2 at *
                  generalize bs a.ins[0] = x4 at *
                  have z1 : ¬ 9223372036854775807 < sv2.size + 5 := by omega
                  have z2 : ¬ 9223372036854775807 < sv2.size + 5 + 1 := by omega
                  have z3 : ¬ 9223372036854775807 < sv2.size + 5 + 1 + x4.size := by omega
                  go_wp2_with fail
                  go_roundw
                  case rel => exact ⟨0 + 1, by omega, by go_num, congrArg Value.string HCAT.out, by first | rfl | trivial⟩
                  case measure => simp [intOf]; omega
                · have hq0' : ¬ (q : Int) = 0 := by omega
                  have hcat : bs (P ++ insT (a.ins.take q)) ++ { data := #[32] } ++ bs a.ins[q] = bs (P ++ insT (a.ins.take (q + 1))) := by
                    rw [cat_more, List.take_succ_eq_append_getElem hqn, insT_more _ _ (by intro e; have := congrArg List.length e; rw [List.length_take, List.length_nil] at this; omega)]; simp
                  have HCAT := hid hcat
                  clear hcat
                  generalize bs (P ++ insT (a.ins.take q)) = sv2 at *
                  generalize bs a.ins[q] = x4 at *
                  have z1 : ¬ 9223372036854775807 < sv2.size + 1 := by omega
                  have z2 : ¬ 9223372036854775807 < sv2.size + 1 + x4.size := by omega
                  go_wp2_with fail
                  go_roundw
                  case rel => exact ⟨q + 1, by omega, by go_num, congrArg Value.string HCAT.out, by first | rfl | trivial⟩
                  case measure => simp [intOf]; omega
              · obtain rfl : q = a.ins.length := by omega
                have hpl : (P ++ insT a.ins).length ≤ 2700 := by
                  have h1 := HP.out
                  have h2 := HIL.out a.ins.length
                  rw [List.take_length] at h2
                  rw [List.length_append]; omega
                rw [← bs_size] at hpl
                rw [List.take_length]
                generalize bs (P ++ insT a.ins) = sv2 at *
                have z1 : ¬ 9223372036854775807 < sv2.size + 4 := by omega
                have z2 : ¬ 9223372036854775807 < sv2.size + 4 + x3.size := by omega
                have z3 : ¬ 9223372036854775807 < sv2.size + 4 + x3.size + 1 := by omega
                go_wp2_with (go_at_call 140; refine (hcode _).mono ?_; rintro e w7 ⟨rfl, hc7⟩)
                go_roundw
                case rel => exact ⟨k + 1, by omega, by go_num, congrArg Value.string (by rw [HTK.out]; exact HBY.out), (HCH.out.trans HWA.out (fun _ _ h => h)).trans hc7 (fun _ _ h => h)⟩
                case measure => simp [intOf]; omega
          · obtain rfl : k = g.acts.length := by omega
            rw [List.take_length, ← HT.out]
            go_wp2_with fail
            go_ret2
            refine ⟨?_, HW.out⟩
            rw [HTX.out]
            rfl
end Go.Proofs.YthglfmacjoecgaaGreatDoor
namespace Go.Proofs.YthglfmacjoecgaaGreatDoor
open Go.RowKit

/-- v is a slice of the numbers l (read only). -/
def IntsAt (w : World) (v : Value) (l : List Nat) : Prop := RowsAt w v 1 l.length (fun i => [natV (l.getD i 0)])
theorem IntsAt.of_owns {w : World} {v : Value} {l : List Nat} (h : w.ownsRow 0 3 1 v l.length (l.map natV)) : IntsAt w v l := by
  rcases h.2 with ⟨rfl, h0⟩ | ⟨g, cap, cur, rfl, _, hg, hnc, hcm, hcs, ht⟩
  · exact ⟨.inl ⟨rfl, h0⟩, by rw [h0]; exact Nat.zero_le _, fun i hi => rfl⟩
  · refine ⟨.inr ⟨_, cap, rfl, fun i hi j hj => ?_⟩, by omega, fun i hi => rfl⟩
    obtain rfl : j = 0 := by omega
    have := h.cellAt i (by simpa using hi)
    have hadd : (⟨g, 0, none⟩ : Addr).add (i * 1 + 0) = ⟨g, i, none⟩ := by unfold Addr.add; split <;> simp_all
    rw [hadd, this]
    simp [hi]
theorem IntsAt.chg {F : Nat → Prop} {w w' : World} {v : Value} {l : List Nat} (h : IntsAt w v l) (hc : Chg F w w') (hF : ∀ k, k < w.heap.size → ¬ F k) : IntsAt w' v l := RowsAt.chg h hc hF
theorem IntsAt.len {w0 : World} {v : Value} {l : List Nat} (h : IntsAt w0 v l) (w : World) (ty : TypeId) : (Builtin.len_ #[75] ty #[v]).run Tryz.prog w = .ok (.int .i64 l.length) w :=
  RowsAt.len (P := Tryz.prog) h Tryz.underlying75 w ty
theorem IntsAt.ix {w : World} {v : Value} {l : List Nat} (h : IntsAt w v l) (k : Nat) (hk : k < l.length) :
    ∃ bb oo, (∀ w, (Instr.indexAt 75 v (.int .i64 k)).run Tryz.prog w = .ok (.pointer (some ⟨bb, oo, none⟩)) w) ∧ w.cell? ⟨bb, oo, none⟩ = some (.int .i64 l[k]) ∧ bb < w.heap.size := by
  obtain ⟨bb, oo, h1, h2, h3⟩ := RowsAt.ix (P := Tryz.prog) h Tryz.underlying75 (fun w => by kernel_rfl) (by decide) k hk
  refine ⟨bb, oo, h1, ?_, h3⟩
  have := h2 0 (by decide)
  exact this.trans (by simp [hk])
theorem IntsAt.form {w : World} {v : Value} {l : List Nat} (h : IntsAt w v l) : ∃ oa c, v = .slice oa l.length c := by
  rcases RowsAt.form h with ⟨h1, h2⟩ | ⟨a, cap, h1, _⟩
  · exact ⟨none, 0, by rw [h1, h2]⟩
  · exact ⟨some a, cap, h1⟩

theorem al_chg (w : World) (o : Obj) : Chg (fun _ => False) w (w.alloc o) := (Chg.refl _ w).alloc _
end Go.Proofs.YthglfmacjoecgaaGreatDoor
namespace Go.Proofs.YthglfmacjoecgaaGreatDoor
open Go.RowKit

theorem elAct : ElT Tryz.prog 23 43 3 56 := .mk' (z := .agg #[.string ByteArray.empty, .slice none 0 0, .string ByteArray.empty]) Tryz.underlying23 (by kernel_rfl) rfl (by decide) rfl
def flatA (ps : List (ActR × Value)) : List Value := ps.flatMap fun p => [strV p.1.name, p.2, strV p.1.code]
theorem flatA_append (ps : List (ActR × Value)) (p : ActR × Value) : flatA (ps ++ [p]) = flatA ps ++ [strV p.1.name, p.2, strV p.1.code] := by simp [flatA]
theorem flatA_len (ps : List (ActR × Value)) : (flatA ps).length = ps.length * 3 := by
  induction ps with
  | nil => rfl
  | cons p ps ih => show (_ ++ flatA ps).length = _; rw [List.length_append, ih]; simp; omega
theorem own_eq {g2 n cap k : Nat} (h : (Value.slice (some ⟨g2, 0, none⟩) n cap).ownBlock = some k) : k = g2 := by cases h; rfl
def slBlk : Value → Option Nat
  | .slice (some a) _ _ => some a.block
  | _ => none
theorem add_block (a : Addr) (i : Nat) : (a.add i).block = a.block := by unfold Addr.add; split <;> rfl
theorem NamesAt.chg' {F : Nat → Prop} {w w' : World} {v : Value} {ss : List (List UInt8)} (h : NamesAt w v ss) (hc : Chg F w w') (hF : ss ≠ [] → ∀ k, slBlk v = some k → ¬ F k) : NamesAt w' v ss := by
  refine ⟨?_, h.2⟩
  rcases h.1 with h1 | ⟨a, cap, hv, h1⟩
  · exact .inl h1
  · refine .inr ⟨a, cap, hv, fun i hi => hc.cell (h1 i hi) ?_⟩
    rw [add_block]
    exact hF (fun e => by subst e; simp at hi) a.block (by rw [hv]; rfl)
theorem NamesAt.lt {w : World} {v : Value} {ss : List (List UInt8)} (h : NamesAt w v ss) (hn : ss ≠ []) : ∀ k, slBlk v = some k → k < w.heap.size := by
  intro k hk
  rcases h.1 with ⟨_, h1⟩ | ⟨a, cap, rfl, h1⟩
  · exact absurd (List.map_eq_nil_iff.1 h1) hn
  · have h0 := h1 0 (by simpa using List.length_pos_iff.2 hn)
    have := World.block_lt_of_cell? w _ h0
    rw [add_block] at this
    cases hk
    exact this

theorem flatA_get : ∀ (ps : List (ActR × Value)) (i j : Nat), j < 3 → (flatA ps)[i * 3 + j]? = (ps[i]?).bind (fun p => [strV p.1.name, p.2, strV p.1.code][j]?)
  | [], i, j, _ => by simp [flatA]
  | p :: ps, i, j, hj => by
    have e : flatA (p :: ps) = [strV p.1.name, p.2, strV p.1.code] ++ flatA ps := rfl
    rw [e]
    cases i with
    | zero =>
      rw [Nat.zero_mul, Nat.zero_add, List.getElem?_append_left (by simpa using hj)]
      rfl
    | succ i =>
      rw [List.getElem?_append_right (by simp; omega), show (i + 1) * 3 + j - [strV p.1.name, p.2, strV p.1.code].length = i * 3 + j by simp; omega, flatA_get ps i j hj]
      rfl
theorem NamesAt.of_owns {w : World} {v : Value} {ss : List Nm} (h : w.ownsRow 0 9 1 v ss.length (ss.map nmV)) (hl : ss.length ≤ maxLen) (hw : ∀ s ∈ ss, s.length ≤ maxLen) : NamesAt w v ss := by
  refine ⟨?_, by simpa using hl, fun s hs => by obtain ⟨y, hy, rfl⟩ := List.mem_map.1 hs; rw [bs_size]; exact hw y hy⟩
  rcases h.2 with ⟨rfl, h0⟩ | ⟨g, cap, cur, rfl, _⟩
  · left; exact ⟨rfl, by rw [List.length_eq_zero_iff.1 h0]; rfl⟩
  · right
    refine ⟨⟨g, 0, none⟩, cap, by simp, fun i hi => ?_⟩
    have hi' : i < ss.length := by simpa using hi
    have h3 := h.cellAt i (by simpa using hi')
    have e3 : (⟨g, 0, none⟩ : Addr).add i = ⟨g, i, none⟩ := by unfold Addr.add; split <;> simp_all
    rw [e3, h3]
    simp [hi']
theorem ActsAt.of_owns {w : World} {v : Value} {ps : List (ActR × Value)} (h : w.ownsRow 0 43 3 v ps.length (flatA ps)) (hl : ps.length ≤ maxLen) (hi : ∀ p ∈ ps, NamesAt w p.2 p.1.ins)
    (hw : ∀ p ∈ ps, p.1.name.length ≤ maxLen ∧ p.1.code.length ≤ maxLen) : ActsAt w v (ps.map Prod.fst) (fun i => (ps.map (·.2)).getD i (.bool true)) := by
  refine ⟨⟨?_, by simpa using hl, fun i _ => rfl⟩, ?_, ?_⟩
  · rcases h.2 with ⟨rfl, h0⟩ | ⟨g, cap, cur, rfl, _⟩
    · left; exact ⟨rfl, by simpa using h0⟩
    · right
      refine ⟨⟨g, 0, none⟩, cap, by simp, fun i hi j hj => ?_⟩
      have hi' : i < ps.length := by simpa using hi
      have h3 := h.cellAt (i * 3 + j) (by omega)
      have e3 : (⟨g, 0, none⟩ : Addr).add (i * 3 + j) = ⟨g, i * 3 + j, none⟩ := by unfold Addr.add; split <;> simp_all
      rw [e3, h3, flatA_get ps i j hj]
      simp [hi', strV]
  · intro i hi2
    have hi' : i < ps.length := by simpa using hi2
    have := hi ps[i] (List.getElem_mem hi')
    simpa [List.getD_eq_getElem?_getD, hi'] using this
  · intro a ha
    obtain ⟨p, hp, rfl⟩ := List.mem_map.1 ha
    exact hw p hp
/-- A slice just laid, of names. -/
theorem names_new (w : World) (ss : List Nm) (n : Nat) (hn : n = ss.length) (hl : n ≤ 1000) (hw : ∀ s ∈ ss, s.length ≤ 1000) : NamesAt (w.alloc (.cells (ss.map nmV).toArray 9)) (.slice (some ⟨w.heap.size, 0, none⟩) n n) ss := by
  subst hn
  exact NamesAt.of_owns (owns_new w (ss.map nmV) 9 1 ss.length (by simp) (by unfold maxLen; omega)) (by unfold maxLen; omega) (fun s hs => by have := hw s hs; unfold maxLen; omega)
end Go.Proofs.YthglfmacjoecgaaGreatDoor
namespace Go.Proofs.YthglfmacjoecgaaGreatDoor
open Go

/-- The build with an action more. -/
def more (g : GrR) (a : ActR) : GrR := ⟨g.srcs, g.acts ++ [a]⟩
theorem grOK_more {g : GrR} {a : ActR} (h : grOK g = true) (hl : g.acts.length < 12) (ha : actOK a = true) : grOK (more g a) = true := by
  obtain ⟨h1, h2, h3, h4⟩ := (grOK_iff g).1 h
  refine (grOK_iff _).2 ⟨h1, by simp [more]; omega, h3, fun b hb => ?_⟩
  rcases List.mem_append.1 hb with hb | hb
  · exact h4 b hb
  · simp at hb; subst hb; exact ha
theorem names_more (g : GrR) (a : ActR) : namesL (more g a) = namesL g ++ [a.name] := by unfold namesL more; simp
theorem more_len (g : GrR) (a : ActR) : (more g a).acts.length = g.acts.length + 1 := by simp [more]
theorem nameAt_more (g : GrR) (a : ActR) {i : Nat} (h : i < g.acts.length) : nameAt (more g a) i = nameAt g i := by
  rw [nameAt_lt _ i (by rw [more_len]; omega), nameAt_lt _ i h]
  simp [more, List.getElem_append_left h]
theorem insAt_more (g : GrR) (a : ActR) {i : Nat} (h : i < g.acts.length) : insAt (more g a) i = insAt g i := by
  rw [insAt_lt _ i (by rw [more_len]; omega), insAt_lt _ i h]
  simp [more, List.getElem_append_left h]
theorem nameAt_new (g : GrR) (a : ActR) : nameAt (more g a) g.acts.length = a.name := by
  rw [nameAt_lt _ _ (by rw [more_len]; omega)]
  simp [more]
theorem check_twice {g : GrR} (hc : Can g) (hl : g.acts.length < 12) {k : Nat} (hk : k < g.acts.length) : checkR (more g ⟨nameAt g k, [], []⟩) = 21 := by
  have hn : nameL (nameAt g k) = true := by
    rw [nameAt_lt g k hk]
    exact ((actOK_iff _).1 (((grOK_iff g).1 hc.w.ok).2.2.2 _ (List.getElem_mem hk))).1
  have hok : grOK (more g ⟨nameAt g k, [], []⟩) = true := grOK_more hc.w.ok hl ((actOK_iff _).2 ⟨hn, by simp, by simp, by simp⟩)
  have hd : dupB (more g ⟨nameAt g k, [], []⟩) = true := by
    unfold dupB
    rw [names_more]
    have : ¬ (namesL g ++ [nameAt g k]).Nodup := by
      rw [List.nodup_append]
      rintro ⟨_, _, h⟩
      exact h _ (mem_names.2 (.inr ⟨k, hk, rfl⟩)) (nameAt g k) (by simp) rfl
    simp [this]
  unfold checkR wovenR
  rw [hok, hd]
  rfl
theorem check_miss {g : GrR} (hc : Can g) (hl : g.acts.length < 12) {f y : Nm} (hf : nameL f = true) (hy : nameL y = true) (h1 : f ∉ namesL g) (h2 : y ∉ namesL g) (h3 : y ≠ f) : checkR (more g ⟨f, [y, f], []⟩) = 22 := by
  have hok : grOK (more g ⟨f, [y, f], []⟩) = true := grOK_more hc.w.ok hl ((actOK_iff _).2 ⟨hf, by intro s hs; simp at hs; rcases hs with rfl | rfl <;> assumption, by simp, by simp⟩)
  have hd : dupB (more g ⟨f, [y, f], []⟩) = false := by
    unfold dupB
    rw [names_more]
    have : (namesL g ++ [f]).Nodup := by
      rw [List.nodup_append]
      exact ⟨hc.w.nd, by simp, fun a ha b hb => by simp at hb; subst hb; intro e; exact h1 (e ▸ ha)⟩
    simp [this]
  have hm : missB (more g ⟨f, [y, f], []⟩) = true := by
    unfold missB
    rw [List.any_eq_true]
    refine ⟨⟨f, [y, f], []⟩, by simp [more], ?_⟩
    rw [List.any_eq_true]
    refine ⟨y, by simp, ?_⟩
    rw [names_more]
    simp [h2, h3]
  unfold checkR wovenR
  rw [hok, hd, hm]
  rfl

section
variable {g : GrR} {a : ActR}
theorem ready_more {l : List Nat} (hl : ∀ i ∈ l, i < g.acts.length) (b : ActR) : readyB (more g a) l b = readyB g l b := by
  unfold readyB
  have e : l.map (nameAt (more g a)) = l.map (nameAt g) := List.map_congr_left (fun i hi => nameAt_more g a (hl i hi))
  rw [e]
  rfl
theorem step_more {l : List Nat} (hl : ∀ i ∈ l, i < g.acts.length) : stepR (more g a) l = match stepR g l with
    | some i => some i
    | none => if readyB g l a then some g.acts.length else none := by
  unfold stepR
  show (g.acts ++ [a]).findIdx? (readyB (more g a) l) = _
  rw [List.findIdx?_append]
  have e : readyB (more g a) l = readyB g l := funext (ready_more hl)
  rw [e]
  cases g.acts.findIdx? (readyB g l) with
  | some i => rfl
  | none =>
    cases h : readyB g l a <;> simp [List.findIdx?_cons, h]
theorem order_more : ∀ (m : Nat) (l : List Nat), Ordd g l → m + l.length = g.acts.length → (orderGo g m l).length = g.acts.length →
    orderGo (more g a) (m + 1) l = orderGo g m l ∨ orderGo (more g a) (m + 1) l = orderGo g m l ++ [g.acts.length]
  | 0, l, ho, hm, hl => by
    have hs := ho.stop (by omega)
    have hst := step_more (a := a) ho.lt
    rw [hs] at hst
    show (match stepR (more g a) l with | none => l | some i => l ++ [i]) = l ∨ (match stepR (more g a) l with | none => l | some i => l ++ [i]) = l ++ [g.acts.length]
    rw [hst]
    cases readyB g l a
    · exact .inl rfl
    · exact .inr rfl
  | m + 1, l, ho, hm, hl => by
    have hst := step_more (a := a) ho.lt
    cases hs : stepR g l with
    | none =>
      have e : orderGo g (m + 1) l = l := by unfold orderGo; rw [hs]
      rw [e] at hl
      omega
    | some i =>
      rw [hs] at hst
      have e : orderGo g (m + 1) l = orderGo g m (l ++ [i]) := by conv => lhs; unfold orderGo; rw [hs]
      have e2 : orderGo (more g a) (m + 1 + 1) l = orderGo (more g a) (m + 1) (l ++ [i]) := by
        conv => lhs; unfold orderGo; rw [hst]
      rw [e] at hl ⊢
      rw [e2]
      exact order_more m (l ++ [i]) (ho.snoc hs) (by simp; omega) hl
theorem orderR_more (hg : Can g) (hh : Can (more g a)) : orderR (more g a) = orderR g ++ [g.acts.length] := by
  have h := order_more (a := a) g.acts.length [] (Ordd.nil g) (by simp) hg.full
  have hf := hh.full
  unfold orderR at *
  rw [more_len] at *
  rcases h with h | h
  · rw [h] at hf
    have := hg.full
    unfold orderR at this
    omega
  · exact h
theorem place_more (hh : Wov (more g a)) {s : Nm} (hs : s ∈ namesL g) : placeOf (more g a) s = placeOf g s := by
  unfold placeOf
  show (g.acts ++ [a]).findIdx? _ = _
  rw [List.findIdx?_append]
  cases h : g.acts.findIdx? (fun b => b.name == s) with
  | some i => rfl
  | none =>
    have hne : (a.name == s) = false := by
      have := hh.nd
      rw [names_more, List.nodup_append] at this
      have h2 := this.2.2 s hs a.name (by simp)
      simpa using fun e : a.name = s => h2 e.symm
    simp [List.findIdx?_cons, hne]
theorem actIns_more (_ : Wov g) (hh : Wov (more g a)) {s : Nm} (hs : s ∈ namesL g) : actIns (more g a) s = actIns g s := by
  unfold actIns
  rw [place_more hh hs]
  cases hp : placeOf g s with
  | none => rfl
  | some i => exact insAt_more g a (placeOf_some hp).1
theorem needs_more (hg : Wov g) (hh : Wov (more g a)) {i : Nat} (hi : i < g.acts.length) (s : Nm) : Needs (more g a) i s ↔ Needs g i s := by
  constructor
  · intro h
    induction h with
    | base h => exact .base (by rw [insAt_more g a hi] at h; exact h)
    | step _ h ih => exact .step ih (by rw [actIns_more hg hh (ih.names hg hi)] at h; exact h)
  · intro h
    induction h with
    | base h => exact .base (by rw [insAt_more g a hi]; exact h)
    | step ht h ih => exact .step ih (by rw [actIns_more hg hh (ht.names hg hi)]; exact h)
theorem needsR_more (hg : Can g) (hh : Can (more g a)) {i : Nat} (hi : i < g.acts.length) : needsR (more g a) i = needsR g i :=
  rise_ext (needsR_rise _ _) (needsR_rise _ _) (fun s => by
    rw [hh.mem_needs (by rw [more_len]; omega), hg.mem_needs hi, needs_more hg.w hh.w hi])
theorem dirtyB_more (hg : Can g) (hh : Can (more g a)) (names : List Nm) {i : Nat} (hi : i < g.acts.length) : dirtyB (more g a) names i = dirtyB g names i := by
  unfold dirtyB
  rw [nameAt_more g a hi, needsR_more hg hh hi]
theorem dirtyR_more (hg : Can g) (hh : Can (more g a)) (names : List Nm) : dirtyR (more g a) names = dirtyR g names ++ (if dirtyB (more g a) names g.acts.length then [g.acts.length] else []) := by
  unfold dirtyR
  rw [more_len, List.range_succ, List.filter_append]
  have e : (List.range g.acts.length).filter (dirtyB (more g a) names) = (List.range g.acts.length).filter (dirtyB g names) := by
    apply List.filter_congr
    intro i hi
    exact dirtyB_more hg hh names (List.mem_range.1 hi)
  rw [e]
  congr 1
  cases h : dirtyB (more g a) names g.acts.length <;> simp [h]
theorem needsOf_more (hg : Can g) (hh : Can (more g a)) {i : Nat} (hi : i < g.acts.length) : needsOf (more g a) (nameAt g i) = needsOf g (nameAt g i) := by
  have hs : nameAt g i ∈ namesL g := mem_names.2 (.inr ⟨i, hi, rfl⟩)
  unfold needsOf
  rw [if_pos (can_iff.2 hh), if_pos (can_iff.2 hg), place_more hh.w hs, hg.w.place hi]
  exact needsR_more hg hh hi
end
/-- How many are dirty ahead of a place; whether it stands next. -/
theorem dirty_at (g : GrR) (names : List Nm) (i : Nat) (hi : i < g.acts.length) :
    ((dirtyR g names)[((List.range i).filter (dirtyB g names)).length]? = some i ↔ dirtyB g names i = true) := by
  have e : dirtyR g names = (List.range i).filter (dirtyB g names) ++ ((List.range g.acts.length).drop i).filter (dirtyB g names) := by
    unfold dirtyR
    conv => lhs; rw [← List.take_append_drop i (List.range g.acts.length), List.filter_append]
    rw [List.take_range, Nat.min_eq_left (by omega)]
  have e2 : (List.range g.acts.length).drop i = i :: (List.range g.acts.length).drop (i + 1) := by
    rw [List.drop_eq_getElem_cons (by simpa using hi)]
    simp
  rw [e, List.getElem?_append_right (Nat.le_refl _), Nat.sub_self, e2, List.filter_cons]
  by_cases h : dirtyB g names i = true
  · simp [h]
  · rw [if_neg h]
    constructor
    · intro hs
      exfalso
      have hm : i ∈ ((List.range g.acts.length).drop (i + 1)).filter (dirtyB g names) := List.mem_of_getElem? hs
      exact h (List.mem_filter.1 hm).2
    · intro hd; exact absurd hd h
end Go.Proofs.YthglfmacjoecgaaGreatDoor
