/- trellis.Needs, Dirty walked. -/
import Derived.Test.YtafdcmhckpdnbaaDoorTrJ
namespace Go.Proofs.YtafdcmhckpdnbaaDoor
open Go.RowKit

/-- Needs' answer. -/
def needsOf (g : GrR) (s : Nm) : List Nm := if checkR g = 0 then (match placeOf g s with | some i => needsR g i | none => []) else []
def NmsPost (w : World) (l : List Nm) (e : Ending) (w' : World) : Prop := Chg (fun _ => False) w w' ∧ ∃ v, e = .returned v ∧ w'.ownsRow 0 9 1 v l.length (l.map nmV)
theorem name_le {g : GrR} (hw : Wov g) {s : Nm} (hs : s ∈ namesL g) : s.length ≤ 8 := by
  have h := (grOK_iff g).1 hw.ok
  rcases mem_names.1 hs with h1 | ⟨i, hi, rfl⟩
  · exact (nameL_let (h.2.2.1 s h1)).2.1
  · rw [nameAt_lt g i hi]
    exact (nameL_let ((actOK_iff _).1 (h.2.2.2 _ (List.getElem_mem hi))).1).2.1

set_option maxRecDepth 100000 in
set_option maxHeartbeats 4000000 in
theorem tneeds_any (g : GrR) (s : Nm) (v : Value) (w : World) (hg : GrAt w v g) : Calls Tryd.prog 17 #[v, .string (bs s)] w (NmsPost w (needsOf g s)) := by
  obtain ⟨oa, c, ob, d, iv, rfl, hs, ha⟩ := hg.form
  have hC1 : Chg (fun _ => False) w (w.alloc (.cells #[.slice oa g.srcs.length c, .slice ob g.acts.length d] 25)) := (Chg.refl _ w).alloc _
  have hwv := checked_any g _ _ (hg.chg hC1 (fun _ _ h => h))
  unfold CheckedPost at hwv
  clear hs ha hg
  by_cases hz : checkR g = 0
  · have hcan := can_iff.1 hz
    have hwv2 : Calls Tryd.prog 23 #[.agg #[.slice oa g.srcs.length c, .slice ob g.acts.length d]] (w.alloc (.cells #[.slice oa g.srcs.length c, .slice ob g.acts.length d] 25)) (fun e w' => ∃ b, e = .returned (.tuple #[.pointer (some ⟨b, 0, none⟩), .int .i64 0]) ∧ Chg (fun _ => False) (w.alloc (.cells #[.slice oa g.srcs.length c, .slice ob g.acts.length d] 25)) w' ∧ IsWeb w' b g) :=
      hwv.mono (fun e w' ⟨h1, h2⟩ => by
        rcases h2 with ⟨_, b, h3, h4⟩ | ⟨h3, _⟩
        · exact ⟨b, h3, h1, h4⟩
        · exact absurd hz h3)
    have HCAN := hid hcan
    cases hp : placeOf g s with
    | none =>
      have hr : needsOf g s = [] := by unfold needsOf; rw [if_pos hz, hp]
      have HP := hid hp
      rw [hr]
      clear hz hr hwv hcan hp
      by_cases hsrc : s ∈ g.srcs
      · have hav : atV g s = some (-1) := by unfold atV; rw [HP.out]; simp [hsrc]
        have HAV := hid hav
        clear hav hsrc
        go_enter Tryd.func17, Tryd.ntmps17
        go_wp2_with (first | (go_at_call 23; refine hwv2.mono ?_; rintro e w2 ⟨b, rfl, hc2, ⟨sv, av, iv2, r, lm, hb2⟩⟩; have HB2 := hid hb2; have d2 := cell_of hb2.blk 2; clear hb2; simp at d2; have HV : Hid (((lval s lm).map intV).getD (.int .i64 0) = .int .i64 (-1)) := hid (by rw [HB2.out.look, HAV.out]; rfl); have HV2 : Hid ((lval s lm).isSome = true) := hid (by rw [HB2.out.look, HAV.out]; rfl)) | (at_lookup; refine wpList_lookup_ok rfl _ _ 56 rfl keyNm Tryd.underlying56 (zeroI _) HB2.out.map rfl s rfl _ HV.out true HV2.out ?_))
        go_ret
        exact ⟨hC1.trans hc2 (fun _ _ h => h), _, rfl, World.ownsRow_nil _ _ _ _⟩
      · have hav : atV g s = none := by unfold atV; rw [HP.out]; simp [hsrc]
        have HAV := hid hav
        clear hav hsrc
        go_enter Tryd.func17, Tryd.ntmps17
        go_wp2_with (first | (go_at_call 23; refine hwv2.mono ?_; rintro e w2 ⟨b, rfl, hc2, ⟨sv, av, iv2, r, lm, hb2⟩⟩; have HB2 := hid hb2; have d2 := cell_of hb2.blk 2; clear hb2; simp at d2; have HV : Hid (((lval s lm).map intV).getD (.int .i64 0) = .int .i64 0) := hid (by rw [HB2.out.look, HAV.out]; rfl); have HV2 : Hid ((lval s lm).isSome = false) := hid (by rw [HB2.out.look, HAV.out]; rfl)) | (at_lookup; refine wpList_lookup_ok rfl _ _ 56 rfl keyNm Tryd.underlying56 (zeroI _) HB2.out.map rfl s rfl _ HV.out false HV2.out ?_))
        go_ret
        exact ⟨hC1.trans hc2 (fun _ _ h => h), _, rfl, World.ownsRow_nil _ _ _ _⟩
    | some i =>
      have hr : needsOf g s = needsR g i := by unfold needsOf; rw [if_pos hz, hp]
      have hi := (placeOf_some hp).1
      have hav : atV g s = some (i : Int) := by unfold atV; rw [hp]
      have HAV := hid hav
      have HI := hid hi
      have hi0 : ¬ (i : Int) < 0 := by omega
      rw [hr]
      clear hz hr hwv hcan hp hav hi
      go_enter Tryd.func17, Tryd.ntmps17
      go_wp2_with (first | (go_at_call 23; refine hwv2.mono ?_; rintro e w2 ⟨b, rfl, hc2, ⟨sv, av, iv2, r, lm, hb2⟩⟩; have HB2 := hid hb2; have d2 := cell_of hb2.blk 2; clear hb2; simp at d2; have HV : Hid (((lval s lm).map intV).getD (.int .i64 0) = .int .i64 i) := hid (by rw [HB2.out.look, HAV.out]; rfl); have HV2 : Hid ((lval s lm).isSome = true) := hid (by rw [HB2.out.look, HAV.out]; rfl)) | (at_lookup; refine wpList_lookup_ok rfl _ _ 56 rfl keyNm Tryd.underlying56 (zeroI _) HB2.out.map rfl s rfl _ HV.out true HV2.out ?_) | (go_at_call 30; refine (needs_any g HCAN.out.w i HI.out w2 b ⟨sv, av, iv2, r, lm, HB2.out⟩).mono ?_; rintro e w3 ⟨hc3, r3, K, rfl, hr3, hs3, hnd, hlK, hmK⟩; have HS3 := hid hs3; have HND := hid hnd; have HLK := hid hlK; have HMK := hid hmK; have HC3 := hid hc3; clear hs3 hnd hlK hmK hc3 hr3) | (go_at_call 29; refine (keys_any _ _).mono ?_; rintro e w4 ⟨rfl, rfl⟩) | (go_at_call 28; refine (sorted_any r3 K (needsR g i) w3 HS3.out (fun t ht => by have := name_le HCAN.out.w (((HMK.out t).1 ht).names HCAN.out.w HI.out); unfold maxLen; omega) (by have := HLK.out; omega) HND.out (needsR_rise g i) (fun t => (HMK.out t).trans (HCAN.out.mem_needs HI.out).symm)).mono ?_; rintro e w5 ⟨v5, rfl, hown5, hc5⟩))
      go_ret
      exact ⟨((hC1.trans hc2 (fun _ _ h => h)).trans HC3.out (fun _ _ h => h)).trans hc5 (fun _ _ h => h), v5, rfl, hown5⟩
  · have hr : needsOf g s = [] := by unfold needsOf; rw [if_neg hz]
    have hwv2 : Calls Tryd.prog 23 #[.agg #[.slice oa g.srcs.length c, .slice ob g.acts.length d]] (w.alloc (.cells #[.slice oa g.srcs.length c, .slice ob g.acts.length d] 25)) (Rets (.tuple #[.pointer none, .int .i64 (checkR g)]) (Chg (fun _ => False) (w.alloc (.cells #[.slice oa g.srcs.length c, .slice ob g.acts.length d] 25)))) :=
      hwv.mono (fun e w' ⟨h1, h2⟩ => by
        rcases h2 with ⟨h3, _⟩ | ⟨_, h3⟩
        · exact absurd h3 hz
        · exact ⟨h3, h1⟩)
    have hne : ((checkR g : Int) == 0) = false := by simp; omega
    have hne2 : ¬ (checkR g : Int) = 0 := by omega
    rw [hr]
    clear hz hr hwv
    generalize checkR g = n at *
    go_enter Tryd.func17, Tryd.ntmps17
    go_wp2_with (go_at_call 23; refine hwv2.mono ?_; rintro e w2 ⟨rfl, hc2⟩)
    go_ret
    exact ⟨hC1.trans hc2 (fun _ _ h => h), _, rfl, World.ownsRow_nil _ _ _ _⟩
end Go.Proofs.YtafdcmhckpdnbaaDoor
