/- Texts of the proof, one behind the other: oven.Keys, oven.Build walked. -/
import Derived.Test.YthglfmacjoecgaaGreatDoorMg21
namespace Go.Proofs.YthglfmacjoecgaaGreatDoor
open Go.RowKit

/-- laid and make, one behind the other, of a build that can be made. -/
theorem LaidPost.done {w w' : World} {g : GrR} {sv av : Value} {iv : Nat → Value} {srcs : List SrcR} {e : Ending} (h : LaidPost w g sv av iv srcs e w') (hz : checkS g srcs = 0) :
    ∃ b r kb, e = .returned (.tuple #[.pointer (some ⟨b, 0, none⟩), .int .i64 0]) ∧ Chg (fun _ => False) w w' ∧ IsKit w' b r kb g sv av iv (srcT srcs) zeroK ∧ w.heap.size ≤ r ∧ w.heap.size ≤ kb ∧ w.heap.size ≤ b ∧ r ≠ kb ∧ b ≠ r ∧ b ≠ kb := by
  obtain ⟨hc, h⟩ := h
  rcases h with ⟨_, b, r, kb, h1, h2, h3⟩ | ⟨h1, _⟩
  · exact ⟨b, r, kb, h1, hc, h2, h3⟩
  · exact absurd hz h1
theorem LaidPost.bad {w w' : World} {g : GrR} {sv av : Value} {iv : Nat → Value} {srcs : List SrcR} {e : Ending} (h : LaidPost w g sv av iv srcs e w') (hz : checkS g srcs ≠ 0) :
    e = .returned (.tuple #[.pointer none, .int .i64 (checkS g srcs)]) ∧ Chg (fun _ => False) w w' := by
  obtain ⟨hc, h⟩ := h
  rcases h with ⟨h1, _⟩ | ⟨_, h1⟩
  · exact absurd h1 hz
  · exact ⟨h1, hc⟩
set_option maxRecDepth 100000 in
set_option maxHeartbeats 4000000 in
theorem okeys_any {B : Nat} (g : GrR) (srcs : List SrcR) (v sv0 : Value) (w : World) (hg : GrAt w v g) (hss : SrcsAt w sv0 srcs) (hT : TabsOK B w) (hB : B ≤ w.heap.size) : Calls Tryz.prog 19 #[v, sv0] w (KeysPost w g srcs) := by
  obtain ⟨oa, c, ob, d, iv, rfl, hs, ha⟩ := hg.form
  obtain ⟨os, cs, rfl⟩ := hss.form
  have hC1 : Chg (fun _ => False) w (w.alloc (.cells #[.slice oa g.srcs.length c, .slice ob g.acts.length d] 25)) := (Chg.refl _ w).alloc _
  have hl := laid_any g srcs _ _ _ iv _ (hs.chg hC1 (fun _ _ h => h)) (ha.chg hC1 (fun _ _ h => h)) (hss.chg hC1 (fun _ _ h => h))
  have hs1 : (w.alloc (.cells #[.slice oa g.srcs.length c, .slice ob g.acts.length d] 25)).heap.size = w.heap.size + 1 := by simp
  have HS := hid hs
  have HA := hid ha
  have HC1 := hid hC1
  have HS1 := hid hs1
  have HT := hid hT
  have HB := hid hB
  clear hs ha hss hg hC1 hs1 hT hB
  by_cases hz : checkS g srcs = 0
  · have hl2 := hl.mono (fun e w' h => h.done hz)
    have HZ := hid hz
    have HD := hid (checkS_zero.1 hz)
    clear hl hz
    go_enter Tryz.func19, Tryz.ntmps19
    go_wp2_with (first | (go_at_call 53; refine hl2.mono ?_; rintro e w2 ⟨b, r, kb, rfl, hc2, hk2, hr2, hkb2, hb2, hn1, hn2, hn3⟩; have HK2 := hid hk2; have HC2 := hid (HC1.out.trans hc2 (fun _ _ h => h)); have HN := hid (And.intro hn1 (And.intro hn2 hn3)); have HR2 := hid (And.intro hr2 hkb2); clear hc2 hk2 hr2 hkb2 hb2 hn1 hn2 hn3) | (go_at_call 54; refine (kmake_any g srcs HD.out w2 b r kb _ _ iv HK2.out HN.out.1 HN.out.2.1 HN.out.2.2 (HT.out.keep HC2.out) (by have := HB.out; have := HS1.out; have := HR2.out; omega) (by have := HB.out; have := HS1.out; have := HR2.out; omega) (fun W hW => ⟨HS.out.chg (HC2.out.trans hW (fun i hi h => by have := HS1.out; have := HR2.out; rcases h with h | h <;> omega)) (fun _ _ h => h), HA.out.chg (HC2.out.trans hW (fun i hi h => by have := HS1.out; have := HR2.out; rcases h with h | h <;> omega)) (fun _ _ h => h)⟩)).mono ?_; rintro e w3 ⟨rfl, hc3, hk3⟩; have b3 := cell_of hk3.blk 3; simp at b3; have HK3 := hid hk3; have HC3 := hid hc3; clear hc3 hk3))
    go_ret2
    refine ⟨HC2.out.trans HC3.out (fun i hi h => by have := HS1.out; have := HR2.out; rcases h with h | h <;> omega), _, by rw [HZ.out]; rfl, ?_⟩
    have h12 := HD.out.can.w.acts12
    unfold cntS
    rw [if_pos HZ.out]
    exact KeysAt.of_block HK3.out.keys (by omega)
  · have hl2 := hl.mono (fun e w' h => h.bad hz)
    have HZ := hid hz
    have hbe : ((checkS g srcs : Int) == 0) = false := by rw [beq_eq_false_iff_ne]; omega
    have hcn : cntS g srcs = 0 := if_neg hz
    have HCN := hid hcn
    obtain ⟨cn, hcne⟩ : ∃ cn, cn = checkS g srcs := ⟨_, rfl⟩
    rw [← hcne] at hl2 hbe
    have HE := hid hcne
    clear hl hz hcn hcne
    go_enter Tryz.func19, Tryz.ntmps19
    go_wp2_with (go_at_call 53; refine hl2.mono ?_; rintro e w2 ⟨rfl, hc2⟩)
    go_ret2
    refine ⟨HC1.out.trans hc2 (fun _ _ h => h), _, by rw [← HE.out]; rfl, ?_⟩
    rw [HCN.out]
    exact KeysAt.nil _ _
theorem elBlt : ElT Tryz.prog 29 53 3 40 := .mk' (z := .agg #[.string ByteArray.empty, .int .i64 0, .string ByteArray.empty]) Tryz.underlying29 (by kernel_rfl) rfl (by decide) rfl
theorem outT_take (g : GrR) (srcs : List SrcR) (k : Nat) (h : k < g.acts.length) : ((outT g srcs).take (k + 1)).flatMap bltL = ((outT g srcs).take k).flatMap bltL ++ [.string (bs g.acts[k].name), .int .i64 (valT (madeS g srcs) g.acts[k].name).1, .string (valT (madeS g srcs) g.acts[k].name).2] := by
  rw [List.take_succ_eq_append_getElem (by rw [outT_len]; exact h), List.flatMap_append, outT_get g srcs k h]
  simp [bltL]
set_option maxRecDepth 100000 in
set_option maxHeartbeats 4000000 in
theorem obuild_any {B : Nat} (g : GrR) (srcs : List SrcR) (v sv0 : Value) (w : World) (hg : GrAt w v g) (hss : SrcsAt w sv0 srcs) (hT : TabsOK B w) (hB : B ≤ w.heap.size) : Calls Tryz.prog 17 #[v, sv0] w (BuiltPost w g srcs) := by
  obtain ⟨oa, c, ob, d, iv, rfl, hs, ha⟩ := hg.form
  obtain ⟨os, cs, rfl⟩ := hss.form
  have hC1 : Chg (fun _ => False) w (w.alloc (.cells #[.slice oa g.srcs.length c, .slice ob g.acts.length d] 25)) := (Chg.refl _ w).alloc _
  have hl := laid_any g srcs _ _ _ iv _ (hs.chg hC1 (fun _ _ h => h)) (ha.chg hC1 (fun _ _ h => h)) (hss.chg hC1 (fun _ _ h => h))
  have hs1 : (w.alloc (.cells #[.slice oa g.srcs.length c, .slice ob g.acts.length d] 25)).heap.size = w.heap.size + 1 := by simp
  have HGB := hid (heap_alloc_new' w (.cells #[.slice oa g.srcs.length c, .slice ob g.acts.length d] 25))
  have HS := hid hs
  have HA := hid ha
  have HC1 := hid hC1
  have HS1 := hid hs1
  have HT := hid hT
  have HB := hid hB
  clear hs ha hss hg hC1 hs1 hT hB
  by_cases hz : checkS g srcs = 0
  · have hl2 := hl.mono (fun e w' h => h.done hz)
    have HZ := hid hz
    have HD := hid (checkS_zero.1 hz)
    clear hl hz
    go_enter Tryz.func17, Tryz.ntmps17
    go_wp2_with (first | (go_at_call 53; refine hl2.mono ?_; rintro e w2 ⟨b, r, kb, rfl, hc2, hk2, hr2, hkb2, hb2, hn1, hn2, hn3⟩; have HK2 := hid hk2; have HG2 := hid (hc2.obj HGB.out (fun h => h)); have HC2 := hid (HC1.out.trans hc2 (fun _ _ h => h)); have HN := hid (And.intro hn1 (And.intro hn2 hn3)); have HR2 := hid (And.intro hr2 hkb2); clear hc2 hk2 hr2 hkb2 hb2 hn1 hn2 hn3) | (go_at_call 54; refine (kmake_any g srcs HD.out w2 b r kb _ _ iv HK2.out HN.out.1 HN.out.2.1 HN.out.2.2 (HT.out.keep HC2.out) (by have := HB.out; have := HS1.out; have := HR2.out; omega) (by have := HB.out; have := HS1.out; have := HR2.out; omega) (fun W hW => ⟨HS.out.chg (HC2.out.trans hW (fun i hi h => by have := HS1.out; have := HR2.out; rcases h with h | h <;> omega)) (fun _ _ h => h), HA.out.chg (HC2.out.trans hW (fun i hi h => by have := HS1.out; have := HR2.out; rcases h with h | h <;> omega)) (fun _ _ h => h)⟩)).mono ?_; rintro e w3 ⟨rfl, hc3, hk3⟩; have g1 := cell_of (hc3.obj HG2.out (fun h => by have := HS1.out; have := HR2.out; rcases h with h | h <;> omega)) 1; simp at g1; have HK3 := hid hk3; have HC3 := hid (HC2.out.trans hc3 (fun i hi h => by have := HS1.out; have := HR2.out; rcases h with h | h <;> omega)); clear hc3 hk3))
    clear hl2 g1
    have h12 := HD.out.can.w.acts12
    go_loopw [8, 25] (fun v8 i wr => ∃ (k : Nat) (x : Value), x = v8 ∧ k ≤ g.acts.length ∧ i = .int .i64 k ∧ wr.ownsRow 0 53 3 x k (((outT g srcs).take k).flatMap bltL) ∧ (∀ z, x.ownBlock = some z → w3.heap.size ≤ z) ∧ Chg (fun _ => False) w3 wr) (fun _ i _ => g.acts.length - (intOf i).toNat)
    case atStart => exact ⟨0, _, rfl, Nat.zero_le _, rfl, World.ownsRow_nil _ _ _ _, (fun z h => by cases h), Chg.refl _ _⟩
    case round =>
      obtain ⟨k, x8, hx8, hk, rfl, hown, hbl, hch⟩ := hrel
      subst hx8
      have HOWN := hid hown
      have HBL := hid hbl
      have HCH := hid hch
      have HCW := hid (HC3.out.trans hch (fun _ _ h => h))
      clear hown hbl hch
      by_cases hkn : k < g.acts.length
      · have hkn' : (k : Int) < g.acts.length := by omega
        obtain ⟨bb, oo, hix, hlt, e0, e1, e2, hns, hw1, hw2⟩ := (HA.out.chg HCW.out (fun _ _ h => h)).at k hkn
        obtain ⟨oi, ci, hiv⟩ := hns.form
        rw [hiv] at e1
        have HTK := hid (outT_take g srcs k hkn)
        clear hiv hns hw1 hw2
        generalize g.acts[k].ins.length = ni at *
        generalize g.acts[k].name = nm at *
        generalize bs g.acts[k].code = cd at *
        have hA5 : Chg (fun _ => False) w3 (wr.alloc (.cells #[.string (bs nm), .slice oi ni ci, .string cd] 43)) := HCH.out.alloc _
        have k5 := heap_alloc_new' wr (.cells #[.string (bs nm), .slice oi ni ci, .string cd] 43)
        have hs5 : (wr.alloc (.cells #[.string (bs nm), .slice oi ni ci, .string cd] 43)).heap.size = wr.heap.size + 1 := by simp
        have hown5 := HOWN.out.alloc (.cells #[.string (bs nm), .slice oi ni ci, .string cd] 43)
        have HA5 := hid hA5
        have HK5 := hid k5
        have HS5 := hid hs5
        have HOWN5 := hid hown5
        clear hA5 k5 hs5 hown5
        go_wp2_with fail
        generalize wr.alloc (.cells #[.string (bs nm), .slice oi ni ci, .string cd] 43) = W5 at *
        have HM5 := hid (HK3.out.map.chg HA5.out (fun h => h))
        have q1 := cell_of (HA5.out.obj HK3.out.blk (fun h => h)) 2
        simp at q1
        have c0 := cell_of HK5.out 0
        simp at c0
        obtain ⟨rc, hrc⟩ : ∃ rc, rc = (valT (madeS g srcs) nm).1 := ⟨_, rfl⟩
        obtain ⟨rb, hrb⟩ : ∃ rb, rb = (valT (madeS g srcs) nm).2 := ⟨_, rfl⟩
        have hlk : ∀ n, (Instr.lookup 110 (.map (some r)) (.string (bs nm)) false).run Tryz.prog (W5.drewN n) = .ok (.agg #[.int .i64 rc, .string rb]) (W5.drewN n) := fun n => MapL.run_lookup HM5.out keyNm Tryz.underlying110 zeroR nm _ (by rw [valT_getD]; unfold resW; rw [hrc, hrb]) n
        have hlk0 : (Instr.lookup 110 (.map (some r)) (.string (bs nm)) false).run Tryz.prog W5 = .ok (.agg #[.int .i64 rc, .string rb]) W5 := hlk 0
        have hlk1 : (Instr.lookup 110 (.map (some r)) (.string (bs nm)) false).run Tryz.prog W5.drew = .ok (.agg #[.int .i64 rc, .string rb]) W5.drew := hlk 1
        rw [← hrc, ← hrb] at HTK
        clear hrc hrb
        go_region_law (refine step_append_new rfl _ _ 29 rfl elBlt HOWN5.out rfl #[.string (bs nm), .int .i64 rc, .string rb] 1 1 rfl rfl rfl (by unfold maxLen; omega) (by omega) (by decide) ?_; intro g6 cap6 w6 hown6 hch6 hg6)
        all_goals go_wp2_with fail
        all_goals (refine ⟨⟨k + 1, _, rfl, by omega, by go_num, by rw [HTK.out]; exact hown6, fun z hz => ?_, HA5.out.trans hch6 (fun z hz h => absurd (HBL.out z h) (by omega))⟩, by simp [intOf]; omega⟩)
        all_goals (obtain rfl := own_eq hz; rcases hg6 with h | h)
        all_goals first | exact HBL.out _ h | (have := HS5.out; have := HCH.out.size; omega)
      · obtain rfl : k = g.acts.length := by omega
        go_wp2_with fail
        go_ret2
        refine ⟨HCW.out, x8, by rw [HZ.out]; rfl, ?_⟩
        have hown9 := HOWN.out
        rw [List.take_of_length_le (by rw [outT_len]; exact Nat.le_refl _)] at hown9
        unfold outS
        rw [if_pos HZ.out]
        exact BltAt.of_owns (by rw [outT_len]) hown9 (by rw [outT_len]; omega)
  · have hl2 := hl.mono (fun e w' h => h.bad hz)
    have hbe : ((checkS g srcs : Int) == 0) = false := by rw [beq_eq_false_iff_ne]; omega
    have hcn : outS g srcs = [] := if_neg hz
    have HCN := hid hcn
    obtain ⟨cn, hcne⟩ : ∃ cn, cn = checkS g srcs := ⟨_, rfl⟩
    rw [← hcne] at hl2 hbe
    have HE := hid hcne
    clear hl hz hcn hcne
    go_enter Tryz.func17, Tryz.ntmps17
    go_wp2_with (go_at_call 53; refine hl2.mono ?_; rintro e w2 ⟨rfl, hc2⟩)
    go_ret2
    refine ⟨HC1.out.trans hc2 (fun _ _ h => h), _, by rw [← HE.out]; rfl, ?_⟩
    rw [HCN.out]
    exact BltAt.nil _
end Go.Proofs.YthglfmacjoecgaaGreatDoor
