/- Texts of the proof, one behind the other: oven.Keys, oven.Build walked. -/
import Derived.Test.YthglfmacjoecgaaGreatDoorMx11
namespace Go.Proofs.YthglfmacjoecgaaGreatDoor
open Go.RowKit

/-- laid and make, one behind the other, of a build that can be made. -/
theorem LaidPost.done {w w' : World} {g : GrR} {sv av : Value} {iv : Nat → Value} {srcs : List SrcR} {e : Ending} (h : LaidPost w g sv av iv srcs e w') (hz : checkS g srcs = 0) :
    ∃ b r kb, e = .returned (.tuple #[.pointer (some ⟨b, 0, none⟩), .int .i64 0]) ∧ Chg (fun _ => False) w w' ∧ IsKit w' b r kb g sv av iv (srcT srcs) zeroK ∧ w.heap.size ≤ r ∧ w.heap.size ≤ kb ∧ w.heap.size ≤ b ∧ r ≠ kb ∧ b ≠ r ∧ b ≠ kb := by
  obtain ⟨hc, h⟩ := h
  rcases h with ⟨_, b, r, kb, h1, h2, h3⟩ | ⟨h1, _⟩
  · exact ⟨b, r, kb, h1, hc, h2, h3⟩
  · exact absurd hz h1
theorem LaidPost.bad {w w' : World} {g : GrR} {sv av : Value} {iv : Nat → Value} {srcs : List SrcR} {e : Ending} (h : LaidPost w g sv av iv srcs e w') (hz : checkS g srcs ≠ 0) :
    e = .returned (.tuple #[.pointer none, .int .i64 (checkS g srcs)]) ∧ Chg (fun _ => False) w w' := by
  obtain ⟨hc, h⟩ := h
  rcases h with ⟨h1, _⟩ | ⟨_, h1⟩
  · exact absurd h1 hz
  · exact ⟨h1, hc⟩
set_option maxRecDepth 100000 in
set_option maxHeartbeats 4000000 in
theorem okeys_any {B : Nat} (g : GrR) (srcs : List SrcR) (v sv0 : Value) (w : World) (hg : GrAt w v g) (hss : SrcsAt w sv0 srcs) (hT : TabsOK B w) (hB : B ≤ w.heap.size) : Calls Tryz.prog 19 #[v, sv0] w (KeysPost w g srcs) := by
  obtain ⟨oa, c, ob, d, iv, rfl, hs, ha⟩ := hg.form
  obtain ⟨os, cs, rfl⟩ := hss.form
  have hC1 : Chg (fun _ => False) w (w.alloc (.cells #[.slice oa g.srcs.length c, .slice ob g.acts.length d] 25)) := (Chg.refl _ w).alloc _
  have hl := laid_any g srcs _ _ _ iv _ (hs.chg hC1 (fun _ _ h => h)) (ha.chg hC1 (fun _ _ h => h)) (hss.chg hC1 (fun _ _ h => h))
  have hs1 : (w.alloc (.cells #[.slice oa g.srcs.length c, .slice ob g.acts.length d] 25)).heap.size = w.heap.size + 1 := by simp
  have HS := hid hs
  have HA := hid ha
  have HC1 := hid hC1
  have HS1 := hid hs1
  have HT := hid hT
  have HB := hid hB
  clear hs ha hss hg hC1 hs1 hT hB
  by_cases hz : checkS g srcs = 0
  · have hl2 := hl.mono (fun e w' h => h.done hz)
    have HZ := hid hz
    have HD := hid (checkS_zero.1 hz)
    clear hl hz
    go_enter Tryz.func19, Tryz.ntmps19
    go_wp2_with (first | (go_at_call 53; refine hl2.mono ?_; rintro e w2 ⟨b, r, kb, rfl, hc2, hk2, hr2, hkb2, hb2, hn1, hn2, hn3⟩; have HK2 := hid hk2; have HC2 := hid (HC1.out.trans hc2 (fun _ _ h => h)); have HN := hid (And.intro hn1 (And.intro hn2 hn3)); have HR2 := hid (And.intro hr2 hkb2); clear hc2 hk2 hr2 hkb2 hb2 hn1 hn2 hn3) | (go_at_call 54; refine (kmake_any g srcs HD.out w2 b r kb _ _ iv HK2.out HN.out.1 HN.out.2.1 HN.out.2.2 (HT.out.keep HC2.out) (by have := HB.out; have := HS1.out; have := HR2.out; omega) (by have := HB.out; have := HS1.out; have := HR2.out; omega) (fun W hW => ⟨HS.out.chg (HC2.out.trans hW (fun i hi h => by have := HS1.out; have := HR2.out; rcases h with h | h <;> omega)) (fun _ _ h => h), HA.out.chg (HC2.out.trans hW (fun i hi h => by have := HS1.out; have := HR2.out; rcases h with h | h <;> omega)) (fun _ _ h => h)⟩)).mono ?_; rintro e w3 ⟨rfl, hc3, hk3⟩; have b3 := cell_of hk3.blk 3; simp at b3; have HK3 := hid hk3; have HC3 := hid hc3; clear hc3 hk3))
    go_ret2
    refine ⟨HC2.out.trans HC3.out (fun i hi h => by have := HS1.out; have := HR2.out; rcases h with h | h <;> omega), _, by rw [HZ.out]; rfl, ?_⟩
    have h12 := HD.out.can.w.acts12
    unfold cntS
    rw [if_pos HZ.out]
    exact KeysAt.of_block HK3.out.keys (by omega)
  · have hl2 := hl.mono (fun e w' h => h.bad hz)
    have HZ := hid hz
    have hbe : ((checkS g srcs : Int) == 0) = false := by rw [beq_eq_false_iff_ne]; omega
    have hcn : cntS g srcs = 0 := if_neg hz
    have HCN := hid hcn
    obtain ⟨cn, hcne⟩ : ∃ cn, cn = checkS g srcs := ⟨_, rfl⟩
    rw [← hcne] at hl2 hbe
    have HE := hid hcne
    clear hl hz hcn hcne
    go_enter Tryz.func19, Tryz.ntmps19
    go_wp2_with (go_at_call 53; refine hl2.mono ?_; rintro e w2 ⟨rfl, hc2⟩)
    go_ret2
    refine ⟨HC1.out.trans hc2 (fun _ _ h => h), _, by rw [← HE.out]; rfl, ?_⟩
    rw [HCN.out]
    exact KeysAt.nil _ _
theorem elBlt : ElT Tryz.prog 29 53 3 40 := .mk' (z := .agg #[.string ByteArray.empty, .int .i64 0, .string ByteArray.empty]) Tryz.underlying29 (by kernel_rfl) rfl (by decide) rfl
end Go.Proofs.YthglfmacjoecgaaGreatDoor
