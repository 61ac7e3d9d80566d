/- Texts of the proof, one behind the other: BakerAnew walked. -/
import Derived.Test.YthglfmacjoecgaaGreatDoorMh34
import Derived.Deep.RegionHeld3
import Derived.Deep.CutBlock
namespace Go.Proofs.YthglfmacjoecgaaGreatDoor
open Go.RowKit

theorem bjob_nil (w : World) : Calls Tryz.prog 41 #[.pointer none] w (fun e w' => Chg (fun _ => False) w w' ∧ ∃ inV, e = .returned (.tuple #[.agg (jobA ByteArray.empty 0 ByteArray.empty inV zeroF), .bool false]) ∧ ResAt w' inV []) :=
  (bnext_nil w).mono (fun _e _w' h => ⟨h.2, .slice none 0 0, h.1, ResAt.nil _⟩)
theorem wrap_small (n : Int) : wrap64 ((IntKind.u64.wrap n).tmod 30) ≤ 29 := by
  have h0 : 0 ≤ IntKind.u64.wrap n := by
    simp only [IntKind.wrap, IntKind.signed, IntKind.bits]
    simp
    omega
  have h1 := Int.tmod_nonneg (30 : Int) h0
  have h2 := Int.tmod_lt_of_pos (IntKind.u64.wrap n) (show (0 : Int) < 30 by decide)
  generalize (IntKind.u64.wrap n).tmod 30 = m at *
  simp only [wrap64]
  omega
set_option maxRecDepth 100000 in
set_option maxHeartbeats 8000000 in
theorem banew_any {B : Nat} (g : GrR) (srcs : List SrcR) (g2 : GrR) (srcs2 : List SrcR) (n : Int) (stop : Bool) (v v2 : Value) (w : World) (hp : PlanAt w v g srcs) (hp2 : PlanAt w v2 g2 srcs2) (hT : TabsOK B w) (hB : B ≤ w.heap.size) : Calls Tryz.prog 12 #[v, v2, .int .i64 n, .bool stop] w (Rets (.bool true) (Chg (fun _ => False) w)) := by
  obtain ⟨oa, ca, oc, cc, os, cs, iv, rfl, hs, ha, hx⟩ := hp.form
  obtain ⟨oa2, ca2, oc2, cc2, os2, cs2, iv2, rfl, hs2, ha2, hx2⟩ := hp2.form
  have HP := hid hp
  have HP2 := hid hp2
  have HS := hid hs
  have HA := hid ha
  have HX := hid hx
  have HS2 := hid hs2
  have HA2 := hid ha2
  have HX2 := hid hx2
  have HT := hid hT
  have HBB := hid hB
  obtain ⟨O1, hO1⟩ : ∃ O1, O1 = Obj.cells #[.slice oa g.srcs.length ca, .slice oc g.acts.length cc, .slice os srcs.length cs] 79 (0, 0) := ⟨_, rfl⟩
  obtain ⟨O2, hO2⟩ : ∃ O2, O2 = Obj.cells #[.slice oa2 g2.srcs.length ca2, .slice oc2 g2.acts.length cc2, .slice os2 srcs2.length cs2] 79 (0, 0) := ⟨_, rfl⟩
  have HC1 := hid ((al_chg w O1).trans (al_chg _ O2) (fun _ _ h => h))
  have HG1 := hid (heap_alloc_old' (heap_alloc_new' w O1) O2)
  have hq1 := heap_alloc_new' (w.alloc O1) O2
  rw [show (w.alloc O1).heap.size = w.heap.size + 1 by simp] at hq1
  have HQ1 := hid hq1
  rw [hO1, hO2] at HC1 HG1 HQ1
  clear hp hs ha hx hT hB hp2 hs2 ha2 hx2 hq1 hO1 hO2
  have HAW := hid (bawake_any _ (HT.out.keep HC1.out) (Nat.le_trans HBB.out HC1.out.size))
  go_enter Tryz.func12, Tryz.ntmps12
  go_upto_region 3 with (go_at_call 37; refine HAW.out.mono ?_; rintro e w1 ⟨rfl, hc1⟩; have HC2 := hid (HC1.out.trans hc1 (fun _ _ h => h)); have HG2 := hid (hc1.obj HG1.out (fun h => h)); have HQ2 := hid (hc1.obj HQ1.out (fun h => h)); clear hc1)
  obtain ⟨pb, hpb⟩ : ∃ pb, pb = w.heap.size := ⟨_, rfl⟩
  have HCL : Hid (∀ W, Chg (fun _ => False) w1 W → (W.cell? ⟨pb, 0, none⟩ = some (.slice oa g.srcs.length ca) ∧ W.cell? ⟨pb, 1, none⟩ = some (.slice oc g.acts.length cc) ∧ W.cell? ⟨pb, 2, none⟩ = some (.slice os srcs.length cs)) ∧ W.cell? ⟨pb + 1, 0, none⟩ = some (.slice oa2 g2.srcs.length ca2) ∧ W.cell? ⟨pb + 1, 1, none⟩ = some (.slice oc2 g2.acts.length cc2) ∧ W.cell? ⟨pb + 1, 2, none⟩ = some (.slice os2 srcs2.length cs2)) := hid (fun W hW => by
    have k := hW.obj HG2.out (fun h => h)
    have k2 := hW.obj HQ2.out (fun h => h)
    rw [← hpb] at k k2
    exact ⟨⟨cell_of k 0, cell_of k 1, cell_of k 2⟩, cell_of k2 0, cell_of k2 1, cell_of k2 2⟩)
  rw [← hpb]
  clear hpb HAW HG1 HC1 HQ1 HG2 HQ2
  obtain ⟨⟨z0, z1, z2⟩, z3, z4, z5⟩ := HCL.out w1 (Chg.refl _ _)
  have HGR := hid (bgreat_any g srcs _ w1 (HP.out.chg HC2.out (fun _ _ h => h)))
  go_wp2_with fail
  refine HGR.out.mono ?_
  rintro e w2 ⟨B2, rfl, hc2⟩
  have HC3 := hid (HC2.out.trans hc2 (fun _ _ h => h))
  have HX3 := hid hc2
  clear hc2 z0 z1 z2 z3 z4 z5 HGR
  obtain ⟨⟨z0, z1, z2⟩, z3, z4, z5⟩ := HCL.out w2 HX3.out
  cases B2 with
  | true =>
    go_wp2_with fail
    go_ret
    exact ⟨rfl, HC3.out⟩
  | false =>
  have HGR2 := hid (bgreat_any g2 srcs2 _ w2 (HP2.out.chg HC3.out (fun _ _ h => h)))
  go_wp2_with fail
  refine HGR2.out.mono ?_
  rintro e w3 ⟨B3, rfl, hc3⟩
  have HC4 := hid (HC3.out.trans hc3 (fun _ _ h => h))
  have HX4 := hid (HX3.out.trans hc3 (fun _ _ h => h))
  clear hc3 z0 z1 z2 z3 z4 z5 HGR2 HC3 HX3 HC2
  cases B3 with
  | true =>
    go_wp2_with fail
    go_ret
    exact ⟨rfl, HC4.out⟩
  | false =>
  go_wp2_with fail
  refine (bnew_any _).mono ?_
  rintro e w5 ⟨b, r0, rfl, hb5, hbl, hrl, hc5⟩
  have HX6 := hid (HX4.out.trans hc5 (fun _ _ h => h))
  have HST := hid (bstart_plan HS.out HA.out HX.out hb5 (Nat.le_trans HC4.out.size hbl) (HC4.out.trans hc5 (fun _ _ h => h)) HT.out HBB.out)
  have HBL : Hid (w3.heap.size ≤ b ∧ w3.heap.size ≤ w5.heap.size) := hid ⟨hbl, hc5.size⟩
  have HC45 := hid hc5
  clear hb5 hbl hrl hc5
  obtain ⟨⟨z0, z1, z2⟩, _⟩ := HCL.out w5 HX6.out
  go_wp2_with fail
  refine HST.out.mono ?_
  rintro e w6 ⟨rfl, hc6, r, fp, sv2, av2, ov2, iv3, hb6, hr6, hf6⟩
  have HW6 : Hid (Chg (fun _ => False) w3 w6) := hid (HC45.out.trans hc6 (fun z hz e => by have := HBL.out; omega))
  have HSB : Hid (SomeBk w3 b w6) := hid ⟨HW6.out, r, fp, sv2, av2, ov2, iv3, _, Nat.le_trans HBL.out.2 hr6, hb6, size_start g srcs⟩
  have HBW : Hid (w3.heap.size ≤ b) := hid HBL.out.1
  clear hc6 hb6 hr6 hf6 HST HBL HC45 z0 z1 z2 HX6 HW6
  have HTW : Hid (∀ W, Chg (fun _ => False) w3 W → TabsOK B W ∧ B ≤ W.heap.size) := hid (fun W hW => ⟨HT.out.keep (HC4.out.trans hW (fun _ _ h => h)), Nat.le_trans HBB.out (HC4.out.trans hW (fun _ _ h => h)).size⟩)
  go_upto_block 0 with fail
  go_cut [10] from 10 to 65 (fun _ wx => Hid (SomeBk w3 b wx))
  case first =>
    go_upto_region 8 with fail
    go_loopw [10] (fun i wr => ∃ k : Nat, i = .int .i64 k ∧ k ≤ 30 ∧ Hid (SomeBk w3 b wr)) (fun i _ => 30 - (intOf i).toNat)
    case atStart => exact ⟨0, rfl, by decide, HSB⟩
    case round =>
      obtain ⟨k, rfl, hk, HS1⟩ := hrel
      have hws := wrap_small n
      by_cases hlt : (k : Int) < wrap64 ((IntKind.u64.wrap n).tmod 30)
      · have hk29 : k ≤ 28 := by omega
        obtain ⟨hch, r, fp, sv, av, ov, iv4, s, hr, hbk, hsz⟩ := HS1.out
        have HC := hid hch
        have HR := hid hr
        have HBK := hid hbk
        have HSZ := hid hsz
        have HJ := hid (bjob_any HBK.out HSZ.out (HTW.out _ HC.out).1 (HTW.out _ HC.out).2)
        unfold JobPost at HJ
        clear hch hr hbk hsz HS1
        cases hjs : s.js with
        | false =>
          rw [hjs] at HJ
          obtain ⟨jn, hjn⟩ : ∃ jn, jn = s.jn := ⟨_, rfl⟩
          obtain ⟨jp, hjp⟩ : ∃ jp, jp = s.jp := ⟨_, rfl⟩
          obtain ⟨jc, hjc⟩ : ∃ jc, jc = s.jc := ⟨_, rfl⟩
          obtain ⟨jk, hjk⟩ : ∃ jk, jk = s.jk := ⟨_, rfl⟩
          obtain ⟨ji, hji⟩ : ∃ ji, ji = s.ji := ⟨_, rfl⟩
          rw [← hjn, ← hjp, ← hjc, ← hjk, ← hji] at HJ
          clear hjn hjp hjc hjk hji hjs
          go_wp2_with (first | (go_at_call 41; refine HJ.out.mono ?_; rintro e u2 ⟨hc2, iv2, rfl, hin2⟩; obtain ⟨io2, ic2, rfl⟩ := hin2.form; have HIN2 := hid hin2; have HCA2 := hid hc2; clear hin2 hc2) | (guard_target =~ wpList _ _ _ (Oper.mk (some 11) _ _ _ _ _ :: _) _ _; refine wpList_alloc0 rfl 85 rfl noJob (allocJob _) ?_; intro v2 hk2 hs2 hc2; have HKA2 := hid hk2; have HCB2 := hid hc2; clear hk2 hs2 hc2) | (guard_target =~ wpList _ _ _ (Oper.mk none (Op.store _ (Operand.tmp 11) _) _ _ _ _ :: _) _ _; refine wpList_store0 rfl 85 _ _ rfl u2.heap.size noJob (jobA jn jp jc (.slice io2 ji.length ic2) jk) rfl rfl HKA2.out (by rw [jobA_size]; exact sizeJob) (by unfold noJob; rw [jobA_size, jobA_size]) (jobA_one _ _ _ _ rfl _) ?_; intro x2 hk2 hs2 hc2; have HK2 := hid hk2; have HD2 := hid (HCB2.out.trans hc2 (fun z hz e => by omega)); clear hk2 hs2 hc2 HKA2 HCB2))
          go_meet
          case rel => exact hid (SomeBk.same ⟨HC.out, r, fp, sv, av, ov, iv4, s, HR.out, HBK.out, HSZ.out⟩ (HCA2.out.trans HD2.out (fun _ _ h => h)))
        | true =>
          rw [hjs] at HJ
          obtain ⟨hzc, hzi, hzr⟩ := HSZ.out.job
          have HTK := hid (HSZ.out.took (rok_make s.jc s.ji))
          have hgo := give_took (x := makeF s.jc s.ji) hjs (makeF_ok _ _)
          obtain ⟨jn, hjn⟩ : ∃ jn, jn = s.jn := ⟨_, rfl⟩
          obtain ⟨jp, hjp⟩ : ∃ jp, jp = s.jp := ⟨_, rfl⟩
          obtain ⟨jc, hjc⟩ : ∃ jc, jc = s.jc := ⟨_, rfl⟩
          obtain ⟨jk, hjk⟩ : ∃ jk, jk = s.jk := ⟨_, rfl⟩
          obtain ⟨ji, hji⟩ : ∃ ji, ji = s.ji := ⟨_, rfl⟩
          rw [← hjn, ← hjp, ← hjc, ← hjk, ← hji] at HJ
          rw [← hjc, ← hji, ← hjp] at hgo
          rw [← hjc, ← hji] at HTK
          rw [← hjc] at hzc
          rw [← hji] at hzi hzr
          generalize s.took (makeF jc ji) = s' at *
          have HGO := hid hgo
          have HZJ := hid (And.intro hzc (And.intro hzi hzr))
          clear hjn hjp hjc hjk hji hjs hzc hzi hzr hgo
          go_upto_region 12 with (first | (go_at_call 41; refine HJ.out.mono ?_; rintro e u2 ⟨hc2, iv2, rfl, hin2⟩; obtain ⟨io2, ic2, rfl⟩ := hin2.form; have HIN2 := hid hin2; have HCA2 := hid hc2; clear hin2 hc2) | (guard_target =~ wpList _ _ _ (Oper.mk (some 11) _ _ _ _ _ :: _) _ _; refine wpList_alloc0 rfl 85 rfl noJob (allocJob _) ?_; intro v2 hk2 hs2 hc2; have HKA2 := hid hk2; have HCB2 := hid hc2; clear hk2 hs2 hc2) | (guard_target =~ wpList _ _ _ (Oper.mk none (Op.store _ (Operand.tmp 11) _) _ _ _ _ :: _) _ _; refine wpList_store0 rfl 85 _ _ rfl u2.heap.size noJob (jobA jn jp jc (.slice io2 ji.length ic2) jk) rfl rfl HKA2.out (by rw [jobA_size]; exact sizeJob) (by unfold noJob; rw [jobA_size, jobA_size]) (jobA_one _ _ _ _ rfl _) ?_; intro x2 hk2 hs2 hc2; have HK2 := hid hk2; have HD2 := hid (HCB2.out.trans hc2 (fun z hz e => by omega)); clear hk2 hs2 hc2 HKA2 HCB2))
          have hz2 := HCA2.out.trans HD2.out (fun _ _ h => h)
          have HC2 := hid (HC.out.trans hz2 (fun _ _ h => h))
          have HB2 := hid (HBK.out.same hz2)
          have HIN3 := hid (HIN2.out.chg HD2.out (fun _ _ h => h))
          obtain ⟨jb, hjb⟩ : ∃ jb, jb = u2.heap.size := ⟨_, rfl⟩
          rw [← hjb] at HK2 ⊢
          have HJB : Hid (jb ≠ b ∧ jb ≠ r) := hid (by have h1 := heap_lt HBK.out.blk; have h2 := HBK.out.map.lt; have h3 := HCA2.out.size; omega)
          obtain ⟨y0, y1, y2, y3⟩ := job_cells HK2.out
          have hxd : Chg (fun _ => False) x2 x2.drew := (Chg.refl _ _).drew
          have HMK := hid (make_any jc HZJ.out.1 ji HZJ.out.2.1 (fun r hr => (HZJ.out.2.2 r hr).1) (.slice io2 ji.length ic2) x2.drew (HIN3.out.chg hxd (fun _ _ h => h)) (HTW.out _ (HC2.out.trans hxd (fun _ _ h => h))).1 (HTW.out _ (HC2.out.trans hxd (fun _ _ h => h))).2)
          have HXD := hid hxd
          have hmz : (makeF jc ji).2.size ≤ maxLen := by have := (rok_make jc ji).1; unfold maxLen; omega
          have HJF : Hid (∀ W, Chg (fun k => k = b ∨ k = r) x2 W → W.cell? ⟨jb, 1, none⟩ = some (.int .i64 jp) ∧ W.cell? ⟨jb, 2, none⟩ = some (.string jc) ∧ W.cell? ⟨jb, 3, none⟩ = some (.slice io2 ji.length ic2)) := hid (fun W hW => by
            have hno : ¬ (jb = b ∨ jb = r) := fun e => by have := HJB.out; omega
            exact ⟨hW.cell y1 hno, hW.cell y2 hno, hW.cell y3 hno⟩)
          clear hxd y0 y1 y2 y3 hz2 hjb HCA2 HD2 HJ HIN2
          refine wp_region_held_drew (S := fun W => Chg (fun k => k = b ∨ k = r) x2 W) (by kernel_rfl) ((Chg.refl _ x2).drew) (fun hd => ?_)
          refine wpAnyH_takeDK (i := 0) (v := .pointer (some ⟨b, 0, none⟩)) (some 56) rfl (by kernel_rfl) (by kernel_rfl) (by kernel_rfl) (by kernel_rfl) (fun _ _ _ h => h) (.inl ⟨by kernel_rfl, fun W _ => by kernel_rfl⟩) hd ?_
          refine wpAnyH_takeDK (i := 1) (v := .pointer (some ⟨jb, 1, none⟩)) (some 57) rfl (by kernel_rfl) (by kernel_rfl) (by kernel_rfl) (by kernel_rfl) (fun _ _ _ h => h) (.inl ⟨by kernel_rfl, fun W _ => by kernel_rfl⟩) hd ?_
          refine wpAnyH_takeDK (i := 2) (v := .int .i64 jp) (some 58) rfl (by kernel_rfl) (by kernel_rfl) (by kernel_rfl) (by kernel_rfl) (fun _ _ _ h => h) (yieldsIf_load1K (by kernel_rfl) 3 (.tmp 57) (by kernel_rfl) jb 1 _ (by kernel_rfl) (fun W hW => load_int (HJF.out W hW).1)) hd ?_
          refine wpAnyH_takeDK (i := 3) (v := .pointer (some ⟨jb, 2, none⟩)) (some 59) rfl (by kernel_rfl) (by kernel_rfl) (by kernel_rfl) (by kernel_rfl) (fun _ _ _ h => h) (.inl ⟨by kernel_rfl, fun W _ => by kernel_rfl⟩) hd ?_
          refine wpAnyH_takeDK (i := 4) (v := .string jc) (some 60) rfl (by kernel_rfl) (by kernel_rfl) (by kernel_rfl) (by kernel_rfl) (fun _ _ _ h => h) (yieldsIf_load1K (by kernel_rfl) 9 (.tmp 59) (by kernel_rfl) jb 2 _ (by kernel_rfl) (fun W hW => load_strK (HJF.out W hW).2.1)) hd ?_
          refine wpAnyH_takeDK (i := 5) (v := .pointer (some ⟨jb, 3, none⟩)) (some 61) rfl (by kernel_rfl) (by kernel_rfl) (by kernel_rfl) (by kernel_rfl) (fun _ _ _ h => h) (.inl ⟨by kernel_rfl, fun W _ => by kernel_rfl⟩) hd ?_
          refine wpAnyH_takeDK (i := 6) (v := .slice io2 ji.length ic2) (some 62) rfl (by kernel_rfl) (by kernel_rfl) (by kernel_rfl) (by kernel_rfl) (fun _ _ _ h => h) (yieldsIf_load1K (by kernel_rfl) 58 (.tmp 61) (by kernel_rfl) jb 3 _ (by kernel_rfl) (fun W hW => load_ress2 (HJF.out W hW).2.2)) hd ?_
          try simp only [Act.put, List.setIfInBounds_toArray, List.set_cons_zero, List.set_cons_succ]
          refine wpAnyH_all (rs := [7]) (by kernel_rfl) (by simp) (fun i hi => ?_)
          obtain rfl : i = 7 := by simpa using hi
          refine wpOp_step rfl (fun K1 hK1 => ?_)
          refine Eq.mpr (if_pos (by kernel_rfl)) ?_
          go_wp2_with (go_at_call 30; refine HMK.out.mono ?_; rintro e w8 ⟨rfl, hc8⟩; have HX8 := hid hc8; clear hc8)
          have hd1 := hd.trans (HX8.out.mono (fun _ _ h => h.elim)) (fun _ _ h => h)
          refine ⟨hd1, ?_⟩
          try simp only [Act.put, List.setIfInBounds_toArray, List.set_cons_zero, List.set_cons_succ, Array.toArray_toList]
          refine wpAnyH_all (rs := [8]) (by kernel_rfl) (by simp) (fun i hi => ?_)
          obtain rfl : i = 8 := by simpa using hi
          refine wpOp_step rfl (fun K2 hK2 => ?_)
          refine Eq.mpr (if_pos (by kernel_rfl)) ?_
          go_wp2_with (go_at_call 44; refine (bgive_any (HB2.out.same (HXD.out.trans HX8.out (fun _ _ h => h))) HSZ.out (HTW.out _ (HC2.out.trans (HXD.out.trans HX8.out (fun _ _ h => h)) (fun _ _ h => h))).1 (HTW.out _ (HC2.out.trans (HXD.out.trans HX8.out (fun _ _ h => h)) (fun _ _ h => h))).2 jp (makeF jc ji) hmz).mono ?_; rintro e w9 ⟨he9, ⟨hcg, hb9⟩, _⟩; rw [HGO.out] at he9 hb9; subst he9; have HB9 := hid hb9; have HC9 := hid ((HC2.out.trans (HXD.out.trans HX8.out (fun _ _ h => h)) (fun _ _ h => h)).trans hcg (fun z hz e => by have h1 := HR.out; have h2 := HBW.out; omega)); clear hb9)
          have hd2 := hd1.trans hcg (fun _ _ h => h)
          refine ⟨hd2, ?_⟩
          refine wpAnyH_takeDK (i := 9) (v := .bool false) (some 65) rfl (by kernel_rfl) (by kernel_rfl) (by kernel_rfl) (by kernel_rfl) (fun _ _ _ h => h) (.inl ⟨by kernel_rfl, fun W _ => by kernel_rfl⟩) hd2 ?_
          try simp only [Act.put, List.setIfInBounds_toArray, List.set_cons_zero, List.set_cons_succ]
          refine wpAnyH_done (by kernel_rfl) ?_ _
          go_wp2_with fail
          go_roundw
          case rel => exact ⟨k + 1, by go_num, by omega, hid ⟨HC9.out, r, fp, sv, av, ov, iv4, s', HR.out, HB9.out, HTK.out⟩⟩
          case measure => simp [intOf]; omega
      · go_wp2_with fail
        go_meet
        case rel => exact HS1
  case rest =>
    have HW1 := hcut
    clear hcut HSB
    obtain ⟨wd, hwd⟩ : ∃ wd, wd = wc := ⟨_, rfl⟩
    subst hwd
    go_upto_if 66 with fail
    go_cut [66] from 66 to 95 (fun _ wx => Hid (SomeBk w3 b wx))
    case first =>
      cases stop with
      | false =>
        go_wp2_with fail
        go_meet
        case rel => exact HW1
      | true =>
        obtain ⟨hch, r, fp, sv, av, ov, iv4, s, hr, hbk, hsz⟩ := HW1.out
        have HC := hid hch
        have HR := hid hr
        have HBK := hid hbk
        have HSP := hid (bstop_any hbk)
        have HST := hid (bstate_any hbk)
        have hsz2 := hsz.stop
        clear hch hr hbk hsz HW1
        have hts : s.stop.js = false := by
          unfold BkS.js BkS.next BkS.stop
          by_cases h1 : s.st = 1 <;> simp [h1]
        have htt : (s.st = 1 ∧ s.stop.st = 3) ∨ (s.st ≠ 1 ∧ s.stop.st = s.st) := by
          unfold BkS.stop
          by_cases h1 : s.st = 1 <;> simp [h1]
        generalize s.st = q at *
        generalize s.stop = s' at *
        have HSZ := hid hsz2
        have HTS := hid hts
        clear hsz2 hts
        go_wp2_with fail
        refine HST.out.mono ?_
        rintro e w7 ⟨rfl, rfl⟩
        go_wp2_with fail
        refine HSP.out.mono ?_
        rintro e w8 ⟨rfl, hct, hb8⟩
        have HC8 := hid (HC.out.trans hct (fun z hz e => by have h1 := HR.out; have h2 := HBW.out; omega))
        have HB8 := hid hb8
        have HJ := hid (bjob_any hb8 HSZ.out (HTW.out _ HC8.out).1 (HTW.out _ HC8.out).2)
        unfold JobPost at HJ
        rw [HTS.out] at HJ
        clear hct hb8 HST HSP
        obtain ⟨jn, hjn⟩ : ∃ jn, jn = s'.jn := ⟨_, rfl⟩
        obtain ⟨jp, hjp⟩ : ∃ jp, jp = s'.jp := ⟨_, rfl⟩
        obtain ⟨jc, hjc⟩ : ∃ jc, jc = s'.jc := ⟨_, rfl⟩
        obtain ⟨jk, hjk⟩ : ∃ jk, jk = s'.jk := ⟨_, rfl⟩
        obtain ⟨ji, hji⟩ : ∃ ji, ji = s'.ji := ⟨_, rfl⟩
        rw [← hjn, ← hjp, ← hjc, ← hjk, ← hji] at HJ
        clear hjn hjp hjc hjk hji
        go_upto_region 18 with (first | (go_at_call 41; refine HJ.out.mono ?_; rintro e u4 ⟨hc4, iv4, rfl, hin4⟩; obtain ⟨io4, ic4, rfl⟩ := hin4.form; have HIN4 := hid hin4; have HCA4 := hid hc4; clear hin4 hc4) | (guard_target =~ wpList _ _ _ (Oper.mk (some 14) _ _ _ _ _ :: _) _ _; refine wpList_alloc0 rfl 85 rfl noJob (allocJob _) ?_; intro v4 hk4 hs4 hc4; have HKA4 := hid hk4; have HCB4 := hid hc4; clear hk4 hs4 hc4) | (guard_target =~ wpList _ _ _ (Oper.mk none (Op.store _ (Operand.tmp 14) _) _ _ _ _ :: _) _ _; refine wpList_store0 rfl 85 _ _ rfl u4.heap.size noJob (jobA jn jp jc (.slice io4 ji.length ic4) jk) rfl rfl HKA4.out (by rw [jobA_size]; exact sizeJob) (by unfold noJob; rw [jobA_size, jobA_size]) (jobA_one _ _ _ _ rfl _) ?_; intro x4 hk4 hs4 hc4; have HK4 := hid hk4; have HD4 := hid (HCB4.out.trans hc4 (fun z hz e => by omega)); clear hk4 hs4 hc4 HKA4 HCB4))
        have HC9 := hid (HC8.out.trans (HCA4.out.trans HD4.out (fun _ _ h => h)) (fun _ _ h => h))
        have HB9 := hid (HB8.out.same (HCA4.out.trans HD4.out (fun _ _ h => h)))
        have HST := hid (bstate_any HB9.out)
        rcases htt with ⟨rfl, h3⟩ | ⟨h1, h3⟩
        · rw [h3] at HST
          clear h3
          go_wp2_with (go_at_call 42; refine HST.out.mono ?_; rintro e w10 ⟨rfl, rfl⟩)
          go_meet
          case rel => exact hid ⟨HC9.out, r, fp, sv, av, ov, iv4, s', HR.out, HB9.out, HSZ.out⟩
        · rw [h3] at HST
          have d1 : ((q : Int) == 1) = false := by rw [beq_eq_false_iff_ne]; omega
          have d2 : ((q : Int) != 1) = true := by rw [bne_iff_ne]; omega
          clear h3 h1
          go_wp2_with (go_at_call 42; refine HST.out.mono ?_; rintro e w10 ⟨rfl, rfl⟩)
          go_meet
          case rel => exact hid ⟨HC9.out, r, fp, sv, av, ov, iv4, s', HR.out, HB9.out, HSZ.out⟩
    case rest =>
      have HW2 := hcut
      clear hcut HW1
      obtain ⟨wf, hwf⟩ : ∃ wf, wf = wc := ⟨_, rfl⟩
      subst hwf
      obtain ⟨hch, r, fp, sv, av, ov, iv4, s, hr, hbk, hsz⟩ := HW2.out
      have HCF := hid hch
      have HBF := hid hbk
      clear hch hr hbk hsz HW2
      go_wp2_with fail
      refine (bnew_any _).mono ?_
      rintro e w7 ⟨c, r0', rfl, hb7, hcl, hrl, hc7⟩
      have HC7 := hid (HCF.out.trans hc7 (fun _ _ h => h))
      have HA7 := hid (HBF.out.same hc7)
      have HB7 := hid hb7
      have HCN : Hid (wf.heap.size ≤ c ∧ wf.heap.size ≤ r0' ∧ b < wf.heap.size ∧ c < w7.heap.size) := hid ⟨hcl, hrl, heap_lt HBF.out.blk, heap_lt hb7.blk⟩
      have HSA := hid (bstart_plan HS2.out HA2.out HX2.out HA7.out (Nat.le_trans HC4.out.size HBW.out) (HC4.out.trans HC7.out (fun _ _ h => h)) HT.out HBB.out)
      obtain ⟨_, z3, z4, z5⟩ := HCL.out w7 (HX4.out.trans HC7.out (fun _ _ h => h))
      clear hb7 hcl hrl hc7
      go_wp2_with fail
      refine HSA.out.mono ?_
      rintro e w8 ⟨rfl, hc8, r1, fp1, sv1, av1, ov1, iv1, hb8, hr8, hf8⟩
      have HC8 := hid (HC7.out.trans hc8 (fun z hz e => by have h2 := HBW.out; omega))
      have HA8 := hid hb8
      have HAF : Hid (w7.heap.size ≤ r1 ∧ ∀ k, fp1 k → w7.heap.size ≤ k) := hid ⟨hr8, hf8⟩
      have HB8 := hid (HB7.out.keep hc8 (by have := HCN.out; omega) (by have := HCN.out; omega) (fun _ h => h.elim))
      have HSC := hid (bstart_plan HS2.out HA2.out HX2.out HB8.out (Nat.le_trans (HC4.out.trans HCF.out (fun _ _ h => h)).size HCN.out.1) (HC4.out.trans HC8.out (fun _ _ h => h)) HT.out HBB.out)
      clear hc8 hb8 hr8 hf8 z3 z4 z5 HSA
      obtain ⟨_, z3, z4, z5⟩ := HCL.out w8 (HX4.out.trans HC8.out (fun _ _ h => h))
      go_wp2_with fail
      refine HSC.out.mono ?_
      rintro e w9 ⟨rfl, hc9, r2, fp2, sv2, av2, ov2, iv2, hb9, hr9, hf9⟩
      have HC9 := hid (HC8.out.trans hc9 (fun z hz e => by have h1 := HCN.out; have h2 := HCF.out.size; omega))
      have HB9 := hid hb9
      have HA9 := hid (HA8.out.keep hc9 (by have := HCN.out; omega) (by have := HCN.out; have := HAF.out.1; omega) (fun k hk e => by have := HCN.out; have := HAF.out.2 k hk; omega))
      clear hc9 hb9 hr9 hf9 z3 z4 z5 HSC HA8 HB8 HA7 HB7
      have hnm : ∀ a ∈ (BkS.start g2 srcs2).g.acts, a.name.length ≤ maxLen := by
        by_cases hz : checkS g2 srcs2 = 0
        · rw [start_ok hz]
          exact fun a h => (HA2.out.wide a h).1
        · rw [start_bad hz]
          intro a h
          cases h
      have HSZ := hid (size_start g2 srcs2)
      generalize BkS.start g2 srcs2 = s' at *
      have HOK := hid (out_ok HSZ.out hnm)
      have HST := hid (fun (W : World) (b r : Nat) (fp : Nat → Prop) (sv av ov : Value) (iv : Nat → Value) (hW : IsBk W b r fp sv av ov iv s') => bstate_any hW)
      have HRS := hid (fun (W : World) (b r : Nat) (fp : Nat → Prop) (sv av ov : Value) (iv : Nat → Value) (hW : IsBk W b r fp sv av ov iv s') => bresults_any hW HSZ.out.n2)
      have HJ := hid (fun (W : World) (b r : Nat) (fp : Nat → Prop) (sv av ov : Value) (iv : Nat → Value) (hW : IsBk W b r fp sv av ov iv s') (hc : Chg (fun _ => False) w3 W) => bjob_any hW HSZ.out (HTW.out _ hc).1 (HTW.out _ hc).2)
      unfold JobPost at HJ
      unfold ResultsPost at HRS
      have hnq : ((s'.st : Int) != (s'.st : Int)) = false := by simp
      obtain ⟨jn, hjn⟩ : ∃ jn, jn = s'.jn := ⟨_, rfl⟩
      obtain ⟨jp, hjp⟩ : ∃ jp, jp = s'.jp := ⟨_, rfl⟩
      obtain ⟨jc, hjc⟩ : ∃ jc, jc = s'.jc := ⟨_, rfl⟩
      obtain ⟨jk, hjk⟩ : ∃ jk, jk = s'.jk := ⟨_, rfl⟩
      obtain ⟨ji, hji⟩ : ∃ ji, ji = s'.ji := ⟨_, rfl⟩
      obtain ⟨js, hjs⟩ : ∃ js, js = s'.js := ⟨_, rfl⟩
      obtain ⟨ol, hol⟩ : ∃ ol, ol = s'.out := ⟨_, rfl⟩
      obtain ⟨st, hst⟩ : ∃ st : Int, st = s'.st := ⟨_, rfl⟩
      rw [← hjn, ← hjp, ← hjc, ← hjk, ← hji, ← hjs] at HJ
      rw [← hol] at HRS HOK
      rw [← hst] at HST hnq
      have HSM := hid (sameB_eqK _ HOK.out)
      clear hjn hjp hjc hjk hji hjs hol hst hnm
      have hce : ((checkS g2 srcs2 : Int) != (checkS g2 srcs2 : Int)) = false := by simp
      generalize checkS g2 srcs2 = cz at *
      go_wp2_with fail
      refine (HST.out _ _ _ _ _ _ _ _ HA9.out).mono ?_
      rintro e w10 ⟨rfl, rfl⟩
      go_wp2_with fail
      refine (HST.out _ _ _ _ _ _ _ _ HB9.out).mono ?_
      rintro e w11 ⟨rfl, rfl⟩
      go_wp2_with fail
      refine (HRS.out _ _ _ _ _ _ _ _ HA9.out).mono ?_
      rintro e w12 ⟨hc12, v12, rfl, hb12⟩
      obtain ⟨ro, rc, rfl⟩ := hb12.form
      have HL12 := hid hb12
      have HC12 := hid (HC9.out.trans hc12 (fun _ _ h => h))
      have HA12 := hid (HA9.out.same hc12)
      have HB12 := hid (HB9.out.same hc12)
      clear hc12 hb12 HA9 HB9
      go_wp2_with fail
      refine (HRS.out _ _ _ _ _ _ _ _ HB12.out).mono ?_
      rintro e w13 ⟨hc13, v13, rfl, hb13⟩
      obtain ⟨ro2, rc2, rfl⟩ := hb13.form
      have HM13 := hid hb13
      have HL13 := hid (HL12.out.chg hc13 (fun _ _ h => h))
      have HC13 := hid (HC12.out.trans hc13 (fun _ _ h => h))
      have HA13 := hid (HA12.out.same hc13)
      have HB13 := hid (HB12.out.same hc13)
      clear hc13 hb13 HA12 HB12 HL12
      go_wp2_with fail
      refine (HSM.out _ _ _ HL13.out HM13.out).mono ?_
      rintro e w14 ⟨rfl, hc14⟩
      have HC14 := hid (HC13.out.trans hc14 (fun _ _ h => h))
      have HA14 := hid (HA13.out.same hc14)
      have HB14 := hid (HB13.out.same hc14)
      have HJA := hid (HJ.out _ _ _ _ _ _ _ _ HA14.out HC14.out)
      clear hc14 HA13 HB13 HL13 HM13 HRS
      go_upto_region 26 with (first | (go_at_call 41; refine HJA.out.mono ?_; rintro e u5 ⟨hc5, iv5, rfl, hin5⟩; obtain ⟨io5, ic5, rfl⟩ := hin5.form; have HIN5 := hid hin5; have HCA5 := hid hc5; clear hin5 hc5) | (guard_target =~ wpList _ _ _ (Oper.mk (some 19) _ _ _ _ _ :: _) _ _; refine wpList_alloc0 rfl 85 rfl noJob (allocJob _) ?_; intro v5 hk5 hs5 hc5; have HKA5 := hid hk5; have HCB5 := hid hc5; clear hk5 hs5 hc5) | (guard_target =~ wpList _ _ _ (Oper.mk none (Op.store _ (Operand.tmp 19) _) _ _ _ _ :: _) _ _; refine wpList_store0 rfl 85 _ _ rfl u5.heap.size noJob (jobA jn jp jc (.slice io5 ji.length ic5) jk) rfl rfl HKA5.out (by rw [jobA_size]; exact sizeJob) (by unfold noJob; rw [jobA_size, jobA_size]) (jobA_one _ _ _ _ rfl _) ?_; intro x5 hk5 hs5 hc5; have HK5 := hid hk5; have HD5 := hid (HCB5.out.trans hc5 (fun z hz e => by omega)); clear hk5 hs5 hc5 HKA5 HCB5))
      have hz5 := HCA5.out.trans HD5.out (fun _ _ h => h)
      have HC15 := hid (HC14.out.trans hz5 (fun _ _ h => h))
      have HB15 := hid (HB14.out.same hz5)
      have HJB := hid (HJ.out _ _ _ _ _ _ _ _ HB15.out HC15.out)
      obtain ⟨jb, hjb⟩ : ∃ jb, jb = u5.heap.size := ⟨_, rfl⟩
      rw [← hjb] at HK5 ⊢
      clear hz5 hjb HCA5 HD5 HJA HIN5 HA14 HB14
      go_upto_region 27 with (first | (go_at_call 41; refine HJB.out.mono ?_; rintro e u6 ⟨hc6, iv6, rfl, hin6⟩; obtain ⟨io6, ic6, rfl⟩ := hin6.form; have HIN6 := hid hin6; have HCA6 := hid hc6; clear hin6 hc6) | (guard_target =~ wpList _ _ _ (Oper.mk (some 21) _ _ _ _ _ :: _) _ _; refine wpList_alloc0 rfl 85 rfl noJob (allocJob _) ?_; intro v6 hk6 hs6 hc6; have HKA6 := hid hk6; have HCB6 := hid hc6; clear hk6 hs6 hc6) | (guard_target =~ wpList _ _ _ (Oper.mk none (Op.store _ (Operand.tmp 21) _) _ _ _ _ :: _) _ _; refine wpList_store0 rfl 85 _ _ rfl u6.heap.size noJob (jobA jn jp jc (.slice io6 ji.length ic6) jk) rfl rfl HKA6.out (by rw [jobA_size]; exact sizeJob) (by unfold noJob; rw [jobA_size, jobA_size]) (jobA_one _ _ _ _ rfl _) ?_; intro x6 hk6 hs6 hc6; have HK6 := hid hk6; have HD6 := hid (HCB6.out.trans hc6 (fun z hz e => by omega)); clear hk6 hs6 hc6 HKA6 HCB6))
      have hz6 := HCA6.out.trans HD6.out (fun _ _ h => h)
      have HC16 := hid (HC15.out.trans hz6 (fun _ _ h => h))
      have HK16 := hid (hz6.obj HK5.out (fun h => h))
      obtain ⟨jb2, hjb2⟩ : ∃ jb2, jb2 = u6.heap.size := ⟨_, rfl⟩
      rw [← hjb2] at HK6 ⊢
      clear hz6 hjb2 HCA6 HD6 HJB HIN6 HB15 HJ HK5
      have HJN := hid (bjob_nil x6)
      go_upto_region 29 with (first | (go_at_call 41; refine HJN.out.mono ?_; rintro e u7 ⟨hc7, iv7, rfl, hin7⟩; obtain ⟨io7, ic7, rfl⟩ := hin7.form; have HIN7 := hid hin7; have HCA7 := hid hc7; clear hin7 hc7) | (guard_target =~ wpList _ _ _ (Oper.mk (some 24) _ _ _ _ _ :: _) _ _; refine wpList_alloc0 rfl 85 rfl noJob (allocJob _) ?_; intro v7 hk7 hs7 hc7; have HKA7 := hid hk7; have HCB7 := hid hc7; clear hk7 hs7 hc7) | (guard_target =~ wpList _ _ _ (Oper.mk none (Op.store _ (Operand.tmp 24) _) _ _ _ _ :: _) _ _; refine wpList_store0 rfl 85 _ _ rfl u7.heap.size noJob (jobA ByteArray.empty 0 ByteArray.empty (.slice io7 0 ic7) zeroF) rfl rfl HKA7.out (by rw [jobA_size]; exact sizeJob) (by unfold noJob; rw [jobA_size, jobA_size]) (jobA_one _ _ _ _ rfl _) ?_; intro x7 hk7 hs7 hc7; have HK7 := hid hk7; have HD7 := hid (HCB7.out.trans hc7 (fun z hz e => by omega)); clear hk7 hs7 hc7 HKA7 HCB7))
      have hz7 := HCA7.out.trans HD7.out (fun _ _ h => h)
      have HC17 := hid (HC16.out.trans hz7 (fun _ _ h => h))
      have HK17 := hid (hz7.obj HK16.out (fun h => h))
      have HK18 := hid (hz7.obj HK6.out (fun h => h))
      clear hz7 HCA7 HD7 HJN HIN7 HK7 HK6 HK16
      go_wp2_with fail
      refine (bstop_nil _).mono ?_
      rintro e w18 ⟨rfl, rfl⟩
      obtain ⟨y0, y1, y2, y3⟩ := job_cells HK17.out
      obtain ⟨v0, v1, v2, v3⟩ := job_cells HK18.out
      obtain ⟨_, z3, z4, z5⟩ := HCL.out x7 (HX4.out.trans HC17.out (fun _ _ h => h))
      have HGN := hid (bstart_nil g2 (.agg #[.slice oa2 g2.srcs.length ca2, .slice oc2 g2.acts.length cc2]) (.slice none 0 0) x7 ⟨_, _, _, rfl, HS2.out.chg (HC4.out.trans HC17.out (fun _ _ h => h)) (fun _ _ h => h), HA2.out.chg (HC4.out.trans HC17.out (fun _ _ h => h)) (fun _ _ h => h)⟩)
      go_wp2_with (first | (guard_target =~ wpList _ _ _ (Oper.mk (some 156) _ _ _ _ _ :: _) _ _; refine wpList_loadWV (by first | kernel_rfl | simp [Region.wanted, yielded]) 57 _ rfl jb 4 _ rfl (load_digK (job_range HK17.out)) ?_) | (guard_target =~ wpList _ _ _ (Oper.mk (some 158) _ _ _ _ _ :: _) _ _; refine wpList_loadWV (by first | kernel_rfl | simp [Region.wanted, yielded]) 57 _ rfl jb2 4 _ rfl (load_digK (job_range HK18.out)) ?_) | (guard_target =~ wpList _ _ _ (Oper.mk (some 159) _ _ _ _ _ :: _) _ _; refine wpList_cmpWV (by first | kernel_rfl | simp [Region.wanted, yielded]) .eql 57 57 _ _ rfl _ _ rfl rfl (by kernel_rfl) true (eq_dig_sameK jk _) ?_) | (go_at_call 42; refine (bstate_nil _).mono ?_; rintro e w19 ⟨rfl, rfl⟩) | (go_at_call 43; refine (bresults_nil _).mono ?_; rintro e w20 ⟨rfl, rfl⟩) | (go_at_call 40; refine HGN.out.mono ?_; rintro e w21 ⟨rfl, hc21⟩; have HC21 := hid (HC17.out.trans hc21 (fun _ _ h => h)); clear hc21) | (go_at_call 44; refine (bgive_nil _ (0, ByteArray.empty) _).mono ?_; rintro e w22 ⟨rfl, hc22⟩; have HC22 := hid (HC21.out.trans hc22 (fun _ _ h => h)); clear hc22))
      go_ret
      exact ⟨rfl, HC4.out.trans HC22.out (fun _ _ h => h)⟩
end Go.Proofs.YthglfmacjoecgaaGreatDoor
