/- Texts of the proof, one behind the other: BakerOrders walked. -/
import Derived.Test.YthglfmacjoecgaaGreatDoorMg34
import Derived.Deep.RegionHeld3
namespace Go.Proofs.YthglfmacjoecgaaGreatDoor
open Go.RowKit

/-- Whether a right result of a name lies among these; .. or the name is a source's. -/
def GotIn (l : List BltR) (x : Nm) (B : Bool) : Prop := B = true ↔ ∃ y ∈ l, y.1 = x ∧ y.2.1 = 0
def NeedIn (S : List Nm) (l : List BltR) (x : Nm) (B : Bool) : Prop := B = true ↔ (x ∈ S ∨ ∃ y ∈ l, y.1 = x ∧ y.2.1 = 0)
theorem GotIn.nil (l : List BltR) (x : Nm) : GotIn (l.take 0) x false := by unfold GotIn; simp
theorem GotIn.step {l : List BltR} {x : Nm} {B C : Bool} {n : Nat} (h : GotIn (l.take n) x B) (hn : n < l.length) (hC : C = (B || (decide (l[n].1 = x) && decide (l[n].2.1 = 0)))) : GotIn (l.take (n + 1)) x C := by
  unfold GotIn at *
  rw [List.take_succ_eq_append_getElem hn, hC]
  simp only [Bool.or_eq_true, Bool.and_eq_true, decide_eq_true_eq, List.mem_append, List.mem_singleton]
  constructor
  · rintro (h1 | h1)
    · obtain ⟨y, hy, h2⟩ := h.1 h1
      exact ⟨y, .inl hy, h2⟩
    · exact ⟨l[n], .inr rfl, h1⟩
  · rintro ⟨y, hy | rfl, h2⟩
    · exact .inl (h.2 ⟨y, hy, h2⟩)
    · exact .inr h2
theorem NeedIn.nil {l : List BltR} {x : Nm} {B : Bool} (S : List Nm) (h : GotIn (l.take l.length) x B) : NeedIn (S.take 0) l x B := by
  unfold GotIn at h
  unfold NeedIn
  rw [List.take_length] at h
  simpa using h
theorem NeedIn.step {S : List Nm} {l : List BltR} {x : Nm} {B C : Bool} {n : Nat} (h : NeedIn (S.take n) l x B) (hn : n < S.length) (hC : C = (B || decide (S[n] = x))) : NeedIn (S.take (n + 1)) l x C := by
  unfold NeedIn at *
  rw [List.take_succ_eq_append_getElem hn, hC]
  simp only [Bool.or_eq_true, decide_eq_true_eq, List.mem_append, List.mem_singleton]
  rw [h, eq_comm (a := S[n])]
  constructor
  · rintro ((h1 | h1) | h1)
    · exact .inl (.inl h1)
    · exact .inr h1
    · exact .inl (.inr h1)
  · rintro ((h1 | h1) | h1)
    · exact .inl (.inl h1)
    · exact .inr h1
    · exact .inl (.inr h1)
/-- The result that is given: none that fails has a blob. -/
def fixR (r : ResR) : ResR := (r.1, if r.1 = 0 then r.2 else ByteArray.empty)
theorem fixR_ok {r : ResR} (h : r.2.size ≤ 512) : resOK (fixR r) = true := by
  unfold resOK fixR
  by_cases h0 : r.1 = 0 <;> simp [h0, h]
theorem fixR_rok {r : ResR} (hw : (Lit.int .i64 r.1).wf = true) (h : r.2.size ≤ 512) : ROK (fixR r) := by
  have h2 := wf_codes hw
  unfold ROK fixR
  refine ⟨?_, h2.1, h2.2⟩
  by_cases h0 : r.1 = 0
  · simp only [if_pos h0]; omega
  · simp only [if_neg h0]; decide
set_option maxRecDepth 100000 in
set_option maxHeartbeats 8000000 in
theorem borders_any {B : Nat} (g : GrR) (srcs : List SrcR) (rs : List ResR) (hrw : ∀ r ∈ rs, (Lit.int .i64 r.1).wf = true) (v rv : Value) (w : World) (hp : PlanAt w v g srcs) (hrv : ResAt w rv rs) (hT : TabsOK B w) (hB : B ≤ w.heap.size) : Calls Tryz.prog 14 #[v, rv] w (Rets (.bool true) (Chg (fun _ => False) w)) := by
  obtain ⟨oa, ca, oc, cc, os, cs, iv, rfl, hs, ha, hx⟩ := hp.form
  obtain ⟨op, cp, rfl⟩ := hrv.form
  have hlenP := hrv.len
  have hmx := hrv.rows.le
  unfold maxLen at hmx
  have HP := hid hp
  have HRV := hid hrv
  have HRW := hid hrw
  have HS := hid hs
  have HA := hid ha
  have HX := hid hx
  have HT := hid hT
  have HBB := hid hB
  have HC1 := hid (al_chg w (.cells #[.slice oa g.srcs.length ca, .slice oc g.acts.length cc, .slice os srcs.length cs] 79))
  have HG1 := hid (heap_alloc_new' w (.cells #[.slice oa g.srcs.length ca, .slice oc g.acts.length cc, .slice os srcs.length cs] 79))
  clear hp hs ha hx hT hB hrv hrw
  have HAW := hid (bawake_any _ (HT.out.keep HC1.out) (Nat.le_trans HBB.out HC1.out.size))
  go_enter Tryz.func14, Tryz.ntmps14
  go_upto_region 3 with (go_at_call 37; refine HAW.out.mono ?_; rintro e w1 ⟨rfl, hc1⟩; have HC2 := hid (HC1.out.trans hc1 (fun _ _ h => h)); have HG2 := hid (hc1.obj HG1.out (fun h => h)); clear hc1)
  obtain ⟨pb, hpb⟩ : ∃ pb, pb = w.heap.size := ⟨_, rfl⟩
  have HCL : Hid (∀ W, Chg (fun _ => False) w1 W → W.cell? ⟨pb, 0, none⟩ = some (.slice oa g.srcs.length ca) ∧ W.cell? ⟨pb, 1, none⟩ = some (.slice oc g.acts.length cc) ∧ W.cell? ⟨pb, 2, none⟩ = some (.slice os srcs.length cs)) := hid (fun W hW => by
    have k := hW.obj HG2.out (fun h => h)
    rw [← hpb] at k
    exact ⟨cell_of k 0, cell_of k 1, cell_of k 2⟩)
  rw [← hpb]
  clear hpb HAW HG1 HC1 HG2
  obtain ⟨z0, z1, z2⟩ := HCL.out w1 (Chg.refl _ _)
  have HGR := hid (bgreat_any g srcs _ w1 (HP.out.chg HC2.out (fun _ _ h => h)))
  go_wp2_with fail
  refine HGR.out.mono ?_
  rintro e w2 ⟨B2, rfl, hc2⟩
  have HC3 := hid (HC2.out.trans hc2 (fun _ _ h => h))
  have HX3 := hid hc2
  clear hc2 z0 z1 z2 HGR
  obtain ⟨z0, z1, z2⟩ := HCL.out w2 HX3.out
  cases B2 with
  | true =>
    go_wp2_with fail
    go_ret
    exact ⟨rfl, HC3.out⟩
  | false =>
  by_cases h60 : (60 : Int) < (rs.length : Int)
  · go_wp2_with fail
    go_ret
    exact ⟨rfl, HC3.out⟩
  have d60 : decide ((60 : Int) < (rs.length : Int)) = false := decide_eq_false h60
  go_wp2_with fail
  clear d60 z0 z1 z2
  refine (bnew_any _).mono ?_
  rintro e w5 ⟨b, r0, rfl, hb5, hbl, hrl, hc5⟩
  have HX6 := hid (HX3.out.trans hc5 (fun _ _ h => h))
  have HST := hid (bstart_plan HS.out HA.out HX.out hb5 (Nat.le_trans HC3.out.size hbl) (HC3.out.trans hc5 (fun _ _ h => h)) HT.out HBB.out)
  have HBL : Hid (w2.heap.size ≤ b ∧ w2.heap.size ≤ w5.heap.size) := hid ⟨hbl, hc5.size⟩
  have HC45 := hid hc5
  clear hb5 hbl hrl hc5
  obtain ⟨z0, z1, z2⟩ := HCL.out w5 HX6.out
  go_wp2_with fail
  refine HST.out.mono ?_
  rintro e w6 ⟨rfl, hc6, r, fp, sv2, av2, ov2, iv2, hb6, hr6, hf6⟩
  have HW6 : Hid (Chg (fun _ => False) w2 w6) := hid (HC45.out.trans hc6 (fun z hz e => by have := HBL.out; omega))
  have HR6 : Hid (w2.heap.size ≤ b ∧ w2.heap.size ≤ r) := hid ⟨HBL.out.1, Nat.le_trans HBL.out.2 hr6⟩
  have HB6 := hid hb6
  clear hc6 hb6 hr6 hf6 HST HBL HC45 z0 z1 z2 HX6
  have HTW : Hid (∀ W, Chg (fun _ => False) w2 W → TabsOK B W ∧ B ≤ W.heap.size) := hid (fun W hW => ⟨HT.out.keep (HC3.out.trans hW (fun _ _ h => h)), Nat.le_trans HBB.out (HC3.out.trans hW (fun _ _ h => h)).size⟩)
  by_cases hz : checkS g srcs = 0
  · have hne1 : ((checkS g srcs : Int) != 0) = false := by rw [bne_eq_false_iff_eq]; omega
    have HD := hid (checkS_zero.1 hz)
    have HB7 := HB6.out
    rw [start_ok hz] at HB7
    have HBG := hid HB7
    have HNW : Hid (∀ a ∈ g.acts, a.name.length ≤ maxLen) := hid (fun a h => (HA.out.wide a h).1)
    have HSW : Hid (∀ s ∈ g.srcs, s.length ≤ maxLen) := hid HS.out.wide
    have hmx2 := HA.out.rows.le
    have hmx3 := HS.out.le
    unfold maxLen at hmx2 hmx3
    clear HB7 HB6 hz
    go_upto_region 9 with fail
    clear hne1
    go_loopw [6] (fun i wr => ∃ (k : Nat) (s : BkS), k ≤ rs.length ∧ i = .int .i64 k ∧ Chg (fun _ => False) w2 wr ∧ IsBk wr b r fp sv2 av2 ov2 iv2 s ∧ Live g srcs s ∧ Pure g s.t ∧ BkSize s ∧ s.st ≠ 3) (fun i _ => rs.length - (intOf i).toNat)
    case atStart => exact ⟨0, _, Nat.zero_le _, rfl, HW6.out, HBG.out, live_begun HD.out, pure_begun HD.out, size_begun HD.out, begun_st g srcs⟩
    case round =>
      obtain ⟨k, s, hk, rfl, hch, hbk, hlv, hpu, hsz, hs3⟩ := hrel
      have HC := hid hch
      have HBK := hid hbk
      have HLV := hid hlv
      have HPU := hid hpu
      have HSZ := hid hsz
      have HS3 := hid hs3
      clear hch hbk hlv hpu hsz hs3
      by_cases hkn : k < rs.length
      · have hkn' : (k : Int) < rs.length := by omega
        have HJ := hid (bjob_any HBK.out HSZ.out (HTW.out _ HC.out).1 (HTW.out _ HC.out).2)
        unfold JobPost at HJ
        obtain ⟨wo, hwo⟩ : ∃ wo, wo = wr := ⟨_, rfl⟩
        subst hwo
        cases hjs : s.js with
        | false =>
          rw [hjs] at HJ
          obtain ⟨jn, hjn⟩ : ∃ jn, jn = s.jn := ⟨_, rfl⟩
          obtain ⟨jp, hjp⟩ : ∃ jp, jp = s.jp := ⟨_, rfl⟩
          obtain ⟨jc, hjc⟩ : ∃ jc, jc = s.jc := ⟨_, rfl⟩
          obtain ⟨jk, hjk⟩ : ∃ jk, jk = s.jk := ⟨_, rfl⟩
          obtain ⟨ji, hji⟩ : ∃ ji, ji = s.ji := ⟨_, rfl⟩
          rw [← hjn, ← hjp, ← hjc, ← hjk, ← hji] at HJ
          clear hjn hjp hjc hjk hji hjs
          go_upto_region 38 with (first | (go_at_call 41; refine HJ.out.mono ?_; rintro e u2 ⟨hc2, iv2, rfl, hin2⟩; obtain ⟨io2, ic2, rfl⟩ := hin2.form; have HIN2 := hid hin2; have HCA2 := hid hc2; clear hin2 hc2) | (guard_target =~ wpList _ _ _ (Oper.mk (some 7) _ _ _ _ _ :: _) _ _; refine wpList_alloc0 rfl 85 rfl noJob (allocJob _) ?_; intro v2 hk2 hs2 hc2; have HKA2 := hid hk2; have HCB2 := hid hc2; clear hk2 hs2 hc2) | (guard_target =~ wpList _ _ _ (Oper.mk none (Op.store _ (Operand.tmp 7) _) _ _ _ _ :: _) _ _; refine wpList_store0 rfl 85 _ _ rfl u2.heap.size noJob (jobA jn jp jc (.slice io2 ji.length ic2) jk) rfl rfl HKA2.out (by rw [jobA_size]; exact sizeJob) (by unfold noJob; rw [jobA_size, jobA_size]) (jobA_one _ _ _ _ rfl _) ?_; intro x2 hk2 hs2 hc2; have HK2 := hid hk2; have HD2 := hid (HCB2.out.trans hc2 (fun z hz e => by omega)); clear hk2 hs2 hc2 HKA2 HCB2))
          have HC2 := hid ((HC.out.trans HCA2.out (fun _ _ h => h)).trans HD2.out (fun _ _ h => h))
          have HB8 := hid (HBK.out.same (HCA2.out.trans HD2.out (fun _ _ h => h)))
          clear HK2 HIN2 HCA2 HD2 HJ
          have hall := HLV.out.all_out HS3.out
          have hst := HLV.out.st
          have HF : Hid (∀ V, Chg (fun _ => False) x2 V → V.cell? ⟨pb, 1, none⟩ = some (.slice oc g.acts.length cc)) := hid (fun V hV => (HCL.out V (HX3.out.trans (HC2.out.trans hV (fun _ _ h => h)) (fun _ _ h => h))).2.1)
          have HS8 := hid (bstate_any (HB8.out.same ((Chg.refl _ x2).drew)))
          have HR8 := hid (bresults_any (HB8.out.same ((Chg.refl _ x2).drew)) HSZ.out.n2)
          unfold ResultsPost at HR8
          by_cases h2 : s.st = 2
          · have HOL := hid (hall.1 h2)
            rw [h2] at HS8
            clear hall hst h2
            refine wp_region_held_drew (S := fun W => Chg (fun _ => False) x2 W) (by kernel_rfl) ((Chg.refl _ x2).drew) (fun hd => ?_)
            refine wpAnyH_takeDK (i := 0) (v := .pointer (some ⟨b, 0, none⟩)) (some 137) rfl (by kernel_rfl) (by kernel_rfl) (by kernel_rfl) (by kernel_rfl) (fun _ _ _ h => h) (.inl ⟨by kernel_rfl, fun W _ => by kernel_rfl⟩) hd ?_
            refine wpAnyH_takeDK (i := 3) (v := .pointer (some ⟨b, 0, none⟩)) (some 140) rfl (by kernel_rfl) (by kernel_rfl) (by kernel_rfl) (by kernel_rfl) (fun _ _ _ h => h) (.inl ⟨by kernel_rfl, fun W _ => by kernel_rfl⟩) hd ?_
            refine wpAnyH_takeDK (i := 6) (v := .pointer (some ⟨pb, 0, none⟩)) (some 143) rfl (by kernel_rfl) (by kernel_rfl) (by kernel_rfl) (by kernel_rfl) (fun _ _ _ h => h) (.inl ⟨by kernel_rfl, fun W _ => by kernel_rfl⟩) hd ?_
            refine wpAnyH_takeDK (i := 7) (v := .pointer (some ⟨pb, 1, none⟩)) (some 144) rfl (by kernel_rfl) (by kernel_rfl) (by kernel_rfl) (by kernel_rfl) (fun _ _ _ h => h) (.inl ⟨by kernel_rfl, fun W _ => by kernel_rfl⟩) hd ?_
            refine wpAnyH_takeDK (i := 8) (v := .slice oc g.acts.length cc) (some 145) rfl (by kernel_rfl) (by kernel_rfl) (by kernel_rfl) (by kernel_rfl) (fun _ _ _ h => h) (yieldsIf_load1K (by kernel_rfl) 23 (.tmp 144) (by kernel_rfl) pb 1 _ (by kernel_rfl) (fun W hW => load_acts (HF.out W hW))) hd ?_
            refine wpAnyH_takeDK (i := 9) (v := .int .i64 g.acts.length) (some 146) rfl (by kernel_rfl) (by kernel_rfl) (by kernel_rfl) (by kernel_rfl) (fun _ _ _ h => h) (.inl ⟨by kernel_rfl, fun W _ => by simp [execOp, go_sem]⟩) hd ?_
            try simp only [Act.put, List.setIfInBounds_toArray, List.set_cons_zero, List.set_cons_succ]
            refine wpAnyH_all (rs := [1]) (by kernel_rfl) (by simp) (fun i hi => ?_)
            obtain rfl : i = 1 := by simpa using hi
            refine wpOp_step rfl (fun K1 hK1 => ?_)
            refine Eq.mpr (if_pos (by kernel_rfl)) ?_
            go_wp2_with (go_at_call 42; refine HS8.out.mono ?_; rintro e w8 ⟨rfl, rfl⟩)
            have hd1 := hd
            refine ⟨hd1, ?_⟩
            refine wpAnyH_takeDK (i := 2) (v := .bool true) (some 139) rfl (by kernel_rfl) (by kernel_rfl) (by kernel_rfl) (by kernel_rfl) (fun _ _ _ h => h) (.inl ⟨by kernel_rfl, fun W _ => by kernel_rfl⟩) hd1 ?_
            try simp only [Act.put, List.setIfInBounds_toArray, List.set_cons_zero, List.set_cons_succ]
            refine wpAnyH_all (rs := [4]) (by kernel_rfl) (by simp) (fun i hi => ?_)
            obtain rfl : i = 4 := by simpa using hi
            refine wpOp_step rfl (fun K2 hK2 => ?_)
            refine Eq.mpr (if_pos (by kernel_rfl)) ?_
            go_wp2_with (go_at_call 43; refine HR8.out.mono ?_; rintro e w9 ⟨hc9, v9, rfl, hb9⟩; obtain ⟨ro9, rc9, hrf⟩ := hb9.form; have hrf2 : v9 = .slice ro9 g.acts.length rc9 := (by rw [hrf, HOL.out]); subst hrf2; clear hrf hb9)
            have hd2 := hd1.trans hc9 (fun _ _ h => h)
            refine ⟨hd2, ?_⟩
            refine wpAnyH_takeDK (i := 5) (v := .int .i64 g.acts.length) (some 142) rfl (by kernel_rfl) (by kernel_rfl) (by kernel_rfl) (by kernel_rfl) (fun _ _ _ h => h) (.inl ⟨by kernel_rfl, fun W _ => by simp [execOp, go_sem]⟩) hd2 ?_
            refine wpAnyH_takeDK (i := 10) (v := .bool true) (some 147) rfl (by kernel_rfl) (by kernel_rfl) (by kernel_rfl) (by kernel_rfl) (fun _ _ _ h => h) (.inl ⟨by kernel_rfl, fun W _ => by simp [go_sem]⟩) hd2 ?_
            refine wpAnyH_takeDK (i := 11) (v := .bool true) (some 148) rfl (by kernel_rfl) (by kernel_rfl) (by kernel_rfl) (by kernel_rfl) (fun _ _ _ h => h) (.inl ⟨by kernel_rfl, fun W _ => by kernel_rfl⟩) hd2 ?_
            refine wpAnyH_takeDK (i := 12) (v := .bool true) (some 4) rfl (by kernel_rfl) (by kernel_rfl) (by kernel_rfl) (by kernel_rfl) (fun _ _ _ h => h) (.inl ⟨by kernel_rfl, fun W _ => by kernel_rfl⟩) hd2 ?_
            try simp only [Act.put, List.setIfInBounds_toArray, List.set_cons_zero, List.set_cons_succ]
            refine wpAnyH_done (by kernel_rfl) ?_ _
            go_wp2_with fail
            go_ret
            exact ⟨rfl, HC3.out.trans (HC2.out.trans hd2 (fun _ _ h => h)) (fun _ _ h => h)⟩
          · have h1 : s.st = 1 := by have := HS3.out; omega
            have hnl : ((s.out.length : Int) == (g.acts.length : Int)) = false := by rw [beq_eq_false_iff_ne]; intro e; exact h2 (hall.2 (by omega))
            rw [h1] at HS8
            clear hall hst h2 h1
            refine wp_region_held_drew (S := fun W => Chg (fun _ => False) x2 W) (by kernel_rfl) ((Chg.refl _ x2).drew) (fun hd => ?_)
            refine wpAnyH_takeDK (i := 0) (v := .pointer (some ⟨b, 0, none⟩)) (some 137) rfl (by kernel_rfl) (by kernel_rfl) (by kernel_rfl) (by kernel_rfl) (fun _ _ _ h => h) (.inl ⟨by kernel_rfl, fun W _ => by kernel_rfl⟩) hd ?_
            refine wpAnyH_takeDK (i := 3) (v := .pointer (some ⟨b, 0, none⟩)) (some 140) rfl (by kernel_rfl) (by kernel_rfl) (by kernel_rfl) (by kernel_rfl) (fun _ _ _ h => h) (.inl ⟨by kernel_rfl, fun W _ => by kernel_rfl⟩) hd ?_
            refine wpAnyH_takeDK (i := 6) (v := .pointer (some ⟨pb, 0, none⟩)) (some 143) rfl (by kernel_rfl) (by kernel_rfl) (by kernel_rfl) (by kernel_rfl) (fun _ _ _ h => h) (.inl ⟨by kernel_rfl, fun W _ => by kernel_rfl⟩) hd ?_
            refine wpAnyH_takeDK (i := 7) (v := .pointer (some ⟨pb, 1, none⟩)) (some 144) rfl (by kernel_rfl) (by kernel_rfl) (by kernel_rfl) (by kernel_rfl) (fun _ _ _ h => h) (.inl ⟨by kernel_rfl, fun W _ => by kernel_rfl⟩) hd ?_
            refine wpAnyH_takeDK (i := 8) (v := .slice oc g.acts.length cc) (some 145) rfl (by kernel_rfl) (by kernel_rfl) (by kernel_rfl) (by kernel_rfl) (fun _ _ _ h => h) (yieldsIf_load1K (by kernel_rfl) 23 (.tmp 144) (by kernel_rfl) pb 1 _ (by kernel_rfl) (fun W hW => load_acts (HF.out W hW))) hd ?_
            refine wpAnyH_takeDK (i := 9) (v := .int .i64 g.acts.length) (some 146) rfl (by kernel_rfl) (by kernel_rfl) (by kernel_rfl) (by kernel_rfl) (fun _ _ _ h => h) (.inl ⟨by kernel_rfl, fun W _ => by simp [execOp, go_sem]⟩) hd ?_
            try simp only [Act.put, List.setIfInBounds_toArray, List.set_cons_zero, List.set_cons_succ]
            refine wpAnyH_all (rs := [1]) (by kernel_rfl) (by simp) (fun i hi => ?_)
            obtain rfl : i = 1 := by simpa using hi
            refine wpOp_step rfl (fun K1 hK1 => ?_)
            refine Eq.mpr (if_pos (by kernel_rfl)) ?_
            go_wp2_with (go_at_call 42; refine HS8.out.mono ?_; rintro e w8 ⟨rfl, rfl⟩)
            have hd1 := hd
            refine ⟨hd1, ?_⟩
            refine wpAnyH_takeDK (i := 2) (v := .bool false) (some 139) rfl (by kernel_rfl) (by kernel_rfl) (by kernel_rfl) (by kernel_rfl) (fun _ _ _ h => h) (.inl ⟨by kernel_rfl, fun W _ => by kernel_rfl⟩) hd1 ?_
            try simp only [Act.put, List.setIfInBounds_toArray, List.set_cons_zero, List.set_cons_succ]
            refine wpAnyH_all (rs := [4]) (by kernel_rfl) (by simp) (fun i hi => ?_)
            obtain rfl : i = 4 := by simpa using hi
            refine wpOp_step rfl (fun K2 hK2 => ?_)
            refine Eq.mpr (if_pos (by kernel_rfl)) ?_
            go_wp2_with (go_at_call 43; refine HR8.out.mono ?_; rintro e w9 ⟨hc9, v9, rfl, hb9⟩; obtain ⟨ro9, rc9, hrf⟩ := hb9.form; have hrf2 : v9 = .slice ro9 s.out.length rc9 := (by rw [hrf]); subst hrf2; clear hrf hb9)
            have hd2 := hd1.trans hc9 (fun _ _ h => h)
            refine ⟨hd2, ?_⟩
            refine wpAnyH_takeDK (i := 5) (v := .int .i64 s.out.length) (some 142) rfl (by kernel_rfl) (by kernel_rfl) (by kernel_rfl) (by kernel_rfl) (fun _ _ _ h => h) (.inl ⟨by kernel_rfl, fun W _ => by simp [execOp, go_sem]⟩) hd2 ?_
            refine wpAnyH_takeDK (i := 10) (v := .bool false) (some 147) rfl (by kernel_rfl) (by kernel_rfl) (by kernel_rfl) (by kernel_rfl) (fun _ _ _ h => h) (.inl ⟨by kernel_rfl, fun W _ => by simp [go_sem, hnl]⟩) hd2 ?_
            refine wpAnyH_takeDK (i := 11) (v := .bool true) (some 148) rfl (by kernel_rfl) (by kernel_rfl) (by kernel_rfl) (by kernel_rfl) (fun _ _ _ h => h) (.inl ⟨by kernel_rfl, fun W _ => by kernel_rfl⟩) hd2 ?_
            refine wpAnyH_takeDK (i := 12) (v := .bool true) (some 4) rfl (by kernel_rfl) (by kernel_rfl) (by kernel_rfl) (by kernel_rfl) (fun _ _ _ h => h) (.inl ⟨by kernel_rfl, fun W _ => by kernel_rfl⟩) hd2 ?_
            try simp only [Act.put, List.setIfInBounds_toArray, List.set_cons_zero, List.set_cons_succ]
            refine wpAnyH_done (by kernel_rfl) ?_ _
            go_wp2_with fail
            go_ret
            exact ⟨rfl, HC3.out.trans (HC2.out.trans hd2 (fun _ _ h => h)) (fun _ _ h => h)⟩
        | true =>
          rw [hjs] at HJ
          obtain ⟨i, hi⟩ := js_some hjs
          obtain ⟨hia, h1, hno, hin, h0⟩ := HLV.out.next hi
          have hgr := HLV.out.gr
          have HFX := hid (fun x hx => pure_found (x := x) HLV.out HPU.out hi hx)
          have HNXT : Hid (∀ x : ResR, ROK x → resOK x = true → (s.give i x).1 = 0 ∧ (s.give i x).2 = s.put i x ∧ Live g srcs (s.put i x) ∧ Pure g (s.put i x).t ∧ BkSize (s.put i x) ∧ (s.put i x).st ≠ 3 ∧ s.out.length < (s.put i x).out.length) := hid (fun x hx ho => by
            have hg := give_ok hi rfl ho
            exact ⟨by rw [hg], by rw [hg], HLV.out.put hia h1 x, pure_give HLV.out HPU.out hi x, HSZ.out.put i hx, put_st h1 i x, HLV.out.more hi x⟩)
          have hjn : s.jn = bs (nameAt g i) := by unfold BkS.jn; rw [hi, hgr]
          have hjp := jp_some hi
          have hnd : needsOf g (nameAt g i) = needsR g i := needsOf_at HD.out.can hia
          have hok := out_ok HSZ.out (by rw [hgr]; exact HNW.out)
          have hne := needsOf_small HD.out.can (nameAt g i)
          rw [hnd] at hne
          have HNE := hid hne
          have HND := hid (fun W (hW : Chg (fun _ => False) w2 W) => tneeds_any g (nameAt g i) (.agg #[.slice oa g.srcs.length ca, .slice oc g.acts.length cc]) W ⟨_, _, iv, rfl, HS.out.chg (HC3.out.trans hW (fun _ _ h => h)) (fun _ _ h => h), HA.out.chg (HC3.out.trans hW (fun _ _ h => h)) (fun _ _ h => h)⟩)
          rw [hnd] at HND
          unfold NmsPost at HND
          rw [hjp, hjn] at HJ
          obtain ⟨jn, hjn'⟩ : ∃ jn, jn = bs (nameAt g i) := ⟨_, rfl⟩
          obtain ⟨jc, hjc'⟩ : ∃ jc, jc = s.jc := ⟨_, rfl⟩
          obtain ⟨jk, hjk'⟩ : ∃ jk, jk = s.jk := ⟨_, rfl⟩
          obtain ⟨ji, hji'⟩ : ∃ ji, ji = s.ji := ⟨_, rfl⟩
          obtain ⟨nd, hnd'⟩ : ∃ nd, nd = needsR g i := ⟨_, rfl⟩
          rw [← hjn', ← hjc', ← hjk', ← hji'] at HJ
          rw [← hjn', ← hnd'] at HND
          rw [← hnd'] at HFX HNE
          have HOK := hid hok
          obtain ⟨ol, hol⟩ : ∃ ol, ol = s.out := ⟨_, rfl⟩
          rw [← hol] at HFX HOK HNXT
          have HRS := hid (fun W (hW : IsBk W b r fp sv2 av2 ov2 iv2 s) => bresults_any hW HSZ.out.n2)
          unfold ResultsPost at HRS
          rw [← hol] at HRS
          have hol12 : ol.length ≤ 12 := by have := HLV.out.out_le; have := HD.out.can.w.acts12; rw [hol]; omega
          clear hjn hjp hjs hi hno hin h0 h1 hgr hnd hok hne hjn' hjc' hjk' hji' hnd' hol
          have hsl := HS.out.len
          go_upto_region 13 with (first | (go_at_call 41; refine HJ.out.mono ?_; rintro e u2 ⟨hc2, iv2, rfl, hin2⟩; obtain ⟨io2, ic2, rfl⟩ := hin2.form; have HIN2 := hid hin2; have HCA2 := hid hc2; clear hin2 hc2) | (guard_target =~ wpList _ _ _ (Oper.mk (some 7) _ _ _ _ _ :: _) _ _; refine wpList_alloc0 rfl 85 rfl noJob (allocJob _) ?_; intro v2 hk2 hs2 hc2; have HKA2 := hid hk2; have HCB2 := hid hc2; clear hk2 hs2 hc2) | (guard_target =~ wpList _ _ _ (Oper.mk none (Op.store _ (Operand.tmp 7) _) _ _ _ _ :: _) _ _; refine wpList_store0 rfl 85 _ _ rfl u2.heap.size noJob (jobA jn i jc (.slice io2 ji.length ic2) jk) rfl rfl HKA2.out (by rw [jobA_size]; exact sizeJob) (by unfold noJob; rw [jobA_size, jobA_size]) (jobA_one _ _ _ _ rfl _) ?_; intro x2 hk2 hs2 hc2; have HK2 := hid hk2; have HD2 := hid (HCB2.out.trans hc2 (fun z hz e => by omega)); clear hk2 hs2 hc2 HKA2 HCB2))
          have hz2 := HCA2.out.trans HD2.out (fun _ _ h => h)
          have HC2 := hid (HC.out.trans hz2 (fun _ _ h => h))
          have HB2 := hid (HBK.out.same hz2)
          obtain ⟨jb, hjb⟩ : ∃ jb, jb = u2.heap.size := ⟨_, rfl⟩
          rw [← hjb] at HK2 ⊢
          have HJB : Hid (jb ≠ b ∧ jb ≠ r) := hid (by have h1 := heap_lt HBK.out.blk; have h2 := HBK.out.map.lt; have h3 := HCA2.out.size; omega)
          clear hz2 hjb HCA2 HD2 HJ HIN2
          go_wp2_with fail
          refine (HRS.out x2 HB2.out).mono ?_
          rintro e x3 ⟨hc3, v3, rfl, hb3⟩
          obtain ⟨ro, rc, rfl⟩ := hb3.form
          have HB3 := hid hb3
          have HC3' := hid (HC2.out.trans hc3 (fun _ _ h => h))
          have HBK3 := hid (HB2.out.same hc3)
          have HK3 := hid (hc3.obj HK2.out (fun h => h))
          clear hb3 hc3 HK2
          obtain ⟨z0, z1, z2⟩ := HCL.out x3 (HX3.out.trans HC3'.out (fun _ _ h => h))
          obtain ⟨y0, _, _, _⟩ := job_cells HK3.out
          go_wp2_with fail
          refine (HND.out x3 HC3'.out).mono ?_
          rintro e x4 ⟨hc4, v4, rfl, hn4⟩
          have hnm := names_own hn4 (by have := HNE.out.1; omega) (fun s hs => by have := HNE.out.2 s hs; omega)
          obtain ⟨no, nc, rfl⟩ := hnm.form
          have HNM := hid hnm
          have HB4 := hid (HB3.out.chg hc4 (fun _ _ h => h))
          have HC4 := hid (HC3'.out.trans hc4 (fun _ _ h => h))
          have HBK4 := hid (HBK3.out.same hc4)
          have HK4 := hid (hc4.obj HK3.out (fun h => h))
          have hnd20 : nd.length ≤ 20 := HNE.out.1
          have hndl := hnm.len
          have holl := HB3.out.len
          clear hnm hn4 hc4 HB3 HBK3 HK3 HC3' z0 z1 z2 y0 HND
          go_upto_region 16 with fail
          go_loopw [11] (fun i wr => ∃ k : Nat, k ≤ nd.length ∧ i = .int .i64 k ∧ Chg (fun _ => False) x4 wr) (fun i _ => nd.length - (intOf i).toNat)
          case atStart => exact ⟨0, Nat.zero_le _, rfl, Chg.refl _ _⟩
          case round =>
            obtain ⟨q, hq, rfl, hcq⟩ := hrel
            have HCQ := hid hcq
            clear hcq
            obtain ⟨wp, hwp⟩ : ∃ wp, wp = wr := ⟨_, rfl⟩
            subst hwp
            by_cases hqn : q < nd.length
            · have hqn' : (q : Int) < nd.length := by omega
              obtain ⟨nb, hixN, n0, _⟩ := (HNM.out.chg HCQ.out (fun _ _ h => h)).ix q hqn
              have HN0 := hid n0
              have HXM : Hid (nd[q] ∈ nd) := hid (List.getElem_mem hqn)
              generalize nd[q] = x at *
              clear n0
              go_upto_region 20 with fail
              go_loopw [12, 13] (fun o i wr => ∃ (n : Nat) (B : Bool), n ≤ ol.length ∧ o = .bool B ∧ i = .int .i64 n ∧ Hid (GotIn (ol.take n) x B) ∧ Chg (fun _ => False) wp wr) (fun _ i _ => ol.length - (intOf i).toNat)
              case atStart => exact ⟨0, false, Nat.zero_le _, rfl, rfl, hid (GotIn.nil _ _), Chg.refl _ _⟩
              case round =>
                obtain ⟨n, B, hn, rfl, rfl, HG, hcn⟩ := hrel
                have HCN := hid hcn
                clear hcn
                by_cases hnn : n < ol.length
                · have hnn' : (n : Int) < ol.length := by omega
                  obtain ⟨lb, lf, hixL, l0, l1, l2, _⟩ := (HB4.out.chg (HCQ.out.trans HCN.out (fun _ _ h => h)) (fun _ _ h => h)).ix n hnn
                  have n0 := HCN.out.cell HN0.out (fun h => h)
                  have HSTP := hid (fun C => GotIn.step (C := C) HG.out hnn)
                  generalize ol[n].1 = ln at *
                  generalize ol[n].2.1 = lc at *
                  generalize ol[n].2.2 = lx at *
                  cases B with
                  | true =>
                    go_wp2_with fail
                    go_quiet (fail)
                    go_wp2_with fail
                    go_roundw
                    case rel => exact ⟨n + 1, true, by omega, rfl, by go_num, hid (HSTP.out true (by simp)), HCN.out.drewN _⟩
                    case measure => simp [intOf]; omega
                  | false =>
                    have hse := bs_eq ln x
                    by_cases e1 : ln = x
                    · rw [decide_eq_true e1] at hse
                      by_cases e2 : lc = 0
                      · have e2b : (lc == 0) = true := by rw [beq_iff_eq]; exact e2
                        have HE := hid (And.intro e1 e2)
                        clear e1 e2
                        go_wp2_with fail
                        go_quiet (fail)
                        go_wp2_with fail
                        go_roundw
                        case rel => exact ⟨n + 1, true, by omega, rfl, by go_num, hid (HSTP.out true (by simp [HE.out.1, HE.out.2])), HCN.out.drewN _⟩
                        case measure => simp [intOf]; omega
                      · have e2b : (lc == 0) = false := by rw [beq_eq_false_iff_ne]; exact e2
                        have HE := hid (And.intro e1 e2)
                        clear e1 e2
                        go_wp2_with fail
                        go_quiet (fail)
                        go_wp2_with fail
                        go_roundw
                        case rel => exact ⟨n + 1, false, by omega, rfl, by go_num, hid (HSTP.out false (by simp [HE.out.2])), HCN.out.drewN _⟩
                        case measure => simp [intOf]; omega
                    · rw [decide_eq_false e1] at hse
                      have HE := hid e1
                      clear e1
                      go_wp2_with fail
                      go_quiet (fail)
                      go_wp2_with fail
                      go_roundw
                      case rel => exact ⟨n + 1, false, by omega, rfl, by go_num, hid (HSTP.out false (by simp [HE.out])), HCN.out.drewN _⟩
                      case measure => simp [intOf]; omega
                · obtain rfl : n = ol.length := by omega
                  have HNI := hid (NeedIn.nil g.srcs HG.out)
                  clear HG hnn hn
                  go_upto_region 24 with fail
                  obtain ⟨wq, hwq⟩ : ∃ wq, wq = wr := ⟨_, rfl⟩
                  subst hwq
                  go_loopw [12, 14] (fun o i wr => ∃ (n : Nat) (B : Bool), n ≤ g.srcs.length ∧ o = .bool B ∧ i = .int .i64 n ∧ Hid (NeedIn (g.srcs.take n) ol x B) ∧ Chg (fun _ => False) wq wr) (fun _ i _ => g.srcs.length - (intOf i).toNat)
                  case atStart => exact ⟨0, _, Nat.zero_le _, rfl, rfl, HNI, Chg.refl _ _⟩
                  case round =>
                    obtain ⟨n, B, hn, rfl, rfl, HG, hcm⟩ := hrel
                    have HCM := hid hcm
                    clear hcm
                    have HXV := hid (HC4.out.trans (HCQ.out.trans (HCN.out.trans HCM.out (fun _ _ h => h)) (fun _ _ h => h)) (fun _ _ h => h))
                    have HXW := hid (HX3.out.trans HXV.out (fun _ _ h => h))
                    obtain ⟨z0, z1, z2⟩ := HCL.out wr HXW.out
                    by_cases hnn : n < g.srcs.length
                    · have hnn' : (n : Int) < g.srcs.length := by omega
                      obtain ⟨lb, hixL, l0, _⟩ := (HS.out.chg (HC3.out.trans HXV.out (fun _ _ h => h)) (fun _ _ h => h)).ix n hnn
                      have n0 := (HCN.out.trans HCM.out (fun _ _ h => h)).cell HN0.out (fun h => h)
                      have HSTP := hid (fun C => NeedIn.step (C := C) HG.out hnn)
                      generalize g.srcs[n] = ln at *
                      cases B with
                      | true =>
                        go_wp2_with fail
                        go_quiet (fail)
                        go_wp2_with fail
                        go_roundw
                        case rel => exact ⟨n + 1, true, by omega, rfl, by go_num, hid (HSTP.out true (by simp)), HCM.out.drewN _⟩
                        case measure => simp [intOf]; omega
                      | false =>
                        have hse := bs_eq ln x
                        by_cases e1 : ln = x
                        · rw [decide_eq_true e1] at hse
                          have HE := hid e1
                          clear e1
                          go_wp2_with fail
                          go_quiet (fail)
                          go_wp2_with fail
                          go_roundw
                          case rel => exact ⟨n + 1, true, by omega, rfl, by go_num, hid (HSTP.out true (by simp [HE.out])), HCM.out.drewN _⟩
                          case measure => simp [intOf]; omega
                        · rw [decide_eq_false e1] at hse
                          have HE := hid e1
                          clear e1
                          go_wp2_with fail
                          go_quiet (fail)
                          go_wp2_with fail
                          go_roundw
                          case rel => exact ⟨n + 1, false, by omega, rfl, by go_num, hid (HSTP.out false (by simp [HE.out])), HCM.out.drewN _⟩
                          case measure => simp [intOf]; omega
                    · obtain rfl : n = g.srcs.length := by omega
                      obtain rfl : B = true := by
                        have h := HG.out
                        unfold NeedIn at h
                        rw [List.take_length] at h
                        exact h.2 (HFX.out x HXM.out)
                      go_wp2_with fail
                      go_roundw
                      case rel => exact ⟨q + 1, by omega, by go_num, HCQ.out.trans (HCN.out.trans HCM.out (fun _ _ h => h)) (fun _ _ h => h)⟩
                      case measure => simp [intOf]; omega
            · obtain rfl : q = nd.length := by omega
              have HCW := hid (HC4.out.trans HCQ.out (fun _ _ h => h))
              have HBW := hid (HBK4.out.same HCQ.out)
              obtain ⟨rb, ro2, hixR, r0', r1', _⟩ := (HRV.out.chg (HC3.out.trans HCW.out (fun _ _ h => h)) (fun _ _ h => h)).ix k hkn
              have HXW : Hid ((Lit.int .i64 rs[k].1).wf = true) := hid (HRW.out _ (List.getElem_mem hkn))
              have HXS : Hid (rs[k].2.size ≤ maxLen) := hid (HRV.out.wide _ (List.getElem_mem hkn))
              generalize rs[k] = rr at *
              obtain ⟨rc1, rb1⟩ := rr
              simp only at r0' r1' HXW HXS
              obtain ⟨v0, v1, v2, v3⟩ := job_cells (HCQ.out.obj HK4.out (fun h => h))
              by_cases h512 : (512 : Int) < (rb1.size : Int)
              · go_wp2_with fail
                go_ret
                exact ⟨rfl, HC3.out.trans (HCW.out.alloc _) (fun _ _ h => h)⟩
              · have HLE : Hid (rb1.size ≤ 512) := hid (by omega)
                have HFO := hid (fixR_ok (r := (rc1, rb1)) HLE.out)
                have HFR := hid (fixR_rok (r := (rc1, rb1)) HXW.out HLE.out)
                have HNX := hid (HNXT.out _ HFR.out HFO.out)
                by_cases hc0 : rc1 = 0
                · have d0 : (rc1 != 0) = false := by rw [bne_eq_false_iff_eq]; exact hc0
                  have hfx : fixR (rc1, rb1) = (rc1, rb1) := by unfold fixR; simp only; rw [if_pos hc0]
                  subst hc0
                  rw [hfx] at HNX
                  go_upto_region 34 with fail
                  clear v0 v1 v2 v3 r0' r1'
                  obtain ⟨Y, hY⟩ : ∃ Y, Y = wp.alloc (.cells #[.int .i64 0, .string rb1] 47) := ⟨_, rfl⟩
                  have hYC : Chg (fun _ => False) wp Y := hY ▸ (Chg.refl _ wp).alloc _
                  have hq := heap_alloc_new' wp (.cells #[.int .i64 0, .string rb1] 47)
                  first
                    | rw [← hY] at hq ⊢
                    | (have e0 : ByteArray.empty = { data := #[] } := rfl
                       rw [e0] at hY hq
                       rw [← hY] at hq ⊢)
                  have q0 := cell_of hq 0
                  have q1 := cell_of hq 1
                  simp at q0 q1
                  obtain ⟨v0, v1, v2, v3⟩ := job_cells ((HCQ.out.trans hYC (fun _ _ h => h)).obj HK4.out (fun h => h))
                  have HCX := hid (HCW.out.trans hYC (fun _ _ h => h))
                  have HBX := hid (HBW.out.same hYC)
                  clear hY hq hYC
                  have HGV := hid (bgive_any HBX.out HSZ.out (HTW.out _ HCX.out).1 (HTW.out _ HCX.out).2 (i : Int) (0, rb1) HXS.out)
                  unfold GivePost at HGV
                  rw [HNX.out.1, HNX.out.2.1] at HGV
                  have HNX2 := hid HNX.out.2.2
                  generalize s.put i (0, rb1) = s' at *
                  have hlt2 : ol.length < s'.out.length := HNX2.out.2.2.2.2
                  have dl1 : decide ((s'.out.length : Int) ≤ (ol.length : Int)) = false := decide_eq_false (by omega)
                  have dl2 : decide (s'.out.length ≤ ol.length) = false := decide_eq_false (by omega)
                  clear HNX hfx d0 hlt2
                  go_wp2_with (go_at_call 44; refine HGV.out.mono ?_; rintro e w9 ⟨rfl, ⟨hcg, hb9⟩, _⟩; have HB9 := hid hb9; have HC9 := hid (HCX.out.trans hcg (fun z hz e => by have := HR6.out; omega)); clear hb9 hcg)
                  refine (bresults_any HB9.out HNX2.out.2.2.1.n2).mono ?_
                  rintro e w10 ⟨hc10, v10, rfl, hb10⟩
                  obtain ⟨ro3, rc3, rfl⟩ := hb10.form
                  have HC10 := hid (HC9.out.trans hc10 (fun _ _ h => h))
                  have HB10 := hid (HB9.out.same hc10)
                  clear hc10 hb10
                  go_wp2_with fail
                  go_roundw
                  case rel => exact ⟨k + 1, s', by omega, by go_num, HC10.out, HB10.out, HNX2.out.1, HNX2.out.2.1, HNX2.out.2.2.1, HNX2.out.2.2.2.1⟩
                  case measure => simp [intOf]; omega
                · have d0 : (rc1 != 0) = true := by rw [bne_iff_ne]; exact hc0
                  have hfx : fixR (rc1, rb1) = (rc1, ByteArray.empty) := by unfold fixR; simp only; rw [if_neg hc0]
                  rw [hfx] at HNX
                  go_upto_region 34 with fail
                  clear v0 v1 v2 v3 r0' r1'
                  obtain ⟨Y, hY⟩ : ∃ Y, Y = wp.alloc (.cells #[.int .i64 rc1, .string ByteArray.empty] 47) := ⟨_, rfl⟩
                  have hYC : Chg (fun _ => False) wp Y := hY ▸ (Chg.refl _ wp).alloc _
                  have hq := heap_alloc_new' wp (.cells #[.int .i64 rc1, .string ByteArray.empty] 47)
                  first
                    | rw [← hY] at hq ⊢
                    | (have e0 : ByteArray.empty = { data := #[] } := rfl
                       rw [e0] at hY hq
                       rw [← hY] at hq ⊢)
                  have q0 := cell_of hq 0
                  have q1 := cell_of hq 1
                  simp at q0 q1
                  obtain ⟨v0, v1, v2, v3⟩ := job_cells ((HCQ.out.trans hYC (fun _ _ h => h)).obj HK4.out (fun h => h))
                  have HCX := hid (HCW.out.trans hYC (fun _ _ h => h))
                  have HBX := hid (HBW.out.same hYC)
                  clear hY hq hYC
                  have HGV := hid (bgive_any HBX.out HSZ.out (HTW.out _ HCX.out).1 (HTW.out _ HCX.out).2 (i : Int) (rc1, ByteArray.empty) (show (0 : Nat) ≤ maxLen from Nat.zero_le _))
                  unfold GivePost at HGV
                  rw [HNX.out.1, HNX.out.2.1] at HGV
                  have HNX2 := hid HNX.out.2.2
                  generalize s.put i (rc1, ByteArray.empty) = s' at *
                  have hlt2 : ol.length < s'.out.length := HNX2.out.2.2.2.2
                  have dl1 : decide ((s'.out.length : Int) ≤ (ol.length : Int)) = false := decide_eq_false (by omega)
                  have dl2 : decide (s'.out.length ≤ ol.length) = false := decide_eq_false (by omega)
                  clear HNX hfx hc0 d0 hlt2
                  go_wp2_with (go_at_call 44; refine HGV.out.mono ?_; rintro e w9 ⟨rfl, ⟨hcg, hb9⟩, _⟩; have HB9 := hid hb9; have HC9 := hid (HCX.out.trans hcg (fun z hz e => by have := HR6.out; omega)); clear hb9 hcg)
                  refine (bresults_any HB9.out HNX2.out.2.2.1.n2).mono ?_
                  rintro e w10 ⟨hc10, v10, rfl, hb10⟩
                  obtain ⟨ro3, rc3, rfl⟩ := hb10.form
                  have HC10 := hid (HC9.out.trans hc10 (fun _ _ h => h))
                  have HB10 := hid (HB9.out.same hc10)
                  clear hc10 hb10
                  go_wp2_with fail
                  go_roundw
                  case rel => exact ⟨k + 1, s', by omega, by go_num, HC10.out, HB10.out, HNX2.out.1, HNX2.out.2.1, HNX2.out.2.2.1, HNX2.out.2.2.2.1⟩
                  case measure => simp [intOf]; omega
      · obtain rfl : k = rs.length := by omega
        go_upto_region 38 with fail
        have HC2 := HC
        have HB8 := HBK
        have hall := HLV.out.all_out HS3.out
        have hst := HLV.out.st
        have HF : Hid (∀ V, Chg (fun _ => False) wr V → V.cell? ⟨pb, 1, none⟩ = some (.slice oc g.acts.length cc)) := hid (fun V hV => (HCL.out V (HX3.out.trans (HC2.out.trans hV (fun _ _ h => h)) (fun _ _ h => h))).2.1)
        have HS8 := hid (bstate_any (HB8.out.same ((Chg.refl _ wr).drew)))
        have HR8 := hid (bresults_any (HB8.out.same ((Chg.refl _ wr).drew)) HSZ.out.n2)
        unfold ResultsPost at HR8
        by_cases h2 : s.st = 2
        · have HOL := hid (hall.1 h2)
          rw [h2] at HS8
          clear hall hst h2
          refine wp_region_held_drew (S := fun W => Chg (fun _ => False) wr W) (by kernel_rfl) ((Chg.refl _ wr).drew) (fun hd => ?_)
          refine wpAnyH_takeDK (i := 0) (v := .pointer (some ⟨b, 0, none⟩)) (some 137) rfl (by kernel_rfl) (by kernel_rfl) (by kernel_rfl) (by kernel_rfl) (fun _ _ _ h => h) (.inl ⟨by kernel_rfl, fun W _ => by kernel_rfl⟩) hd ?_
          refine wpAnyH_takeDK (i := 3) (v := .pointer (some ⟨b, 0, none⟩)) (some 140) rfl (by kernel_rfl) (by kernel_rfl) (by kernel_rfl) (by kernel_rfl) (fun _ _ _ h => h) (.inl ⟨by kernel_rfl, fun W _ => by kernel_rfl⟩) hd ?_
          refine wpAnyH_takeDK (i := 6) (v := .pointer (some ⟨pb, 0, none⟩)) (some 143) rfl (by kernel_rfl) (by kernel_rfl) (by kernel_rfl) (by kernel_rfl) (fun _ _ _ h => h) (.inl ⟨by kernel_rfl, fun W _ => by kernel_rfl⟩) hd ?_
          refine wpAnyH_takeDK (i := 7) (v := .pointer (some ⟨pb, 1, none⟩)) (some 144) rfl (by kernel_rfl) (by kernel_rfl) (by kernel_rfl) (by kernel_rfl) (fun _ _ _ h => h) (.inl ⟨by kernel_rfl, fun W _ => by kernel_rfl⟩) hd ?_
          refine wpAnyH_takeDK (i := 8) (v := .slice oc g.acts.length cc) (some 145) rfl (by kernel_rfl) (by kernel_rfl) (by kernel_rfl) (by kernel_rfl) (fun _ _ _ h => h) (yieldsIf_load1K (by kernel_rfl) 23 (.tmp 144) (by kernel_rfl) pb 1 _ (by kernel_rfl) (fun W hW => load_acts (HF.out W hW))) hd ?_
          refine wpAnyH_takeDK (i := 9) (v := .int .i64 g.acts.length) (some 146) rfl (by kernel_rfl) (by kernel_rfl) (by kernel_rfl) (by kernel_rfl) (fun _ _ _ h => h) (.inl ⟨by kernel_rfl, fun W _ => by simp [execOp, go_sem]⟩) hd ?_
          try simp only [Act.put, List.setIfInBounds_toArray, List.set_cons_zero, List.set_cons_succ]
          refine wpAnyH_all (rs := [1]) (by kernel_rfl) (by simp) (fun i hi => ?_)
          obtain rfl : i = 1 := by simpa using hi
          refine wpOp_step rfl (fun K1 hK1 => ?_)
          refine Eq.mpr (if_pos (by kernel_rfl)) ?_
          go_wp2_with (go_at_call 42; refine HS8.out.mono ?_; rintro e w8 ⟨rfl, rfl⟩)
          have hd1 := hd
          refine ⟨hd1, ?_⟩
          refine wpAnyH_takeDK (i := 2) (v := .bool true) (some 139) rfl (by kernel_rfl) (by kernel_rfl) (by kernel_rfl) (by kernel_rfl) (fun _ _ _ h => h) (.inl ⟨by kernel_rfl, fun W _ => by kernel_rfl⟩) hd1 ?_
          try simp only [Act.put, List.setIfInBounds_toArray, List.set_cons_zero, List.set_cons_succ]
          refine wpAnyH_all (rs := [4]) (by kernel_rfl) (by simp) (fun i hi => ?_)
          obtain rfl : i = 4 := by simpa using hi
          refine wpOp_step rfl (fun K2 hK2 => ?_)
          refine Eq.mpr (if_pos (by kernel_rfl)) ?_
          go_wp2_with (go_at_call 43; refine HR8.out.mono ?_; rintro e w9 ⟨hc9, v9, rfl, hb9⟩; obtain ⟨ro9, rc9, hrf⟩ := hb9.form; have hrf2 : v9 = .slice ro9 g.acts.length rc9 := (by rw [hrf, HOL.out]); subst hrf2; clear hrf hb9)
          have hd2 := hd1.trans hc9 (fun _ _ h => h)
          refine ⟨hd2, ?_⟩
          refine wpAnyH_takeDK (i := 5) (v := .int .i64 g.acts.length) (some 142) rfl (by kernel_rfl) (by kernel_rfl) (by kernel_rfl) (by kernel_rfl) (fun _ _ _ h => h) (.inl ⟨by kernel_rfl, fun W _ => by simp [execOp, go_sem]⟩) hd2 ?_
          refine wpAnyH_takeDK (i := 10) (v := .bool true) (some 147) rfl (by kernel_rfl) (by kernel_rfl) (by kernel_rfl) (by kernel_rfl) (fun _ _ _ h => h) (.inl ⟨by kernel_rfl, fun W _ => by simp [go_sem]⟩) hd2 ?_
          refine wpAnyH_takeDK (i := 11) (v := .bool true) (some 148) rfl (by kernel_rfl) (by kernel_rfl) (by kernel_rfl) (by kernel_rfl) (fun _ _ _ h => h) (.inl ⟨by kernel_rfl, fun W _ => by kernel_rfl⟩) hd2 ?_
          refine wpAnyH_takeDK (i := 12) (v := .bool true) (some 4) rfl (by kernel_rfl) (by kernel_rfl) (by kernel_rfl) (by kernel_rfl) (fun _ _ _ h => h) (.inl ⟨by kernel_rfl, fun W _ => by kernel_rfl⟩) hd2 ?_
          try simp only [Act.put, List.setIfInBounds_toArray, List.set_cons_zero, List.set_cons_succ]
          refine wpAnyH_done (by kernel_rfl) ?_ _
          go_wp2_with fail
          go_ret
          exact ⟨rfl, HC3.out.trans (HC2.out.trans hd2 (fun _ _ h => h)) (fun _ _ h => h)⟩
        · have h1 : s.st = 1 := by have := HS3.out; omega
          have hnl : ((s.out.length : Int) == (g.acts.length : Int)) = false := by rw [beq_eq_false_iff_ne]; intro e; exact h2 (hall.2 (by omega))
          rw [h1] at HS8
          clear hall hst h2 h1
          refine wp_region_held_drew (S := fun W => Chg (fun _ => False) wr W) (by kernel_rfl) ((Chg.refl _ wr).drew) (fun hd => ?_)
          refine wpAnyH_takeDK (i := 0) (v := .pointer (some ⟨b, 0, none⟩)) (some 137) rfl (by kernel_rfl) (by kernel_rfl) (by kernel_rfl) (by kernel_rfl) (fun _ _ _ h => h) (.inl ⟨by kernel_rfl, fun W _ => by kernel_rfl⟩) hd ?_
          refine wpAnyH_takeDK (i := 3) (v := .pointer (some ⟨b, 0, none⟩)) (some 140) rfl (by kernel_rfl) (by kernel_rfl) (by kernel_rfl) (by kernel_rfl) (fun _ _ _ h => h) (.inl ⟨by kernel_rfl, fun W _ => by kernel_rfl⟩) hd ?_
          refine wpAnyH_takeDK (i := 6) (v := .pointer (some ⟨pb, 0, none⟩)) (some 143) rfl (by kernel_rfl) (by kernel_rfl) (by kernel_rfl) (by kernel_rfl) (fun _ _ _ h => h) (.inl ⟨by kernel_rfl, fun W _ => by kernel_rfl⟩) hd ?_
          refine wpAnyH_takeDK (i := 7) (v := .pointer (some ⟨pb, 1, none⟩)) (some 144) rfl (by kernel_rfl) (by kernel_rfl) (by kernel_rfl) (by kernel_rfl) (fun _ _ _ h => h) (.inl ⟨by kernel_rfl, fun W _ => by kernel_rfl⟩) hd ?_
          refine wpAnyH_takeDK (i := 8) (v := .slice oc g.acts.length cc) (some 145) rfl (by kernel_rfl) (by kernel_rfl) (by kernel_rfl) (by kernel_rfl) (fun _ _ _ h => h) (yieldsIf_load1K (by kernel_rfl) 23 (.tmp 144) (by kernel_rfl) pb 1 _ (by kernel_rfl) (fun W hW => load_acts (HF.out W hW))) hd ?_
          refine wpAnyH_takeDK (i := 9) (v := .int .i64 g.acts.length) (some 146) rfl (by kernel_rfl) (by kernel_rfl) (by kernel_rfl) (by kernel_rfl) (fun _ _ _ h => h) (.inl ⟨by kernel_rfl, fun W _ => by simp [execOp, go_sem]⟩) hd ?_
          try simp only [Act.put, List.setIfInBounds_toArray, List.set_cons_zero, List.set_cons_succ]
          refine wpAnyH_all (rs := [1]) (by kernel_rfl) (by simp) (fun i hi => ?_)
          obtain rfl : i = 1 := by simpa using hi
          refine wpOp_step rfl (fun K1 hK1 => ?_)
          refine Eq.mpr (if_pos (by kernel_rfl)) ?_
          go_wp2_with (go_at_call 42; refine HS8.out.mono ?_; rintro e w8 ⟨rfl, rfl⟩)
          have hd1 := hd
          refine ⟨hd1, ?_⟩
          refine wpAnyH_takeDK (i := 2) (v := .bool false) (some 139) rfl (by kernel_rfl) (by kernel_rfl) (by kernel_rfl) (by kernel_rfl) (fun _ _ _ h => h) (.inl ⟨by kernel_rfl, fun W _ => by kernel_rfl⟩) hd1 ?_
          try simp only [Act.put, List.setIfInBounds_toArray, List.set_cons_zero, List.set_cons_succ]
          refine wpAnyH_all (rs := [4]) (by kernel_rfl) (by simp) (fun i hi => ?_)
          obtain rfl : i = 4 := by simpa using hi
          refine wpOp_step rfl (fun K2 hK2 => ?_)
          refine Eq.mpr (if_pos (by kernel_rfl)) ?_
          go_wp2_with (go_at_call 43; refine HR8.out.mono ?_; rintro e w9 ⟨hc9, v9, rfl, hb9⟩; obtain ⟨ro9, rc9, hrf⟩ := hb9.form; have hrf2 : v9 = .slice ro9 s.out.length rc9 := (by rw [hrf]); subst hrf2; clear hrf hb9)
          have hd2 := hd1.trans hc9 (fun _ _ h => h)
          refine ⟨hd2, ?_⟩
          refine wpAnyH_takeDK (i := 5) (v := .int .i64 s.out.length) (some 142) rfl (by kernel_rfl) (by kernel_rfl) (by kernel_rfl) (by kernel_rfl) (fun _ _ _ h => h) (.inl ⟨by kernel_rfl, fun W _ => by simp [execOp, go_sem]⟩) hd2 ?_
          refine wpAnyH_takeDK (i := 10) (v := .bool false) (some 147) rfl (by kernel_rfl) (by kernel_rfl) (by kernel_rfl) (by kernel_rfl) (fun _ _ _ h => h) (.inl ⟨by kernel_rfl, fun W _ => by simp [go_sem, hnl]⟩) hd2 ?_
          refine wpAnyH_takeDK (i := 11) (v := .bool true) (some 148) rfl (by kernel_rfl) (by kernel_rfl) (by kernel_rfl) (by kernel_rfl) (fun _ _ _ h => h) (.inl ⟨by kernel_rfl, fun W _ => by kernel_rfl⟩) hd2 ?_
          refine wpAnyH_takeDK (i := 12) (v := .bool true) (some 4) rfl (by kernel_rfl) (by kernel_rfl) (by kernel_rfl) (by kernel_rfl) (fun _ _ _ h => h) (.inl ⟨by kernel_rfl, fun W _ => by kernel_rfl⟩) hd2 ?_
          try simp only [Act.put, List.setIfInBounds_toArray, List.set_cons_zero, List.set_cons_succ]
          refine wpAnyH_done (by kernel_rfl) ?_ _
          go_wp2_with fail
          go_ret
          exact ⟨rfl, HC3.out.trans (HC2.out.trans hd2 (fun _ _ h => h)) (fun _ _ h => h)⟩
  · have hne1 : ((checkS g srcs : Int) != 0) = true := by rw [bne_iff_ne]; omega
    go_wp2_with fail
    go_ret
    exact ⟨rfl, HC3.out.trans HW6.out (fun _ _ h => h)⟩
end Go.Proofs.YthglfmacjoecgaaGreatDoor
