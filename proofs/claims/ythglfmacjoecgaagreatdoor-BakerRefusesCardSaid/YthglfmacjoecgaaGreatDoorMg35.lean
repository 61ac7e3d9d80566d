/- Texts of the proof, one behind the other: BakerRefuses walked. -/
import Derived.Test.YthglfmacjoecgaaGreatDoorMg34
import Derived.Deep.RegionHeld3
namespace Go.Proofs.YthglfmacjoecgaaGreatDoor
open Go.RowKit

theorem range2 {W : World} {b : Nat} {u v : Value} (h0 : W.cell? ⟨b, 0, none⟩ = some u) (h1 : W.cell? ⟨b, 1, none⟩ = some v) : W.rangeAt b 0 [u, v] := by
  intro j x hx
  match j, hx with
  | 0, hx => simp at hx; rw [← hx]; exact h0
  | 1, hx => simp at hx; rw [← hx]; exact h1
  | n + 2, hx => simp at hx
/-- v is a slice of whole numbers. -/
def PlacesAt (w : World) (v : Value) (ps : List Int) : Prop := RowsAt w v 1 ps.length (fun i => [.int .i64 (ps.getD i 0)])
theorem PlacesAt.chg {F : Nat → Prop} {w w' : World} {v : Value} {l : List Int} (h : PlacesAt w v l) (hc : Chg F w w') (hF : ∀ k, k < w.heap.size → ¬ F k) : PlacesAt w' v l := RowsAt.chg h hc hF
theorem PlacesAt.len {w0 : World} {v : Value} {l : List Int} (h : PlacesAt w0 v l) (w : World) (ty : TypeId) : (Builtin.len_ #[75] ty #[v]).run Tryz.prog w = .ok (.int .i64 l.length) w :=
  RowsAt.len (P := Tryz.prog) h Tryz.underlying75 w ty
theorem PlacesAt.ix {w : World} {v : Value} {l : List Int} (h : PlacesAt w v l) (k : Nat) (hk : k < l.length) :
    ∃ bb oo, (∀ w, (Instr.indexAt 75 v (.int .i64 k)).run Tryz.prog w = .ok (.pointer (some ⟨bb, oo, none⟩)) w) ∧ w.cell? ⟨bb, oo, none⟩ = some (.int .i64 l[k]) ∧ bb < w.heap.size := by
  obtain ⟨bb, oo, h1, h2, h3⟩ := RowsAt.ix (P := Tryz.prog) h Tryz.underlying75 (fun w => by kernel_rfl) (by decide) k hk
  refine ⟨bb, oo, h1, ?_, h3⟩
  have := h2 0 (by decide)
  exact this.trans (by simp [hk])
theorem PlacesAt.form {w : World} {v : Value} {l : List Int} (h : PlacesAt w v l) : ∃ oa c, v = .slice oa l.length c := by
  rcases RowsAt.form h with ⟨h1, h2⟩ | ⟨a, cap, h1, _⟩
  · exact ⟨none, 0, by rw [h1, h2]⟩
  · exact ⟨some a, cap, h1⟩
section
variable {P : Program} {w : World} {ops : Array Oper} {rest : List Oper} {o : Oper} {a : Act} {Q : Exit → Act → World → Prop}
theorem wpList_loadWK (hw : Region.wanted o (yielded ops a.tmps) = true) (t : TypeId) (x : Operand) (hop : o.op = Op.load t x) (b off : Nat) (v : Value) (hx : a.eval x = .pointer (some ⟨b, off, none⟩)) (hr : (loadVar t ⟨b, off, none⟩).run P w = .ok v w)
    (h : wpList P ops Q rest (a.put o.dst v) w) : wpList P ops Q (o :: rest) a w := by
  refine wpList_plainW hw fun K' hK' => ?_
  unfold Oper.wp
  simp only [execOp, hop, hx, Instr.loadAt, Instr.sureAddr, Sem.run_bind, Sem.run_pure, Result.andThen_ok, hr, Oper.upon]
  exact hK' _ _ h
theorem wpList_neqW (hw : Region.wanted o (yielded ops a.tmps) = true) (t t2 : TypeId) (x y : Operand) (hop : o.op = Op.binOp .neq t x y t2) (xs ys : Array Value) (hx : a.eval x = .agg xs) (hy : a.eval y = .agg ys) (hm : P.eqGuardType P.depth t = false) (r : Bool) (hr : (binOp .neq t (.agg xs) (.agg ys)).run P w = .ok (.bool r) w)
    (h : wpList P ops Q rest (a.put o.dst (.bool r)) w) : wpList P ops Q (o :: rest) a w := by
  refine wpList_plainW hw fun K' hK' => ?_
  have hge := run_eqGuard_agg (P := P) w .neq t x y xs ys hm
  unfold Oper.wp
  simp only [execOp, hop, Sem.run_bind, hx, hy, hge, hr, Result.andThen, Sem.run_pure, Oper.upon]
  exact hK' _ _ h
end
set_option maxRecDepth 100000 in
set_option maxHeartbeats 8000000 in
theorem brefuses_any {B : Nat} (g : GrR) (srcs : List SrcR) (ps : List Int) (rr : ResR) (hrr : rr.2.size ≤ maxLen) (v pv : Value) (w : World) (hp : PlanAt w v g srcs) (hpl : PlacesAt w pv ps) (hT : TabsOK B w) (hB : B ≤ w.heap.size) : Calls Tryz.prog 10 #[v, pv, resW rr] w (Rets (.bool true) (Chg (fun _ => False) w)) := by
  obtain ⟨oa, ca, oc, cc, os, cs, iv, rfl, hs, ha, hx⟩ := hp.form
  obtain ⟨op, cp, rfl⟩ := hpl.form
  obtain ⟨rc, rb⟩ := rr
  have hlenP := hpl.len
  have hmx := hpl.le
  unfold maxLen at hmx
  have HP := hid hp
  have HPL := hid hpl
  have HS := hid hs
  have HA := hid ha
  have HX := hid hx
  have HT := hid hT
  have HBB := hid hB
  have HRR := hid hrr
  unfold resW
  simp only
  have HC1 := hid ((al_chg w (.cells #[.slice oa g.srcs.length ca, .slice oc g.acts.length cc, .slice os srcs.length cs] 79)).trans (al_chg _ (.cells #[.int .i64 rc, .string rb] 47)) (fun _ _ h => h))
  have HG1 := hid (heap_alloc_old' (heap_alloc_new' w (.cells #[.slice oa g.srcs.length ca, .slice oc g.acts.length cc, .slice os srcs.length cs] 79)) (.cells #[.int .i64 rc, .string rb] 47))
  have hq1 := heap_alloc_new' (w.alloc (.cells #[.slice oa g.srcs.length ca, .slice oc g.acts.length cc, .slice os srcs.length cs] 79)) (.cells #[.int .i64 rc, .string rb] 47)
  rw [show (w.alloc (.cells #[.slice oa g.srcs.length ca, .slice oc g.acts.length cc, .slice os srcs.length cs] 79)).heap.size = w.heap.size + 1 by simp] at hq1
  have HQ1 := hid hq1
  clear hp hs ha hx hT hB hpl hrr hq1
  have HAW := hid (bawake_any _ (HT.out.keep HC1.out) (Nat.le_trans HBB.out HC1.out.size))
  go_enter Tryz.func10, Tryz.ntmps10
  go_upto_region 3 with (go_at_call 37; refine HAW.out.mono ?_; rintro e w1 ⟨rfl, hc1⟩; have HC2 := hid (HC1.out.trans hc1 (fun _ _ h => h)); have HG2 := hid (hc1.obj HG1.out (fun h => h)); have HQ2 := hid (hc1.obj HQ1.out (fun h => h)); clear hc1)
  obtain ⟨pb, hpb⟩ : ∃ pb, pb = w.heap.size := ⟨_, rfl⟩
  have HCL : Hid (∀ W, Chg (fun _ => False) w1 W → (W.cell? ⟨pb, 0, none⟩ = some (.slice oa g.srcs.length ca) ∧ W.cell? ⟨pb, 1, none⟩ = some (.slice oc g.acts.length cc) ∧ W.cell? ⟨pb, 2, none⟩ = some (.slice os srcs.length cs)) ∧ W.cell? ⟨pb + 1, 0, none⟩ = some (.int .i64 rc) ∧ W.cell? ⟨pb + 1, 1, none⟩ = some (.string rb)) := hid (fun W hW => by
    have k := hW.obj HG2.out (fun h => h)
    have k2 := hW.obj HQ2.out (fun h => h)
    rw [← hpb] at k k2
    exact ⟨⟨cell_of k 0, cell_of k 1, cell_of k 2⟩, cell_of k2 0, cell_of k2 1⟩)
  rw [← hpb]
  clear hpb HAW HG1 HC1 HQ1 HG2 HQ2
  obtain ⟨⟨z0, z1, z2⟩, z3, z4⟩ := HCL.out w1 (Chg.refl _ _)
  have HGR := hid (bgreat_any g srcs _ w1 (HP.out.chg HC2.out (fun _ _ h => h)))
  go_wp2_with fail
  refine HGR.out.mono ?_
  rintro e w2 ⟨B2, rfl, hc2⟩
  have HC3 := hid (HC2.out.trans hc2 (fun _ _ h => h))
  have HX3 := hid hc2
  clear hc2 z0 z1 z2 z3 z4 HGR
  obtain ⟨⟨z0, z1, z2⟩, z3, z4⟩ := HCL.out w2 HX3.out
  cases B2 with
  | true =>
    go_wp2_with fail
    go_ret
    exact ⟨rfl, HC3.out⟩
  | false =>
  by_cases h30 : (30 : Int) < (ps.length : Int)
  · go_wp2_with fail
    go_ret
    exact ⟨rfl, HC3.out⟩
  have d30 : decide ((30 : Int) < (ps.length : Int)) = false := decide_eq_false h30
  by_cases h1000 : (1000 : Int) < (rb.size : Int)
  · go_wp2_with fail
    go_ret
    exact ⟨rfl, HC3.out⟩
  have d1000 : decide ((1000 : Int) < (rb.size : Int)) = false := decide_eq_false h1000
  go_wp2_with fail
  clear d30 d1000 z0 z1 z2 z3 z4
  refine (bnew_any _).mono ?_
  rintro e w5 ⟨b, r0, rfl, hb5, hbl, hrl, hc5⟩
  have HX6 := hid (HX3.out.trans hc5 (fun _ _ h => h))
  have HST := hid (bstart_plan HS.out HA.out HX.out hb5 (Nat.le_trans HC3.out.size hbl) (HC3.out.trans hc5 (fun _ _ h => h)) HT.out HBB.out)
  have HBL : Hid (w2.heap.size ≤ b ∧ w2.heap.size ≤ w5.heap.size) := hid ⟨hbl, hc5.size⟩
  have HC45 := hid hc5
  clear hb5 hbl hrl hc5
  obtain ⟨⟨z0, z1, z2⟩, _⟩ := HCL.out w5 HX6.out
  go_wp2_with fail
  refine HST.out.mono ?_
  rintro e w6 ⟨rfl, hc6, r, fp, sv2, av2, ov2, iv2, hb6, hr6, hf6⟩
  have HW6 : Hid (Chg (fun _ => False) w2 w6) := hid (HC45.out.trans hc6 (fun z hz e => by have := HBL.out; omega))
  have HR6 : Hid (w2.heap.size ≤ b ∧ w2.heap.size ≤ r) := hid ⟨HBL.out.1, Nat.le_trans HBL.out.2 hr6⟩
  have HB6 := hid hb6
  clear hc6 hb6 hr6 hf6 HST HBL HC45 z0 z1 z2 HX6
  have HTW : Hid (∀ W, Chg (fun _ => False) w2 W → TabsOK B W ∧ B ≤ W.heap.size) := hid (fun W hW => ⟨HT.out.keep (HC3.out.trans hW (fun _ _ h => h)), Nat.le_trans HBB.out (HC3.out.trans hW (fun _ _ h => h)).size⟩)
  by_cases hz : checkS g srcs = 0
  · have hne1 : ((checkS g srcs : Int) != 0) = false := by rw [bne_eq_false_iff_eq]; omega
    have HD := hid (checkS_zero.1 hz)
    have HB7 := HB6.out
    rw [start_ok hz] at HB7
    have HBG := hid HB7
    have HNW : Hid (∀ a ∈ g.acts, a.name.length ≤ maxLen) := hid (fun a h => (HA.out.wide a h).1)
    clear HB7 HB6 hz
    go_upto_region 9 with fail
    clear hne1
    go_loopw [8] (fun i wr => ∃ (k : Nat) (s : BkS), k ≤ ps.length ∧ i = .int .i64 k ∧ Chg (fun _ => False) w2 wr ∧ IsBk wr b r fp sv2 av2 ov2 iv2 s ∧ BkSize s ∧ s.g = g) (fun i _ => ps.length - (intOf i).toNat)
    case atStart => exact ⟨0, _, Nat.zero_le _, rfl, HW6.out, HBG.out, size_begun HD.out, rfl⟩
    case round =>
      obtain ⟨k, s, hk, rfl, hch, hbk, hsz, hgs⟩ := hrel
      have HC := hid hch
      have HBK := hid hbk
      have HSZ := hid hsz
      have HGS := hid hgs
      clear hch hbk hsz hgs
      by_cases hkn : k < ps.length
      · have hkn' : (k : Int) < ps.length := by omega
        obtain ⟨ib, io, hixP, e0, hltP⟩ := (HPL.out.chg HC3.out (fun _ _ h => h)).ix k hkn
        have HE0 := hid e0
        clear e0
        generalize ps[k] = pl at *
        have hok := out_ok HSZ.out (by rw [HGS.out]; exact HNW.out)
        have HSM := hid (sameB_eqK _ hok)
        have HJ := hid (fun W (hW : IsBk W b r fp sv2 av2 ov2 iv2 s) (hc : Chg (fun _ => False) w2 W) => bjob_any hW HSZ.out (HTW.out _ hc).1 (HTW.out _ hc).2)
        unfold JobPost at HJ
        obtain ⟨hzc, hzi, hzr⟩ := HSZ.out.job
        have HTK := hid (HSZ.out.took (rok_make s.jc s.ji))
        have HGO := hid (fun h : s.js = true => give_took (x := makeF s.jc s.ji) h (makeF_ok _ _))
        have HGF := hid (fun (h : s.js = true) (hp : pl ≠ s.jp) => give_far h hp (rc, rb))
        have HGB := hid (fun h : s.js = true => give_badR (x := (30, { data := #[120] })) h (by decide))
        have HGN := hid (fun h : s.js = false => give_gone h pl (rc, rb))
        have HTG : Hid ((s.took (makeF s.jc s.ji)).g = g) := hid (by rw [← HGS.out]; unfold BkS.took; split <;> rfl)
        obtain ⟨jn, hjn⟩ : ∃ jn, jn = s.jn := ⟨_, rfl⟩
        obtain ⟨jp, hjp⟩ : ∃ jp, jp = s.jp := ⟨_, rfl⟩
        obtain ⟨jc, hjc⟩ : ∃ jc, jc = s.jc := ⟨_, rfl⟩
        obtain ⟨jk, hjk⟩ : ∃ jk, jk = s.jk := ⟨_, rfl⟩
        obtain ⟨ji, hji⟩ : ∃ ji, ji = s.ji := ⟨_, rfl⟩
        obtain ⟨is, his⟩ : ∃ is, is = s.js := ⟨_, rfl⟩
        rw [← hjn, ← hjp, ← hjc, ← hjk, ← hji, ← his] at HJ
        rw [← hjc, ← hji, ← his, ← hjp] at HGO
        rw [← hjp, ← his] at HGF
        rw [← hjp, ← his] at HGB
        rw [← his] at HGN
        rw [← hjc, ← hji] at HTK HTG
        rw [← hjc] at hzc
        rw [← hji] at hzi hzr
        generalize s.took (makeF jc ji) = s' at *
        have HZJ := hid (And.intro hzc (And.intro hzi hzr))
        clear hjn hjp hjc hjk hji his hzc hzi hzr hok
        have HJ1 := hid (HJ.out wr HBK.out HC.out)
        go_upto_if 56 with (first | (go_at_call 41; refine HJ1.out.mono ?_; rintro e u3 ⟨hc3, iv3, rfl, hin3⟩; obtain ⟨io3, ic3, rfl⟩ := hin3.form; have HIN3 := hid hin3; have HCA3 := hid hc3; clear hin3 hc3) | (guard_target =~ wpList _ _ _ (Oper.mk (some 9) _ _ _ _ _ :: _) _ _; refine wpList_alloc0 rfl 85 rfl noJob (allocJob _) ?_; intro v3 hk3 hs3 hc3; have HKA3 := hid hk3; have HCB3 := hid hc3; clear hk3 hs3 hc3) | (guard_target =~ wpList _ _ _ (Oper.mk none (Op.store _ (Operand.tmp 9) _) _ _ _ _ :: _) _ _; refine wpList_store0 rfl 85 _ _ rfl u3.heap.size noJob (jobA jn jp jc (.slice io3 ji.length ic3) jk) rfl rfl HKA3.out (by rw [jobA_size]; exact sizeJob) (by unfold noJob; rw [jobA_size, jobA_size]) (jobA_one _ _ _ _ rfl _) ?_; intro x3 hk3 hs3 hc3; have HK3 := hid hk3; have HD3 := hid (HCB3.out.trans hc3 (fun z hz e => by omega)); clear hk3 hs3 hc3 HKA3 HCB3) | (go_at_call 42; refine (bstate_any (HBK.out.same (HCA3.out.trans HD3.out (fun _ _ h => h)))).mono ?_; rintro e w8 ⟨rfl, rfl⟩) | (go_at_call 43; refine (bresults_any (HBK.out.same (HCA3.out.trans HD3.out (fun _ _ h => h))) HSZ.out.n2).mono ?_; rintro e w7 ⟨hc7, v7, rfl, hb7⟩; obtain ⟨ro, rcp, rfl⟩ := hb7.form; have HC7 := hid hc7; have HB7 := hid hb7; clear hc7 hb7))
        have hY0 := HCA3.out.trans HD3.out (fun _ _ h => h)
        obtain ⟨Y, hY⟩ : ∃ Y, Y = w7.alloc (.cells #[.int .i64 30, .string { data := #[120] }] 47) := ⟨_, rfl⟩
        have HQ := hid (heap_alloc_new' w7 (.cells #[.int .i64 30, .string { data := #[120] }] 47))
        have hY1 : Chg (fun _ => False) x3 Y := hY ▸ HC7.out.alloc _
        have HBL := hid (HB7.out.chg (hY ▸ al_chg w7 (.cells #[.int .i64 30, .string { data := #[120] }] 47) : Chg (fun _ => False) w7 Y) (fun _ _ h => h))
        rw [← hY] at HQ ⊢
        have HKY := hid (hY1.obj HK3.out (fun h => h))
        have HBY := hid (HBK.out.same (hY0.trans hY1 (fun _ _ h => h)))
        have HCY := hid (HC.out.trans (hY0.trans hY1 (fun _ _ h => h)) (fun _ _ h => h))
        have HINY := hid (HIN3.out.chg (HD3.out.trans hY1 (fun _ _ h => h)) (fun _ _ h => h))
        obtain ⟨jb, hjb⟩ : ∃ jb, jb = u3.heap.size := ⟨_, rfl⟩
        obtain ⟨qb, hqb⟩ : ∃ qb, qb = w7.heap.size := ⟨_, rfl⟩
        rw [← hjb] at HKY ⊢
        rw [← hqb] at HQ ⊢
        have HJB : Hid (jb ≠ b ∧ jb ≠ r) := hid (by have h1 := heap_lt HBK.out.blk; have h2 := HBK.out.map.lt; have h3 := HCA3.out.size; omega)
        have HF : Hid (∀ W, Chg (fun _ => False) Y W → W.cell? ⟨ib, io, none⟩ = some (.int .i64 pl) ∧ W.cell? ⟨jb, 1, none⟩ = some (.int .i64 jp) ∧ W.cell? ⟨pb + 1, 0, none⟩ = some (.int .i64 rc) ∧ W.cell? ⟨pb + 1, 1, none⟩ = some (.string rb) ∧ W.cell? ⟨qb, 0, none⟩ = some (.int .i64 30) ∧ W.cell? ⟨qb, 1, none⟩ = some (.string { data := #[120] })) := hid (fun W hW => by
          have h2 := HCY.out.trans hW (fun _ _ h => h)
          have h3 := (HCL.out W (HX3.out.trans h2 (fun _ _ h => h))).2
          have h4 := hW.obj HQ.out (fun h => h)
          exact ⟨h2.cell HE0.out (fun h => h), (job_cells (hW.obj HKY.out (fun h => h))).2.1, h3.1, h3.2, cell_of h4 0, cell_of h4 1⟩)
        have hrz : rb.size ≤ maxLen := HRR.out
        have HGV := hid (fun W (hW : Chg (fun _ => False) Y W) (place : Int) (x : ResR) (hx : x.2.size ≤ maxLen) => bgive_any (HBY.out.same hW) HSZ.out (HTW.out _ (HCY.out.trans hW (fun _ _ h => h))).1 (HTW.out _ (HCY.out.trans hW (fun _ _ h => h))).2 place x hx)
        clear hY0 hY hY1 hjb hqb HIN3 HB7 HC7 HK3 HD3 HCA3 HQ
        go_cut [57] from 39 to 137 (fun _ wx => Chg (fun _ => False) Y wx)
        case first =>
          obtain ⟨c0, c1, c2, c3, c4, c5⟩ := HF.out Y (Chg.refl _ _)
          cases is with
          | false =>
            have HGN2 := hid (HGN.out rfl)
            go_upto_region 16 with fail
            go_still_tail 6, (by kernel_rfl)
            change wpList _ _ _ _ _ Y.drew
            go_wp2_with (go_at_call 44; refine (HGV.out _ ((Chg.refl _ Y).drew) pl (rc, rb) hrz).mono ?_; rintro e w8 ⟨he8, _, hc8⟩; rw [HGN2.out] at he8 hc8; subst he8; have HC8 := hid (hc8 (fun h => by cases h)); clear hc8)
            go_meet
            exact ((Chg.refl _ Y).drew).trans HC8.out (fun _ _ h => h)
          | true =>
            have HGB2 := hid (HGB.out rfl)
            by_cases hpj : pl = (jp : Int)
            · subst hpj
              have hpn : ((jp : Int) != (jp : Int)) = false := by simp
              go_upto_region 18 with fail
              refine wp_region_held_drew (S := fun W => Chg (fun _ => False) Y W) (by kernel_rfl) ((Chg.refl _ Y).drew) (fun hd => ?_)
              refine wpAnyH_takeDK (i := 0) (v := .slice op ps.length cp) (some 65) rfl (by kernel_rfl) (by kernel_rfl) (by kernel_rfl) (by kernel_rfl) (fun _ _ _ h => h) (.inl ⟨by kernel_rfl, fun W _ => by kernel_rfl⟩) hd ?_
              refine wpAnyH_takeDK (i := 1) (v := .int .i64 k) (some 66) rfl (by kernel_rfl) (by kernel_rfl) (by kernel_rfl) (by kernel_rfl) (fun _ _ _ h => h) (.inl ⟨by kernel_rfl, fun W _ => by kernel_rfl⟩) hd ?_
              refine wpAnyH_takeDK (i := 2) (v := .pointer (some ⟨ib, io, none⟩)) (some 67) rfl (by kernel_rfl) (by kernel_rfl) (by kernel_rfl) (by kernel_rfl) (fun _ _ _ h => h) (yieldsIf_index (by kernel_rfl) 75 (.tmp 65) (.tmp 66) (by kernel_rfl) (.slice op ps.length cp) (.int .i64 k) _ (by kernel_rfl) (by kernel_rfl) (fun W => hixP W)) hd ?_
              refine wpAnyH_takeDK (i := 3) (v := .int .i64 (jp : Int)) (some 68) rfl (by kernel_rfl) (by kernel_rfl) (by kernel_rfl) (by kernel_rfl) (fun _ _ _ h => h) (yieldsIf_load1K (by kernel_rfl) 3 (.tmp 67) (by kernel_rfl) ib io _ (by kernel_rfl) (fun W hW => load_int (HF.out W hW).1)) hd ?_
              refine wpAnyH_takeDK (i := 4) (v := .pointer (some ⟨jb, 1, none⟩)) (some 69) rfl (by kernel_rfl) (by kernel_rfl) (by kernel_rfl) (by kernel_rfl) (fun _ _ _ h => h) (.inl ⟨by kernel_rfl, fun W _ => by kernel_rfl⟩) hd ?_
              refine wpAnyH_takeDK (i := 5) (v := .int .i64 jp) (some 70) rfl (by kernel_rfl) (by kernel_rfl) (by kernel_rfl) (by kernel_rfl) (fun _ _ _ h => h) (yieldsIf_load1K (by kernel_rfl) 3 (.tmp 69) (by kernel_rfl) jb 1 _ (by kernel_rfl) (fun W hW => load_int (HF.out W hW).2.1)) hd ?_
              refine wpAnyH_takeDK (i := 6) (v := .bool false) (some 71) rfl (by kernel_rfl) (by kernel_rfl) (by kernel_rfl) (by kernel_rfl) (fun _ _ _ h => h) (.inl ⟨by kernel_rfl, fun W _ => by simp [go_sem]⟩) hd ?_
              refine wpAnyH_takeDK (i := 7) (v := .bool false) (some 72) rfl (by kernel_rfl) (by kernel_rfl) (by kernel_rfl) (by kernel_rfl) (fun _ _ _ h => h) (.inl ⟨by kernel_rfl, fun W _ => by kernel_rfl⟩) hd ?_
              refine wpAnyH_takeDK (i := 8) (v := undef) (some 73) rfl (by kernel_rfl) (by kernel_rfl) (by kernel_rfl) (by kernel_rfl) (fun _ _ _ h => h) (.inr ⟨by kernel_rfl, rfl⟩) hd ?_
              refine wpAnyH_takeDK (i := 9) (v := undef) (some 74) rfl (by kernel_rfl) (by kernel_rfl) (by kernel_rfl) (by kernel_rfl) (fun _ _ _ h => h) (.inr ⟨by kernel_rfl, rfl⟩) hd ?_
              refine wpAnyH_takeDK (i := 10) (v := undef) (some 75) rfl (by kernel_rfl) (by kernel_rfl) (by kernel_rfl) (by kernel_rfl) (fun _ _ _ h => h) (.inr ⟨by kernel_rfl, rfl⟩) hd ?_
              refine wpAnyH_takeDK (i := 11) (v := undef) (some 76) rfl (by kernel_rfl) (by kernel_rfl) (by kernel_rfl) (by kernel_rfl) (fun _ _ _ h => h) (.inr ⟨by kernel_rfl, rfl⟩) hd ?_
              refine wpAnyH_takeDK (i := 12) (v := undef) (some 77) rfl (by kernel_rfl) (by kernel_rfl) (by kernel_rfl) (by kernel_rfl) (fun _ _ _ h => h) (.inr ⟨by kernel_rfl, rfl⟩) hd ?_
              refine wpAnyH_takeDK (i := 13) (v := undef) (some 78) rfl (by kernel_rfl) (by kernel_rfl) (by kernel_rfl) (by kernel_rfl) (fun _ _ _ h => h) (.inr ⟨by kernel_rfl, rfl⟩) hd ?_
              refine wpAnyH_takeDK (i := 14) (v := undef) (some 79) rfl (by kernel_rfl) (by kernel_rfl) (by kernel_rfl) (by kernel_rfl) (fun _ _ _ h => h) (.inr ⟨by kernel_rfl, rfl⟩) hd ?_
              refine wpAnyH_takeDK (i := 15) (v := undef) (some 80) rfl (by kernel_rfl) (by kernel_rfl) (by kernel_rfl) (by kernel_rfl) (fun _ _ _ h => h) (.inr ⟨by kernel_rfl, rfl⟩) hd ?_
              refine wpAnyH_takeDK (i := 16) (v := .bool false) (some 81) rfl (by kernel_rfl) (by kernel_rfl) (by kernel_rfl) (by kernel_rfl) (fun _ _ _ h => h) (.inl ⟨by kernel_rfl, fun W _ => by kernel_rfl⟩) hd ?_
              refine wpAnyH_takeDK (i := 17) (v := .bool false) (some 82) rfl (by kernel_rfl) (by kernel_rfl) (by kernel_rfl) (by kernel_rfl) (fun _ _ _ h => h) (.inl ⟨by kernel_rfl, fun W _ => by kernel_rfl⟩) hd ?_
              refine wpAnyH_takeDK (i := 18) (v := .pointer (some ⟨b, 0, none⟩)) (some 83) rfl (by kernel_rfl) (by kernel_rfl) (by kernel_rfl) (by kernel_rfl) (fun _ _ _ h => h) (.inl ⟨by kernel_rfl, fun W _ => by kernel_rfl⟩) hd ?_
              refine wpAnyH_takeDK (i := 19) (v := .pointer (some ⟨jb, 1, none⟩)) (some 84) rfl (by kernel_rfl) (by kernel_rfl) (by kernel_rfl) (by kernel_rfl) (fun _ _ _ h => h) (.inl ⟨by kernel_rfl, fun W _ => by kernel_rfl⟩) hd ?_
              refine wpAnyH_takeDK (i := 20) (v := .int .i64 jp) (some 85) rfl (by kernel_rfl) (by kernel_rfl) (by kernel_rfl) (by kernel_rfl) (fun _ _ _ h => h) (yieldsIf_load1K (by kernel_rfl) 3 (.tmp 84) (by kernel_rfl) jb 1 _ (by kernel_rfl) (fun W hW => load_int (HF.out W hW).2.1)) hd ?_
              refine wpAnyH_takeDK (i := 21) (v := .agg #[.int .i64 30, .string { data := #[120] }]) (some 86) rfl (by kernel_rfl) (by kernel_rfl) (by kernel_rfl) (by kernel_rfl) (fun _ _ _ h => h) (yieldsIf_load_mid (by kernel_rfl) 47 (.tmp 13) (by kernel_rfl) qb 0 (by kernel_rfl) [.int .i64 30, .string { data := #[120] }] (.struct _) (fun W hW => range2 (HF.out W hW).2.2.2.2.1 (HF.out W hW).2.2.2.2.2) Tryz.underlying47 rfl (by kernel_rfl)) hd ?_
              try simp only [Act.put, List.setIfInBounds_toArray, List.set_cons_zero, List.set_cons_succ]
              refine wpAnyH_all (rs := [22]) (by kernel_rfl) (by simp) (fun i hi => ?_)
              obtain rfl : i = 22 := by simpa using hi
              refine wpOp_step rfl (fun K2 hK2 => ?_)
              refine Eq.mpr (if_pos (by kernel_rfl)) ?_
              go_wp2_with (go_at_call 44; refine (HGV.out _ hd (jp : Int) (30, { data := #[120] }) (by decide)).mono ?_; rintro e w9 ⟨he9, _, hc9⟩; rw [HGB2.out] at he9 hc9; subst he9; have hcg2 := hc9 (fun h => by cases h); clear hc9)
              have hd2 := hd.trans hcg2 (fun _ _ h => h)
              refine ⟨hd2, ?_⟩
              refine wpAnyH_takeDK (i := 23) (v := .bool false) (some 88) rfl (by kernel_rfl) (by kernel_rfl) (by kernel_rfl) (by kernel_rfl) (fun _ _ _ h => h) (.inl ⟨by kernel_rfl, fun W _ => by kernel_rfl⟩) hd2 ?_
              refine wpAnyH_takeDK (i := 24) (v := .bool false) (some 89) rfl (by kernel_rfl) (by kernel_rfl) (by kernel_rfl) (by kernel_rfl) (fun _ _ _ h => h) (.inl ⟨by kernel_rfl, fun W _ => by kernel_rfl⟩) hd2 ?_
              try simp only [Act.put, List.setIfInBounds_toArray, List.set_cons_zero, List.set_cons_succ]
              refine wpAnyH_done (by kernel_rfl) ?_ _
              go_wp2_with fail
              go_meet
              exact hd2
            · have hpn : ((pl : Int) != (jp : Int)) = true := by rw [bne_iff_ne]; exact hpj
              have HGF2 := hid (HGF.out rfl hpj)
              go_upto_region 18 with fail
              refine wp_region_held_drew (S := fun W => Chg (fun _ => False) Y W) (by kernel_rfl) ((Chg.refl _ Y).drew) (fun hd => ?_)
              refine wpAnyH_takeDK (i := 0) (v := .slice op ps.length cp) (some 65) rfl (by kernel_rfl) (by kernel_rfl) (by kernel_rfl) (by kernel_rfl) (fun _ _ _ h => h) (.inl ⟨by kernel_rfl, fun W _ => by kernel_rfl⟩) hd ?_
              refine wpAnyH_takeDK (i := 1) (v := .int .i64 k) (some 66) rfl (by kernel_rfl) (by kernel_rfl) (by kernel_rfl) (by kernel_rfl) (fun _ _ _ h => h) (.inl ⟨by kernel_rfl, fun W _ => by kernel_rfl⟩) hd ?_
              refine wpAnyH_takeDK (i := 2) (v := .pointer (some ⟨ib, io, none⟩)) (some 67) rfl (by kernel_rfl) (by kernel_rfl) (by kernel_rfl) (by kernel_rfl) (fun _ _ _ h => h) (yieldsIf_index (by kernel_rfl) 75 (.tmp 65) (.tmp 66) (by kernel_rfl) (.slice op ps.length cp) (.int .i64 k) _ (by kernel_rfl) (by kernel_rfl) (fun W => hixP W)) hd ?_
              refine wpAnyH_takeDK (i := 3) (v := .int .i64 pl) (some 68) rfl (by kernel_rfl) (by kernel_rfl) (by kernel_rfl) (by kernel_rfl) (fun _ _ _ h => h) (yieldsIf_load1K (by kernel_rfl) 3 (.tmp 67) (by kernel_rfl) ib io _ (by kernel_rfl) (fun W hW => load_int (HF.out W hW).1)) hd ?_
              refine wpAnyH_takeDK (i := 4) (v := .pointer (some ⟨jb, 1, none⟩)) (some 69) rfl (by kernel_rfl) (by kernel_rfl) (by kernel_rfl) (by kernel_rfl) (fun _ _ _ h => h) (.inl ⟨by kernel_rfl, fun W _ => by kernel_rfl⟩) hd ?_
              refine wpAnyH_takeDK (i := 5) (v := .int .i64 jp) (some 70) rfl (by kernel_rfl) (by kernel_rfl) (by kernel_rfl) (by kernel_rfl) (fun _ _ _ h => h) (yieldsIf_load1K (by kernel_rfl) 3 (.tmp 69) (by kernel_rfl) jb 1 _ (by kernel_rfl) (fun W hW => load_int (HF.out W hW).2.1)) hd ?_
              refine wpAnyH_takeDK (i := 6) (v := .bool true) (some 71) rfl (by kernel_rfl) (by kernel_rfl) (by kernel_rfl) (by kernel_rfl) (fun _ _ _ h => h) (.inl ⟨by kernel_rfl, fun W _ => by simp [go_sem, hpn]⟩) hd ?_
              refine wpAnyH_takeDK (i := 7) (v := .bool true) (some 72) rfl (by kernel_rfl) (by kernel_rfl) (by kernel_rfl) (by kernel_rfl) (fun _ _ _ h => h) (.inl ⟨by kernel_rfl, fun W _ => by kernel_rfl⟩) hd ?_
              refine wpAnyH_takeDK (i := 8) (v := .pointer (some ⟨b, 0, none⟩)) (some 73) rfl (by kernel_rfl) (by kernel_rfl) (by kernel_rfl) (by kernel_rfl) (fun _ _ _ h => h) (.inl ⟨by kernel_rfl, fun W _ => by kernel_rfl⟩) hd ?_
              refine wpAnyH_takeDK (i := 9) (v := .slice op ps.length cp) (some 74) rfl (by kernel_rfl) (by kernel_rfl) (by kernel_rfl) (by kernel_rfl) (fun _ _ _ h => h) (.inl ⟨by kernel_rfl, fun W _ => by kernel_rfl⟩) hd ?_
              refine wpAnyH_takeDK (i := 10) (v := .int .i64 k) (some 75) rfl (by kernel_rfl) (by kernel_rfl) (by kernel_rfl) (by kernel_rfl) (fun _ _ _ h => h) (.inl ⟨by kernel_rfl, fun W _ => by kernel_rfl⟩) hd ?_
              refine wpAnyH_takeDK (i := 11) (v := .pointer (some ⟨ib, io, none⟩)) (some 76) rfl (by kernel_rfl) (by kernel_rfl) (by kernel_rfl) (by kernel_rfl) (fun _ _ _ h => h) (yieldsIf_index (by kernel_rfl) 75 (.tmp 74) (.tmp 75) (by kernel_rfl) (.slice op ps.length cp) (.int .i64 k) _ (by kernel_rfl) (by kernel_rfl) (fun W => hixP W)) hd ?_
              refine wpAnyH_takeDK (i := 12) (v := .int .i64 pl) (some 77) rfl (by kernel_rfl) (by kernel_rfl) (by kernel_rfl) (by kernel_rfl) (fun _ _ _ h => h) (yieldsIf_load1K (by kernel_rfl) 3 (.tmp 76) (by kernel_rfl) ib io _ (by kernel_rfl) (fun W hW => load_int (HF.out W hW).1)) hd ?_
              refine wpAnyH_takeDK (i := 13) (v := .agg #[.int .i64 rc, .string rb]) (some 78) rfl (by kernel_rfl) (by kernel_rfl) (by kernel_rfl) (by kernel_rfl) (fun _ _ _ h => h) (yieldsIf_load_mid (by kernel_rfl) 47 (.tmp 5) (by kernel_rfl) (pb + 1) 0 (by kernel_rfl) [.int .i64 rc, .string rb] (.struct _) (fun W hW => range2 (HF.out W hW).2.2.1 (HF.out W hW).2.2.2.1) Tryz.underlying47 rfl (by kernel_rfl)) hd ?_
              try simp only [Act.put, List.setIfInBounds_toArray, List.set_cons_zero, List.set_cons_succ]
              refine wpAnyH_all (rs := [14]) (by kernel_rfl) (by simp) (fun i hi => ?_)
              obtain rfl : i = 14 := by simpa using hi
              refine wpOp_step rfl (fun K1 hK1 => ?_)
              refine Eq.mpr (if_pos (by kernel_rfl)) ?_
              go_wp2_with (go_at_call 44; refine (HGV.out _ hd pl (rc, rb) hrz).mono ?_; rintro e w8 ⟨he8, _, hc8⟩; rw [HGF2.out] at he8 hc8; subst he8; have hcg1 := hc8 (fun h => by cases h); clear hc8)
              have hd1 := hd.trans hcg1 (fun _ _ h => h)
              refine ⟨hd1, ?_⟩
              refine wpAnyH_takeDK (i := 15) (v := .bool false) (some 80) rfl (by kernel_rfl) (by kernel_rfl) (by kernel_rfl) (by kernel_rfl) (fun _ _ _ h => h) (.inl ⟨by kernel_rfl, fun W _ => by kernel_rfl⟩) hd1 ?_
              refine wpAnyH_takeDK (i := 16) (v := .bool false) (some 81) rfl (by kernel_rfl) (by kernel_rfl) (by kernel_rfl) (by kernel_rfl) (fun _ _ _ h => h) (.inl ⟨by kernel_rfl, fun W _ => by kernel_rfl⟩) hd1 ?_
              refine wpAnyH_takeDK (i := 17) (v := .bool false) (some 82) rfl (by kernel_rfl) (by kernel_rfl) (by kernel_rfl) (by kernel_rfl) (fun _ _ _ h => h) (.inl ⟨by kernel_rfl, fun W _ => by kernel_rfl⟩) hd1 ?_
              refine wpAnyH_takeDK (i := 18) (v := .pointer (some ⟨b, 0, none⟩)) (some 83) rfl (by kernel_rfl) (by kernel_rfl) (by kernel_rfl) (by kernel_rfl) (fun _ _ _ h => h) (.inl ⟨by kernel_rfl, fun W _ => by kernel_rfl⟩) hd1 ?_
              refine wpAnyH_takeDK (i := 19) (v := .pointer (some ⟨jb, 1, none⟩)) (some 84) rfl (by kernel_rfl) (by kernel_rfl) (by kernel_rfl) (by kernel_rfl) (fun _ _ _ h => h) (.inl ⟨by kernel_rfl, fun W _ => by kernel_rfl⟩) hd1 ?_
              refine wpAnyH_takeDK (i := 20) (v := .int .i64 jp) (some 85) rfl (by kernel_rfl) (by kernel_rfl) (by kernel_rfl) (by kernel_rfl) (fun _ _ _ h => h) (yieldsIf_load1K (by kernel_rfl) 3 (.tmp 84) (by kernel_rfl) jb 1 _ (by kernel_rfl) (fun W hW => load_int (HF.out W hW).2.1)) hd1 ?_
              refine wpAnyH_takeDK (i := 21) (v := .agg #[.int .i64 30, .string { data := #[120] }]) (some 86) rfl (by kernel_rfl) (by kernel_rfl) (by kernel_rfl) (by kernel_rfl) (fun _ _ _ h => h) (yieldsIf_load_mid (by kernel_rfl) 47 (.tmp 13) (by kernel_rfl) qb 0 (by kernel_rfl) [.int .i64 30, .string { data := #[120] }] (.struct _) (fun W hW => range2 (HF.out W hW).2.2.2.2.1 (HF.out W hW).2.2.2.2.2) Tryz.underlying47 rfl (by kernel_rfl)) hd1 ?_
              try simp only [Act.put, List.setIfInBounds_toArray, List.set_cons_zero, List.set_cons_succ]
              refine wpAnyH_all (rs := [22]) (by kernel_rfl) (by simp) (fun i hi => ?_)
              obtain rfl : i = 22 := by simpa using hi
              refine wpOp_step rfl (fun K2 hK2 => ?_)
              refine Eq.mpr (if_pos (by kernel_rfl)) ?_
              go_wp2_with (go_at_call 44; refine (HGV.out _ hd1 (jp : Int) (30, { data := #[120] }) (by decide)).mono ?_; rintro e w9 ⟨he9, _, hc9⟩; rw [HGB2.out] at he9 hc9; subst he9; have hcg2 := hc9 (fun h => by cases h); clear hc9)
              have hd2 := hd1.trans hcg2 (fun _ _ h => h)
              refine ⟨hd2, ?_⟩
              refine wpAnyH_takeDK (i := 23) (v := .bool false) (some 88) rfl (by kernel_rfl) (by kernel_rfl) (by kernel_rfl) (by kernel_rfl) (fun _ _ _ h => h) (.inl ⟨by kernel_rfl, fun W _ => by kernel_rfl⟩) hd2 ?_
              refine wpAnyH_takeDK (i := 24) (v := .bool false) (some 89) rfl (by kernel_rfl) (by kernel_rfl) (by kernel_rfl) (by kernel_rfl) (fun _ _ _ h => h) (.inl ⟨by kernel_rfl, fun W _ => by kernel_rfl⟩) hd2 ?_
              try simp only [Act.put, List.setIfInBounds_toArray, List.set_cons_zero, List.set_cons_succ]
              refine wpAnyH_done (by kernel_rfl) ?_ _
              go_wp2_with fail
              go_meet
              exact hd2
        case rest =>
          have HWX := hid hcut
          clear hcut
          have HCZ := hid (HCY.out.trans HWX.out (fun _ _ h => h))
          have HBZ := hid (HBY.out.same HWX.out)
          have HJ2 := hid (HJ.out wc HBZ.out HCZ.out)
          clear HJ HJ1
          go_upto_region 21 with (first | (go_at_call 41; refine HJ2.out.mono ?_; rintro e u4 ⟨hc4, iv4, rfl, hin4⟩; obtain ⟨io4, ic4, rfl⟩ := hin4.form; have HIN4 := hid hin4; have HCA4 := hid hc4; clear hin4 hc4) | (guard_target =~ wpList _ _ _ (Oper.mk (some 14) _ _ _ _ _ :: _) _ _; refine wpList_alloc0 rfl 85 rfl noJob (allocJob _) ?_; intro v4 hk4 hs4 hc4; have HKA4 := hid hk4; have HCB4 := hid hc4; clear hk4 hs4 hc4) | (guard_target =~ wpList _ _ _ (Oper.mk none (Op.store _ (Operand.tmp 14) _) _ _ _ _ :: _) _ _; refine wpList_store0 rfl 85 _ _ rfl u4.heap.size noJob (jobA jn jp jc (.slice io4 ji.length ic4) jk) rfl rfl HKA4.out (by rw [jobA_size]; exact sizeJob) (by unfold noJob; rw [jobA_size, jobA_size]) (jobA_one _ _ _ _ rfl _) ?_; intro x4 hk4 hs4 hc4; have HK4 := hid hk4; have HD4 := hid (HCB4.out.trans hc4 (fun z hz e => by omega)); clear hk4 hs4 hc4 HKA4 HCB4))
          have hz4 := HCA4.out.trans HD4.out (fun _ _ h => h)
          have HC4 := hid (HCZ.out.trans hz4 (fun _ _ h => h))
          have HB4 := hid (HBZ.out.same hz4)
          have HKX := hid ((HWX.out.trans hz4 (fun _ _ h => h)).obj HKY.out (fun h => h))
          have HINX := hid (HINY.out.chg (HWX.out.trans hz4 (fun _ _ h => h)) (fun _ _ h => h))
          have HBLX := hid (HBL.out.chg (HWX.out.trans hz4 (fun _ _ h => h)) (fun _ _ h => h))
          obtain ⟨jb4, hjb4⟩ : ∃ jb4, jb4 = u4.heap.size := ⟨_, rfl⟩
          rw [← hjb4] at HK4 ⊢
          obtain ⟨y0, y1, y2, y3⟩ := job_cells HKX.out
          obtain ⟨v0, v1, v2, v3⟩ := job_cells HK4.out
          clear hz4 hjb4
          have hib : ∀ x : Bool, (x != x) = false := by intro x; cases x <;> rfl
          have hi1 := hib is
          have hst := bstate_any HB4.out
          have HST4 := hid hst
          clear hst hib
          go_upto_region 23 with (first | (guard_target =~ wpList _ _ _ (Oper.mk (some 107) _ _ _ _ _ :: _) _ _; refine wpList_loadWK (by first | kernel_rfl | simp [Region.wanted, yielded]) 57 _ rfl jb 4 _ rfl (load_digK (job_range HKX.out)) ?_) | (guard_target =~ wpList _ _ _ (Oper.mk (some 109) _ _ _ _ _ :: _) _ _; refine wpList_loadWK (by first | kernel_rfl | simp [Region.wanted, yielded]) 57 _ rfl jb4 4 _ rfl (load_digK (job_range HK4.out)) ?_) | (guard_target =~ wpList _ _ _ (Oper.mk (some 110) _ _ _ _ _ :: _) _ _; refine wpList_neqW (by first | kernel_rfl | simp [Region.wanted, yielded]) 57 57 _ _ rfl _ _ rfl rfl (by kernel_rfl) false (neq_dig_sameK jk _) ?_) | (go_at_call 42; refine HST4.out.mono ?_; rintro e w10 ⟨rfl, rfl⟩) | (go_at_call 43; refine (bresults_any HB4.out HSZ.out.n2).mono ?_; rintro e w11 ⟨hc11, v11, rfl, hb11⟩; obtain ⟨ro2, rc2, rfl⟩ := hb11.form; have HC11 := hid hc11; have HB11 := hid hb11; clear hc11 hb11) | (go_at_call 21; refine (HSM.out _ _ _ HB11.out (HBLX.out.chg HC11.out (fun _ _ h => h))).mono ?_; rintro e w12 ⟨rfl, hc12⟩; have HC12 := hid (HC11.out.trans hc12 (fun _ _ h => h)); clear hc12))
          have HC6 := hid (HC4.out.trans HC12.out (fun _ _ h => h))
          have HB6 := hid (HB4.out.same HC12.out)
          have HK6 := hid (HC12.out.obj HKX.out (fun h => h))
          have HIN6 := hid (HINX.out.chg HC12.out (fun _ _ h => h))
          clear y0 y1 y2 y3 v0 v1 v2 v3 hi1 HST4 HKX HINX HBLX HB4 HC4 HC12 HC11 HB11 HK4 HIN4 HCA4 HD4 HSM HGN HGF HGB HWX HCZ HBZ HKY HBY HCY HINY HBL
          cases is with
          | false =>
            go_quiet (fail)
            go_wp2_with fail
            go_roundw
            case rel => exact ⟨k + 1, s, by omega, by go_num, HC6.out.drewN _, HB6.out.same ((Chg.refl _ _).drewN _), HSZ.out, HGS.out⟩
            case measure => simp [intOf]; omega
          | true =>
            have HGV2 := hid (HGO.out rfl)
            obtain ⟨y0, y1, y2, y3⟩ := job_cells HK6.out
            have hxd : Chg (fun _ => False) w12 w12.drew := (Chg.refl _ _).drew
            have HMK := hid (make_any jc HZJ.out.1 ji HZJ.out.2.1 (fun r hr => (HZJ.out.2.2 r hr).1) (.slice io3 ji.length ic3) w12.drew (HIN6.out.chg hxd (fun _ _ h => h)) (HTW.out _ (HC6.out.trans hxd (fun _ _ h => h))).1 (HTW.out _ (HC6.out.trans hxd (fun _ _ h => h))).2)
            have HXD := hid hxd
            have hmz : (makeF jc ji).2.size ≤ maxLen := by have := (rok_make jc ji).1; unfold maxLen; omega
            have HJF : Hid (∀ W, Chg (fun k => k = b ∨ k = r) w12 W → W.cell? ⟨jb, 1, none⟩ = some (.int .i64 jp) ∧ W.cell? ⟨jb, 2, none⟩ = some (.string jc) ∧ W.cell? ⟨jb, 3, none⟩ = some (.slice io3 ji.length ic3)) := hid (fun W hW => by
              have hno : ¬ (jb = b ∨ jb = r) := fun e => by have := HJB.out; omega
              exact ⟨hW.cell y1 hno, hW.cell y2 hno, hW.cell y3 hno⟩)
            clear hxd y0 y1 y2 y3
            refine wp_region_held_drew (S := fun W => Chg (fun k => k = b ∨ k = r) w12 W) (by kernel_rfl) ((Chg.refl _ w12).drew) (fun hd => ?_)
            refine wpAnyH_takeDK (i := 0) (v := .bool true) (some 125) rfl (by kernel_rfl) (by kernel_rfl) (by kernel_rfl) (by kernel_rfl) (fun _ _ _ h => h) (.inl ⟨by kernel_rfl, fun W _ => by kernel_rfl⟩) hd ?_
            refine wpAnyH_takeDK (i := 1) (v := .bool true) (some 126) rfl (by kernel_rfl) (by kernel_rfl) (by kernel_rfl) (by kernel_rfl) (fun _ _ _ h => h) (.inl ⟨by kernel_rfl, fun W _ => by kernel_rfl⟩) hd ?_
            refine wpAnyH_takeDK (i := 2) (v := .pointer (some ⟨b, 0, none⟩)) (some 127) rfl (by kernel_rfl) (by kernel_rfl) (by kernel_rfl) (by kernel_rfl) (fun _ _ _ h => h) (.inl ⟨by kernel_rfl, fun W _ => by kernel_rfl⟩) hd ?_
            refine wpAnyH_takeDK (i := 3) (v := .pointer (some ⟨jb, 1, none⟩)) (some 128) rfl (by kernel_rfl) (by kernel_rfl) (by kernel_rfl) (by kernel_rfl) (fun _ _ _ h => h) (.inl ⟨by kernel_rfl, fun W _ => by kernel_rfl⟩) hd ?_
            refine wpAnyH_takeDK (i := 4) (v := .int .i64 jp) (some 129) rfl (by kernel_rfl) (by kernel_rfl) (by kernel_rfl) (by kernel_rfl) (fun _ _ _ h => h) (yieldsIf_load1K (by kernel_rfl) 3 (.tmp 128) (by kernel_rfl) jb 1 _ (by kernel_rfl) (fun W hW => load_int (HJF.out W hW).1)) hd ?_
            refine wpAnyH_takeDK (i := 5) (v := .pointer (some ⟨jb, 2, none⟩)) (some 130) rfl (by kernel_rfl) (by kernel_rfl) (by kernel_rfl) (by kernel_rfl) (fun _ _ _ h => h) (.inl ⟨by kernel_rfl, fun W _ => by kernel_rfl⟩) hd ?_
            refine wpAnyH_takeDK (i := 6) (v := .string jc) (some 131) rfl (by kernel_rfl) (by kernel_rfl) (by kernel_rfl) (by kernel_rfl) (fun _ _ _ h => h) (yieldsIf_load1K (by kernel_rfl) 9 (.tmp 130) (by kernel_rfl) jb 2 _ (by kernel_rfl) (fun W hW => load_strK (HJF.out W hW).2.1)) hd ?_
            refine wpAnyH_takeDK (i := 7) (v := .pointer (some ⟨jb, 3, none⟩)) (some 132) rfl (by kernel_rfl) (by kernel_rfl) (by kernel_rfl) (by kernel_rfl) (fun _ _ _ h => h) (.inl ⟨by kernel_rfl, fun W _ => by kernel_rfl⟩) hd ?_
            refine wpAnyH_takeDK (i := 8) (v := .slice io3 ji.length ic3) (some 133) rfl (by kernel_rfl) (by kernel_rfl) (by kernel_rfl) (by kernel_rfl) (fun _ _ _ h => h) (yieldsIf_load1K (by kernel_rfl) 58 (.tmp 132) (by kernel_rfl) jb 3 _ (by kernel_rfl) (fun W hW => load_ress2 (HJF.out W hW).2.2)) hd ?_
            try simp only [Act.put, List.setIfInBounds_toArray, List.set_cons_zero, List.set_cons_succ]
            refine wpAnyH_all (rs := [9]) (by kernel_rfl) (by simp) (fun i hi => ?_)
            obtain rfl : i = 9 := by simpa using hi
            refine wpOp_step rfl (fun K1 hK1 => ?_)
            refine Eq.mpr (if_pos (by kernel_rfl)) ?_
            go_wp2_with (go_at_call 30; refine HMK.out.mono ?_; rintro e w8 ⟨rfl, hc8⟩; have HX8 := hid hc8; clear hc8)
            have hd1 := hd.trans (HX8.out.mono (fun _ _ h => h.elim)) (fun _ _ h => h)
            refine ⟨hd1, ?_⟩
            try simp only [Act.put, List.setIfInBounds_toArray, List.set_cons_zero, List.set_cons_succ, Array.toArray_toList]
            refine wpAnyH_all (rs := [10]) (by kernel_rfl) (by simp) (fun i hi => ?_)
            obtain rfl : i = 10 := by simpa using hi
            refine wpOp_step rfl (fun K2 hK2 => ?_)
            refine Eq.mpr (if_pos (by kernel_rfl)) ?_
            go_wp2_with (go_at_call 44; refine (bgive_any (HB6.out.same (HXD.out.trans HX8.out (fun _ _ h => h))) HSZ.out (HTW.out _ (HC6.out.trans (HXD.out.trans HX8.out (fun _ _ h => h)) (fun _ _ h => h))).1 (HTW.out _ (HC6.out.trans (HXD.out.trans HX8.out (fun _ _ h => h)) (fun _ _ h => h))).2 jp (makeF jc ji) hmz).mono ?_; rintro e w9 ⟨he9, ⟨hcg, hb9⟩, _⟩; rw [HGV2.out] at he9 hb9; subst he9; have HB9 := hid hb9; have HC9 := hid ((HC6.out.trans (HXD.out.trans HX8.out (fun _ _ h => h)) (fun _ _ h => h)).trans hcg (fun z hz e => by have := HR6.out; omega)); clear hb9)
            have hd2 := hd1.trans hcg (fun _ _ h => h)
            refine ⟨hd2, ?_⟩
            refine wpAnyH_takeDK (i := 11) (v := .bool false) (some 136) rfl (by kernel_rfl) (by kernel_rfl) (by kernel_rfl) (by kernel_rfl) (fun _ _ _ h => h) (.inl ⟨by kernel_rfl, fun W _ => by kernel_rfl⟩) hd2 ?_
            refine wpAnyH_takeDK (i := 12) (v := .bool false) (some 137) rfl (by kernel_rfl) (by kernel_rfl) (by kernel_rfl) (by kernel_rfl) (fun _ _ _ h => h) (.inl ⟨by kernel_rfl, fun W _ => by kernel_rfl⟩) hd2 ?_
            try simp only [Act.put, List.setIfInBounds_toArray, List.set_cons_zero, List.set_cons_succ]
            refine wpAnyH_done (by kernel_rfl) ?_ _
            go_wp2_with fail
            go_roundw
            case rel => exact ⟨k + 1, s', by omega, by go_num, HC9.out, HB9.out, HTK.out, HTG.out⟩
            case measure => simp [intOf]; omega
      · obtain rfl : k = ps.length := by omega
        go_wp2_with fail
        go_ret
        exact ⟨rfl, HC3.out.trans HC.out (fun _ _ h => h)⟩
  · have hne1 : ((checkS g srcs : Int) != 0) = true := by rw [bne_iff_ne]; omega
    go_wp2_with fail
    go_ret
    exact ⟨rfl, HC3.out.trans HW6.out (fun _ _ h => h)⟩
end Go.Proofs.YthglfmacjoecgaaGreatDoor
