/- Texts of the proof, one behind the other: BakerExact walked; A slice that came in, element by element; A slice of calls that came in. -/
import Derived.Test.YthglfmacjoecgaaGreatDoorMx18
import Derived.Test.YthglfmacjoecgaaGreatDoorMx16
import Derived.Deep.RegionHeld3
import Derived.Deep.CutBlock
import Derived.Test.YthglfmacjoecgaaGreatDoorMx15
namespace Go.Proofs.YthglfmacjoecgaaGreatDoor
open Go.RowKit

/-- A call: its kind, its number, its result. -/
abbrev ActX := Int × Int × ResR
def noActX : ActX := (0, 0, noRes)
def actXL (a : ActX) : List Value := [.int .i64 a.1, .int .i64 a.2.1, .int .i64 a.2.2.1, .string a.2.2.2]
structure ActXs (w : World) (v : Value) (xs : List ActX) : Prop where
  rows : RowsAt w v 4 xs.length (fun i => actXL (xs.getD i noActX))
  wide : ∀ a ∈ xs, (Lit.int .i64 a.2.2.1).wf = true ∧ a.2.2.2.size ≤ maxLen
theorem ActXs.chg {F : Nat → Prop} {w w' : World} {v : Value} {xs : List ActX} (h : ActXs w v xs) (hc : Chg F w w') (hF : ∀ k, k < w.heap.size → ¬ F k) : ActXs w' v xs := ⟨h.rows.chg hc hF, h.wide⟩
theorem ActXs.len {w0 : World} {v : Value} {xs : List ActX} (h : ActXs w0 v xs) (w : World) (ty : TypeId) : (Builtin.len_ #[92] ty #[v]).run Tryz.prog w = .ok (.int .i64 xs.length) w :=
  RowsAt.len (P := Tryz.prog) h.rows Tryz.underlying92 w ty
theorem ActXs.form {w : World} {v : Value} {xs : List ActX} (h : ActXs w v xs) : ∃ oa c, v = .slice oa xs.length c := by
  rcases h.rows.form with ⟨h1, h2⟩ | ⟨a, cap, h1, _⟩
  · exact ⟨none, 0, by rw [h1, h2]⟩
  · exact ⟨some a, cap, h1⟩
theorem ActXs.ix {w : World} {v : Value} {xs : List ActX} (h : ActXs w v xs) (k : Nat) (hk : k < xs.length) :
    ∃ bb oo, (∀ w, (Instr.indexAt 92 v (.int .i64 k)).run Tryz.prog w = .ok (.pointer (some ⟨bb, oo, none⟩)) w) ∧ w.cell? ⟨bb, oo, none⟩ = some (.int .i64 xs[k].1) ∧ w.cell? ⟨bb, oo + 1, none⟩ = some (.int .i64 xs[k].2.1) ∧ w.cell? ⟨bb, oo + 2, none⟩ = some (.int .i64 xs[k].2.2.1) ∧ w.cell? ⟨bb, oo + 3, none⟩ = some (.string xs[k].2.2.2) := by
  obtain ⟨bb, oo, h1, h2, h3⟩ := RowsAt.ix (P := Tryz.prog) h.rows Tryz.underlying92 (fun w => by kernel_rfl) (by decide) k hk
  have e := getD_of_lt xs noActX k hk
  refine ⟨bb, oo, h1, ?_, ?_, ?_, ?_⟩
  · have := h2 0 (by decide)
    rw [e] at this
    exact this
  · have := h2 1 (by decide)
    rw [e] at this
    exact this
  · have := h2 2 (by decide)
    rw [e] at this
    exact this
  · have := h2 3 (by decide)
    rw [e] at this
    exact this
/-- Both bakers are at one build; nothing of w3 has changed. -/
def Both (w3 : World) (b u : Nat) (W : World) : Prop := ∃ s, Mid w3 b u s s W
theorem Both.same {w3 W V : World} {b u : Nat} (h : Both w3 b u W) (hc : Chg (fun _ => False) W V) : Both w3 b u V := by
  obtain ⟨s, h⟩ := h
  exact ⟨s, h.same hc⟩
theorem Both.chg {w3 W : World} {b u : Nat} (h : Both w3 b u W) : Chg (fun _ => False) w3 W := by
  obtain ⟨s, h⟩ := h
  exact h.chg
set_option maxRecDepth 100000 in
set_option maxHeartbeats 8000000 in
theorem bexact_any {B : Nat} (g : GrR) (srcs : List SrcR) (g2 : GrR) (srcs2 : List SrcR) (xs : List ActX) (v v2 v3 : Value) (w : World) (hp : PlanAt w v g srcs) (hp2 : PlanAt w v2 g2 srcs2) (hxs : ActXs w v3 xs) (hT : TabsOK B w) (hB : B ≤ w.heap.size) : Calls Tryz.prog 11 #[v, v2, v3] w (Rets (.bool true) (Chg (fun _ => False) w)) := by
  obtain ⟨oa, ca, oc, cc, os, cs, iv, rfl, hs, ha, hx⟩ := hp.form
  obtain ⟨oa2, ca2, oc2, cc2, os2, cs2, iv2, rfl, hs2, ha2, hx2⟩ := hp2.form
  obtain ⟨o3, c3, rfl⟩ := hxs.form
  have hmx := hxs.rows.le
  unfold maxLen at hmx
  have hlen := hxs.len
  have HP := hid hp
  have HP2 := hid hp2
  have HS := hid hs
  have HA := hid ha
  have HX := hid hx
  have HS2 := hid hs2
  have HA2 := hid ha2
  have HX2 := hid hx2
  have HXS := hid hxs
  have HT := hid hT
  have HBB := hid hB
  obtain ⟨O1, hO1⟩ : ∃ O1, O1 = Obj.cells #[.slice oa g.srcs.length ca, .slice oc g.acts.length cc, .slice os srcs.length cs] 79 (0, 0) := ⟨_, rfl⟩
  obtain ⟨O2, hO2⟩ : ∃ O2, O2 = Obj.cells #[.slice oa2 g2.srcs.length ca2, .slice oc2 g2.acts.length cc2, .slice os2 srcs2.length cs2] 79 (0, 0) := ⟨_, rfl⟩
  have HC1 := hid ((al_chg w O1).trans (al_chg _ O2) (fun _ _ h => h))
  have HG1 := hid (heap_alloc_old' (heap_alloc_new' w O1) O2)
  have hq1 := heap_alloc_new' (w.alloc O1) O2
  rw [show (w.alloc O1).heap.size = w.heap.size + 1 by simp] at hq1
  have HQ1 := hid hq1
  rw [hO1, hO2] at HC1 HG1 HQ1
  clear hp hs ha hx hT hB hp2 hs2 ha2 hx2 hq1 hO1 hO2 hxs
  have HAW := hid (bawake_any _ (HT.out.keep HC1.out) (Nat.le_trans HBB.out HC1.out.size))
  go_enter Tryz.func11, Tryz.ntmps11
  go_upto_region 3 with (go_at_call 37; refine HAW.out.mono ?_; rintro e w1 ⟨rfl, hc1⟩; have HC2 := hid (HC1.out.trans hc1 (fun _ _ h => h)); have HG2 := hid (hc1.obj HG1.out (fun h => h)); have HQ2 := hid (hc1.obj HQ1.out (fun h => h)); clear hc1)
  obtain ⟨pb, hpb⟩ : ∃ pb, pb = w.heap.size := ⟨_, rfl⟩
  have HCL : Hid (∀ W, Chg (fun _ => False) w1 W → (W.cell? ⟨pb, 0, none⟩ = some (.slice oa g.srcs.length ca) ∧ W.cell? ⟨pb, 1, none⟩ = some (.slice oc g.acts.length cc) ∧ W.cell? ⟨pb, 2, none⟩ = some (.slice os srcs.length cs)) ∧ W.cell? ⟨pb + 1, 0, none⟩ = some (.slice oa2 g2.srcs.length ca2) ∧ W.cell? ⟨pb + 1, 1, none⟩ = some (.slice oc2 g2.acts.length cc2) ∧ W.cell? ⟨pb + 1, 2, none⟩ = some (.slice os2 srcs2.length cs2)) := hid (fun W hW => by
    have k := hW.obj HG2.out (fun h => h)
    have k2 := hW.obj HQ2.out (fun h => h)
    rw [← hpb] at k k2
    exact ⟨⟨cell_of k 0, cell_of k 1, cell_of k 2⟩, cell_of k2 0, cell_of k2 1, cell_of k2 2⟩)
  rw [← hpb]
  clear hpb HAW HG1 HC1 HQ1 HG2 HQ2
  obtain ⟨⟨z0, z1, z2⟩, z3, z4, z5⟩ := HCL.out w1 (Chg.refl _ _)
  have HGR := hid (bgreat_any g srcs _ w1 (HP.out.chg HC2.out (fun _ _ h => h)))
  go_wp2_with fail
  refine HGR.out.mono ?_
  rintro e w2 ⟨B2, rfl, hc2⟩
  have HC3 := hid (HC2.out.trans hc2 (fun _ _ h => h))
  have HX3 := hid hc2
  clear hc2 z0 z1 z2 z3 z4 z5 HGR
  obtain ⟨⟨z0, z1, z2⟩, z3, z4, z5⟩ := HCL.out w2 HX3.out
  cases B2 with
  | true =>
    go_wp2_with fail
    go_ret
    exact ⟨rfl, HC3.out⟩
  | false =>
  have HGR2 := hid (bgreat_any g2 srcs2 _ w2 (HP2.out.chg HC3.out (fun _ _ h => h)))
  go_wp2_with fail
  refine HGR2.out.mono ?_
  rintro e w3 ⟨B3, rfl, hc3⟩
  have HC4 := hid (HC3.out.trans hc3 (fun _ _ h => h))
  have HX4 := hid (HX3.out.trans hc3 (fun _ _ h => h))
  clear hc3 z0 z1 z2 z3 z4 z5 HGR2 HC3 HX3 HC2
  cases B3 with
  | true =>
    go_wp2_with fail
    go_ret
    exact ⟨rfl, HC4.out⟩
  | false =>
  go_wp2_with fail
  refine (bnew_any _).mono ?_
  rintro e w5 ⟨b, r0, rfl, hb5, hbl, hrl, hc5⟩
  have HX5 := hid (HX4.out.trans hc5 (fun _ _ h => h))
  have HC5 := hid hc5
  have HB5 := hid hb5
  have HBL : Hid (w3.heap.size ≤ b ∧ w3.heap.size ≤ r0) := hid ⟨hbl, hrl⟩
  clear hb5 hbl hrl hc5
  go_upto_region 7 with fail
  obtain ⟨u, hu⟩ : ∃ u, u = w5.heap.size := ⟨_, rfl⟩
  obtain ⟨W6, hW6⟩ : ∃ W6, W6 = w5.alloc (.cells #[.slice none 0 0, .slice none 0 0, .slice none 0 0, .int .i64 0, .slice none 0 0, .slice none 0 0] 96) := ⟨_, rfl⟩
  have hu6 := heap_alloc_new' w5 (.cells #[.slice none 0 0, .slice none 0 0, .slice none 0 0, .int .i64 0, .slice none 0 0, .slice none 0 0] 96)
  have hc6 : Chg (fun _ => False) w5 W6 := by rw [hW6]; exact (Chg.refl _ w5).alloc _
  rw [← hW6, ← hu] at hu6
  rw [← hu, ← hW6]
  have HBO : Hid (Both w3 b u W6) := hid ⟨BkS.new, r0, _, _, _, _, _, HBL.out.1, HBL.out.2, HB5.out.same hc6, size_new, size_new, ⟨fun h => h, by have := HC5.out.size; omega, HC5.out.trans hc6 (fun _ _ h => h), .inl ⟨.inl rfl, _, _, _, hu6⟩⟩, fun a h => by cases h⟩
  have HX6 := hid (HX5.out.trans hc6 (fun _ _ h => h))
  clear hu hW6 hu6 hc6 HX5 HC5 HB5 HBL
  have HTW : Hid (∀ W, Chg (fun _ => False) w3 W → TabsOK B W ∧ B ≤ W.heap.size) := hid (fun W hW => ⟨HT.out.keep (HC4.out.trans hW (fun _ _ h => h)), Nat.le_trans HBB.out (HC4.out.trans hW (fun _ _ h => h)).size⟩)
  have HXW : Hid (∀ W, Chg (fun _ => False) w3 W → ActXs W (.slice o3 xs.length c3) xs) := hid (fun W hW => HXS.out.chg (HC4.out.trans hW (fun _ _ h => h)) (fun _ _ h => h))
  have HLEN := hid hlen
  clear hlen
  go_wp2_with fail
  go_loopw [9] (fun i wr => ∃ k : Nat, k ≤ xs.length ∧ k ≤ 60 ∧ i = .int .i64 k ∧ Hid (Both w3 b u wr)) (fun i _ => 60 - (intOf i).toNat)
  case atStart => exact ⟨0, Nat.zero_le _, Nat.zero_le _, rfl, HBO⟩
  case round =>
    obtain ⟨k, hk, hk60, rfl, HB⟩ := hrel
    have HC := hid HB.out.chg
    have hlen := HLEN.out
    by_cases hkn : k < xs.length
    · have hkn' : (k : Int) < xs.length := by omega
      by_cases hk6 : k < 60
      · have hk6' : (k : Int) < 60 := by omega
        obtain ⟨bb, oo, hix, x0, x1, x2, x3⟩ := (HXW.out _ HC.out).ix k hkn
        have HWD := hid (HXS.out.wide _ (List.getElem_mem hkn))
        generalize xs[k] = ax at *
        obtain ⟨ak, an, rc, rb⟩ := ax
        simp only at x0 x1 x2 x3 HWD
        by_cases h1000 : (1000 : Int) < rb.size
        · go_wp2_with fail
          go_ret
          exact ⟨rfl, HC4.out.trans (HC.out.alloc _) (fun _ _ h => h)⟩
        · go_upto_region 13 with fail
          obtain ⟨ab, hab⟩ : ∃ ab, ab = wr.heap.size := ⟨_, rfl⟩
          obtain ⟨W1, hW1⟩ : ∃ W1, W1 = wr.alloc (.cells #[.int .i64 ak, .int .i64 an, .int .i64 rc, .string rb] 98) := ⟨_, rfl⟩
          have hc1 : Chg (fun _ => False) wr W1 := by rw [hW1]; exact (Chg.refl _ wr).alloc _
          have hk1 := heap_alloc_new' wr (.cells #[.int .i64 ak, .int .i64 an, .int .i64 rc, .string rb] 98)
          rw [← hab, ← hW1] at hk1
          rw [← hab, ← hW1]
          have HB1 := hid (HB.out.same hc1)
          have HK1 := hid hk1
          have HROK : Hid (ROK (rc, rb)) := hid (by
            have h1 := HWD.out.1
            simp [Lit.wf, IntKind.min, IntKind.max, IntKind.signed, IntKind.bits] at h1
            refine ⟨by show rb.size ≤ 100000; omega, by show -9223372036854775808 ≤ rc; omega, by show rc ≤ 9223372036854775807; omega⟩)
          have a0 := cell_of hk1 0
          have a1 := cell_of hk1 1
          have a2 := cell_of hk1 2
          have a3 := cell_of hk1 3
          simp at a0 a1 a2 a3
          clear hW1 hab hc1 hk1 h1000 hix x0 x1 x2 x3 HB HWD
          go_upto_block 2 with fail
          go_cut [11, 12, 13, 14, 15] from 50 to 116 (fun e f _ _ _ wx => ∃ z : Int, e = .int .i64 z ∧ f = .int .i64 z ∧ Hid (Both w3 b u wx))
          case first =>
            by_cases k1 : ak = 1
            · subst k1
              obtain ⟨⟨z0, z1, z2⟩, _⟩ := HCL.out W1 (HX4.out.trans HB1.out.chg (fun _ _ h => h))
              have a1' := cell_alloc' a1 (.cells #[.slice oa g.srcs.length ca, .slice oc g.acts.length cc, .slice os srcs.length cs] 79)
              go_upto_if 58 with fail
              obtain ⟨cb, hcb⟩ : ∃ cb, cb = W1.heap.size := ⟨_, rfl⟩
              obtain ⟨W2, hW2⟩ : ∃ W2, W2 = W1.alloc (.cells #[.slice oa g.srcs.length ca, .slice oc g.acts.length cc, .slice os srcs.length cs] 79) := ⟨_, rfl⟩
              have hc2 : Chg (fun _ => False) W1 W2 := by rw [hW2]; exact (Chg.refl _ W1).alloc _
              have hk2 := heap_alloc_new' W1 (.cells #[.slice oa g.srcs.length ca, .slice oc g.acts.length cc, .slice os srcs.length cs] 79)
              rw [← hcb, ← hW2] at hk2
              rw [← hcb, ← hW2]
              have HB2 := hid (HB1.out.same hc2)
              have HK2 := hid hk2
              have HCB : Hid (¬ cb < W1.heap.size) := hid (by omega)
              have HC12 := hid hc2
              have HPL : Hid (NamesAt w3 (.slice oa g.srcs.length ca) g.srcs ∧ ActsAt w3 (.slice oc g.acts.length cc) g.acts iv ∧ SrcsAt w3 (.slice os srcs.length cs) srcs) := hid ⟨HS.out.chg HC4.out (fun _ _ h => h), HA.out.chg HC4.out (fun _ _ h => h), HX.out.chg HC4.out (fun _ _ h => h)⟩
              have HPL2 : Hid (NamesAt w3 (.slice oa2 g2.srcs.length ca2) g2.srcs ∧ ActsAt w3 (.slice oc2 g2.acts.length cc2) g2.acts iv2 ∧ SrcsAt w3 (.slice os2 srcs2.length cs2) srcs2) := hid ⟨HS2.out.chg HC4.out (fun _ _ h => h), HA2.out.chg HC4.out (fun _ _ h => h), HX2.out.chg HC4.out (fun _ _ h => h)⟩
              clear hcb hW2 hc2 hk2 a0 a1 a2 a3 a1' z0 z1 z2
              generalize (an.tmod 2 != 0) = Bq at *
              go_cut [] from 59 to 59 (fun wx => ∃ (G : GrR) (SR : List SrcR) (A C O : Value) (jv : Nat → Value), wx.heap[cb]? = some (.cells #[A, C, O] 79 (0, 0)) ∧ Hid (NamesAt w3 A G.srcs ∧ ActsAt w3 C G.acts jv ∧ SrcsAt w3 O SR) ∧ Hid (Both w3 b u wx))
              case first =>
                cases Bq with
                | false =>
                  go_wp2_with fail
                  go_meet
                  case rel => exact ⟨g, srcs, _, _, _, iv, HK2.out, HPL, HB2⟩
                | true =>
                  obtain ⟨_, z3, z4, z5⟩ := HCL.out W2 (HX4.out.trans HB2.out.chg (fun _ _ h => h))
                  have c0 := cell_of HK2.out 0
                  have c1 := cell_of HK2.out 1
                  have c2 := cell_of HK2.out 2
                  have f0 := frozen_of HK2.out 0
                  have f1 := frozen_of HK2.out 1
                  have f2 := frozen_of HK2.out 2
                  simp at c0 c1 c2
                  go_wp2_with fail
                  go_meet
                  case rel =>
                    refine ⟨g2, srcs2, _, _, _, iv2, heap_set_same (heap_set_same (heap_set_same HK2.out 0 _) 1 _) 2 _, HPL2, hid (HB1.out.same ?_)⟩
                    exact ((HC12.out.setCell (p := ⟨cb, 0, none⟩) (fun h => HCB.out h) _).setCell (p := ⟨cb, 1, none⟩) (fun h => HCB.out h) _).setCell (p := ⟨cb, 2, none⟩) (fun h => HCB.out h) _
              case rest =>
                obtain ⟨G, SR, A, C, O, jv, hkc, HP3, HB3⟩ := hcut
                have HKC := hid hkc
                obtain ⟨wd, hwd⟩ : ∃ wd, wd = wc := ⟨_, rfl⟩
                subst hwd
                obtain ⟨s, hm⟩ := HB3.out
                have HM := hid hm
                have c0 := cell_of hkc 0
                have c1 := cell_of hkc 1
                have c2 := cell_of hkc 2
                simp at c0 c1 c2
                have HSB := hid (both_start_b hm (HTW.out _ hm.chg).1 (Nat.le_trans HBB.out HC4.out.size) HP3.out.1 HP3.out.2.1 HP3.out.2.2 (HT.out.keep HC4.out))
                clear hkc hm
                go_upto_region 21 with (go_at_call 40; refine HSB.out.mono ?_; rintro e w6 ⟨rfl, hk6, hm6⟩; have HM6 := hid hm6; have HKP6 := hid hk6; clear hm6 hk6)
                have hkc6 := HKP6.out _ _ _ HKC.out (by rintro (h | h | h) <;> exact absurd h (by decide)) (by decide)
                have e0 := cell_of hkc6 0
                have e1 := cell_of hkc6 1
                have e2 := cell_of hkc6 2
                simp at e0 e1 e2
                have HSU := hid (mid_start_u HM6.out HP3.out.1 HP3.out.2.1 HP3.out.2.2)
                clear hkc6 c0 c1 c2
                go_wp2_with (go_at_call 45; refine HSU.out.mono ?_; rintro e w7 ⟨rfl, _, hm7⟩)
                go_meet
                case rel => exact ⟨_, rfl, rfl, hid ⟨_, hm7⟩⟩
            · have n1 : (ak == 1) = false := by rw [beq_eq_false_iff_ne]; exact k1
              clear k1
              by_cases k2 : ak = 2
              · subst k2
                obtain ⟨s, hm⟩ := HB1.out
                have hmc := hm.chg
                have HGB := hid (both_give_b hm (HTW.out _ hmc).1 (HTW.out _ hmc).2 an rc rb HROK.out)
                clear hm hmc
                go_upto_region 24 with (go_at_call 44; refine HGB.out.mono ?_; rintro e w6 ⟨rfl, hk6, hm6⟩; have HM6 := hid hm6; have HKP6 := hid hk6; clear hm6 hk6)
                have hk6 := HKP6.out _ _ _ HK1.out (by rintro (h | h | h) <;> exact absurd h (by decide)) (by decide)
                have e1 := cell_of hk6 1
                have e2 := cell_of hk6 2
                have e3 := cell_of hk6 3
                simp at e1 e2 e3
                have HGU := hid (mid_give_u HM6.out an rc rb HROK.out)
                clear hk6 a0 a1 a2 a3
                go_wp2_with (go_at_call 46; refine HGU.out.mono ?_; rintro e w7 ⟨rfl, _, hm7⟩)
                go_meet
                case rel => exact ⟨_, rfl, rfl, hid ⟨_, hm7⟩⟩
              · have n2 : (ak == 2) = false := by rw [beq_eq_false_iff_ne]; exact k2
                clear k2
                by_cases k3 : ak = 3
                · subst k3
                  obtain ⟨s, hm⟩ := HB1.out
                  have HM := hid hm
                  have HJ := hid (both_job_u hm)
                  unfold JobPost at HJ
                  clear hm
                  obtain ⟨jn, hjn⟩ : ∃ jn, jn = s.jn := ⟨_, rfl⟩
                  obtain ⟨jp, hjp⟩ : ∃ jp, jp = s.jp := ⟨_, rfl⟩
                  obtain ⟨jc, hjc⟩ : ∃ jc, jc = s.jc := ⟨_, rfl⟩
                  obtain ⟨jk, hjk⟩ : ∃ jk, jk = s.jk := ⟨_, rfl⟩
                  obtain ⟨ji, hji⟩ : ∃ ji, ji = s.ji := ⟨_, rfl⟩
                  obtain ⟨js, hjs⟩ : ∃ js, js = s.js := ⟨_, rfl⟩
                  rw [← hjn, ← hjp, ← hjc, ← hjk, ← hji, ← hjs] at HJ
                  clear hjn hjp hjc hjk hji hjs
                  go_upto_region 27 with (first | (go_at_call 47; refine HJ.out.mono ?_; rintro e u4 ⟨hc4, iv4, rfl, hin4⟩; obtain ⟨io4, ic4, rfl⟩ := hin4.form; have HIN4 := hid hin4; have HCA4 := hid hc4; clear hin4 hc4) | (guard_target =~ wpList _ _ _ (Oper.mk (some 14) _ _ _ _ _ :: _) _ _; refine wpList_alloc0 rfl 85 rfl noJob (allocJob _) ?_; intro v4 hk4 hs4 hc4; have HKA4 := hid hk4; have HCB4 := hid hc4; clear hk4 hs4 hc4) | (guard_target =~ wpList _ _ _ (Oper.mk none (Op.store _ (Operand.tmp 14) _) _ _ _ _ :: _) _ _; refine wpList_store0 rfl 85 _ _ rfl u4.heap.size noJob (jobA jn jp jc (.slice io4 ji.length ic4) jk) rfl rfl HKA4.out (by rw [jobA_size]; exact sizeJob) (by unfold noJob; rw [jobA_size, jobA_size]) (jobA_one _ _ _ _ rfl _) ?_; intro x4 hk4 hs4 hc4; have HK4 := hid hk4; have HD4 := hid (HCB4.out.trans hc4 (fun z hz e => by omega)); clear hk4 hs4 hc4 HKA4 HCB4))
                  have hz4 := HCA4.out.trans HD4.out (fun _ _ h => h)
                  have hk4 := hz4.obj HK1.out (fun h => h)
                  have e1 := cell_of hk4 1
                  have e2 := cell_of hk4 2
                  have e3 := cell_of hk4 3
                  simp at e1 e2 e3
                  have hm4 := HM.out.same hz4
                  have hmc := hm4.chg
                  have HK14 := hid hk4
                  obtain ⟨jb, hjb⟩ : ∃ jb, jb = u4.heap.size := ⟨_, rfl⟩
                  rw [← hjb] at HK4 ⊢
                  obtain ⟨y0, y1, y2, y3⟩ := job_cells HK4.out
                  have HGB := hid (both_give_b hm4 (HTW.out _ hmc).1 (HTW.out _ hmc).2 jp rc rb HROK.out)
                  clear hm4 hmc hz4 hk4 hjb a0 a1 a2 a3 HJ HCA4 HD4 HIN4
                  go_upto_region 28 with (go_at_call 44; refine HGB.out.mono ?_; rintro e w6 ⟨rfl, hk6, hm6⟩; have HM6 := hid hm6; have HKP6 := hid hk6; clear hm6 hk6)
                  have hk6 := HKP6.out _ _ _ HK14.out (by rintro (h | h | h) <;> exact absurd h (by decide)) (by decide)
                  have hj6 := HKP6.out _ _ _ HK4.out (by rintro (h | h | h) <;> exact absurd h (by decide)) (by decide)
                  clear y0 y1 y2 y3 e1 e2 e3
                  have e2 := cell_of hk6 2
                  have e3 := cell_of hk6 3
                  simp at e2 e3
                  obtain ⟨y0, y1, y2, y3⟩ := job_cells hj6
                  have HGU := hid (mid_give_u HM6.out jp rc rb HROK.out)
                  clear hk6 hj6
                  go_wp2_with (go_at_call 46; refine HGU.out.mono ?_; rintro e w7 ⟨rfl, _, hm7⟩)
                  go_meet
                  case rel => exact ⟨_, rfl, rfl, hid ⟨_, hm7⟩⟩
                · have n3 : (ak == 3) = false := by rw [beq_eq_false_iff_ne]; exact k3
                  clear k3
                  by_cases k4 : ak = 4
                  · subst k4
                    obtain ⟨s, hm⟩ := HB1.out
                    have HSB := hid (both_stop_b hm)
                    clear hm
                    go_upto_region 31 with (go_at_call 48; refine HSB.out.mono ?_; rintro e w6 ⟨rfl, hm6⟩; have HM6 := hid hm6; clear hm6)
                    obtain ⟨x0, x1, x2, y0, y1, hu6⟩ := HM6.out.cells
                    have q2 := cell_of hu6 3
                    have f2 := frozen_of hu6 3
                    simp at q2
                    by_cases hs1 : s.st = 1
                    · have HS1 := hid hs1
                      rw [hs1] at q2
                      have d1 : (((1 : Nat) : Int) == 1) = true := by decide
                      have HMS := hid (mid_stop_u HM6.out hs1)
                      clear hu6 hs1
                      go_wp2_with fail
                      go_meet
                      case rel => exact ⟨0, rfl, rfl, hid ⟨_, HMS.out⟩⟩
                    · have d1 : ((s.st : Int) == 1) = false := by rw [beq_eq_false_iff_ne]; omega
                      have hm6 := HM6.out
                      rw [stop_not hs1] at hm6
                      have HMS := hid hm6
                      clear hu6 hs1 hm6 HM6 HSB
                      generalize s.st = q at *
                      go_wp2_with fail
                      go_meet
                      case rel => exact ⟨0, rfl, rfl, hid ⟨_, HMS.out⟩⟩
                  · have n4 : (ak == 4) = false := by rw [beq_eq_false_iff_ne]; exact k4
                    clear k4
                    go_wp2_with fail
                    go_meet
                    case rel => exact ⟨0, rfl, rfl, HB1⟩
          case rest =>
            obtain ⟨z, rfl, rfl, HB2⟩ := hcut
            obtain ⟨wd, hwd⟩ : ∃ wd, wd = wc := ⟨_, rfl⟩
            subst hwd
            clear HB1 HK1 a0 a1 a2 a3 HROK
            obtain ⟨s, hm⟩ := HB2.out
            have hmc := hm.chg
            have HMC := hid hmc
            have HJB := hid (both_job_b hm (HTW.out _ hmc).1 (HTW.out _ hmc).2)
            have HJU := hid (fun (W : World) (hW : Chg (fun _ => False) wd W) => both_job_u (hm.same hW))
            unfold JobPost at HJB HJU
            have HST := hid (fun (W : World) (hW : Chg (fun _ => False) wd W) => both_state_b (hm.same hW))
            have HRB := hid (fun (W : World) (hW : Chg (fun _ => False) wd W) => both_results_b (hm.same hW))
            have HRU := hid (fun (W : World) (hW : Chg (fun _ => False) wd W) => both_results_u (hm.same hW))
            unfold ResultsPost at HRB HRU
            have HCE := hid (fun (W : World) (hW : Chg (fun _ => False) wd W) => show W.cell? ⟨u, 3, none⟩ = some (.int .i64 s.st) from by
              obtain ⟨x0, x1, x2, y0, y1, h⟩ := (hm.same hW).cells
              rw [cell_of h]
              rfl)
            have HOK := hid hm.ok.2
            have hjr := hm.ok.1.job.2.2
            have HM := hid hm
            clear hm hmc
            obtain ⟨jn, hjn⟩ : ∃ jn, jn = s.jn := ⟨_, rfl⟩
            obtain ⟨jp, hjp⟩ : ∃ jp, jp = s.jp := ⟨_, rfl⟩
            obtain ⟨jc, hjc⟩ : ∃ jc, jc = s.jc := ⟨_, rfl⟩
            obtain ⟨jk, hjk⟩ : ∃ jk, jk = s.jk := ⟨_, rfl⟩
            obtain ⟨ji, hji⟩ : ∃ ji, ji = s.ji := ⟨_, rfl⟩
            obtain ⟨js, hjs⟩ : ∃ js, js = s.js := ⟨_, rfl⟩
            obtain ⟨ol, hol⟩ : ∃ ol, ol = s.out := ⟨_, rfl⟩
            obtain ⟨st, hst⟩ : ∃ st, st = s.st := ⟨_, rfl⟩
            rw [← hjn, ← hjp, ← hjc, ← hjk, ← hji, ← hjs] at HJB HJU
            rw [← hol] at HRB HRU HOK
            rw [← hst] at HST HCE
            rw [← hji] at hjr
            have HJR : Hid (∀ r ∈ ji, (Lit.int .i64 r.1).wf = true ∧ r.2.size ≤ maxLen) := hid (fun r hr => rok_wf (hjr r hr))
            clear hjn hjp hjc hjk hji hjs hol hst hjr
            go_upto_region 34 with (first | (go_at_call 41; refine HJB.out.mono ?_; rintro e u5 ⟨hc5, iv5, rfl, hin5⟩; obtain ⟨io5, ic5, rfl⟩ := hin5.form; have HIN5 := hid hin5; have HCA5 := hid hc5; clear hin5 hc5) | (guard_target =~ wpList _ _ _ (Oper.mk (some 16) _ _ _ _ _ :: _) _ _; refine wpList_alloc0 rfl 85 rfl noJob (allocJob _) ?_; intro v5 hk5 hs5 hc5; have HKA5 := hid hk5; have HCB5 := hid hc5; clear hk5 hs5 hc5) | (guard_target =~ wpList _ _ _ (Oper.mk none (Op.store _ (Operand.tmp 16) _) _ _ _ _ :: _) _ _; refine wpList_store0 rfl 85 _ _ rfl u5.heap.size noJob (jobA jn jp jc (.slice io5 ji.length ic5) jk) rfl rfl HKA5.out (by rw [jobA_size]; exact sizeJob) (by unfold noJob; rw [jobA_size, jobA_size]) (jobA_one _ _ _ _ rfl _) ?_; intro x5 hk5 hs5 hc5; have HK5 := hid hk5; have HD5 := hid (HCB5.out.trans hc5 (fun z hz e => by omega)); clear hk5 hs5 hc5 HKA5 HCB5))
            have HC5 := hid (HCA5.out.trans HD5.out (fun _ _ h => h))
            have HI5 := hid (HIN5.out.chg HD5.out (fun _ _ h => h))
            obtain ⟨j5, hj5⟩ : ∃ j5, j5 = u5.heap.size := ⟨_, rfl⟩
            rw [← hj5] at HK5 ⊢
            clear hj5 HCA5 HD5 HIN5 HJB
            have HJV := hid (HJU.out _ HC5.out)
            go_upto_region 35 with (first | (go_at_call 47; refine HJV.out.mono ?_; rintro e u6 ⟨hc6, iv6, rfl, hin6⟩; obtain ⟨io6, ic6, rfl⟩ := hin6.form; have HIN6 := hid hin6; have HCA6 := hid hc6; clear hin6 hc6) | (guard_target =~ wpList _ _ _ (Oper.mk (some 18) _ _ _ _ _ :: _) _ _; refine wpList_alloc0 rfl 85 rfl noJob (allocJob _) ?_; intro v6 hk6 hs6 hc6; have HKA6 := hid hk6; have HCB6 := hid hc6; clear hk6 hs6 hc6) | (guard_target =~ wpList _ _ _ (Oper.mk none (Op.store _ (Operand.tmp 18) _) _ _ _ _ :: _) _ _; refine wpList_store0 rfl 85 _ _ rfl u6.heap.size noJob (jobA jn jp jc (.slice io6 ji.length ic6) jk) rfl rfl HKA6.out (by rw [jobA_size]; exact sizeJob) (by unfold noJob; rw [jobA_size, jobA_size]) (jobA_one _ _ _ _ rfl _) ?_; intro x6 hk6 hs6 hc6; have HK6 := hid hk6; have HD6 := hid (HCB6.out.trans hc6 (fun z hz e => by omega)); clear hk6 hs6 hc6 HKA6 HCB6))
            have hz6 := HCA6.out.trans HD6.out (fun _ _ h => h)
            have HC6 := hid (HC5.out.trans hz6 (fun _ _ h => h))
            have HI6 := hid (HIN6.out.chg HD6.out (fun _ _ h => h))
            have HI56 := hid (HI5.out.chg hz6 (fun _ _ h => h))
            have HK56 := hid (hz6.obj HK5.out (fun h => h))
            obtain ⟨j6, hj6⟩ : ∃ j6, j6 = u6.heap.size := ⟨_, rfl⟩
            rw [← hj6] at HK6 ⊢
            obtain ⟨JV1, hv1⟩ : ∃ JV1, JV1 = Value.agg (jobA jn jp jc (.slice io5 ji.length ic5) jk) := ⟨_, rfl⟩
            obtain ⟨JV2, hv2⟩ : ∃ JV2, JV2 = Value.agg (jobA jn jp jc (.slice io6 ji.length ic6) jk) := ⟨_, rfl⟩
            have HL1 : Hid (∀ W, Chg (fun _ => False) x6 W → (loadVar 85 ⟨j5, 0, none⟩).run Tryz.prog W = .ok JV1 W) := hid (fun W hW => by rw [hv1]; exact load_job (hW.obj HK56.out (fun h => h)))
            have HL2 : Hid (∀ W, Chg (fun _ => False) x6 W → (loadVar 85 ⟨j6, 0, none⟩).run Tryz.prog W = .ok JV2 W) := hid (fun W hW => by rw [hv2]; exact load_job (hW.obj HK6.out (fun h => h)))
            have HSM : Hid (∀ W, Chg (fun _ => False) x6 W → Calls Tryz.prog 49 #[JV1, JV2] W (Rets (.bool true) (Chg (fun _ => False) W))) := hid (fun W hW => by rw [hv1, hv2]; exact rsameJ_any jn jp jc jk ji HJR.out _ _ W (HI56.out.chg hW (fun _ _ h => h)) (HI6.out.chg hW (fun _ _ h => h)))
            have HSO := hid (sameB_eqK _ HOK.out)
            have HW6 : Hid (∀ W, Chg (fun _ => False) x6 W → Chg (fun _ => False) wd W) := hid (fun W hW => HC6.out.trans hW (fun _ _ h => h))
            clear hv1 hv2 hj6 hz6 HCA6 HD6 HIN6 HJV HJU HK5 HK6 HK56 HI5 HI6 HI56 HC5
            refine wp_region_held_drew (S := fun W => Chg (fun _ => False) x6 W) (by kernel_rfl) ((Chg.refl _ x6).drew) (fun hd => ?_)
            refine wpAnyH_takeDK (i := 0) (v := .int .i64 z) (some 127) rfl (by kernel_rfl) (by kernel_rfl) (by kernel_rfl) (by kernel_rfl) (fun _ _ _ h => h) (.inl ⟨by kernel_rfl, fun W _ => by kernel_rfl⟩) hd ?_
            refine wpAnyH_takeDK (i := 1) (v := .int .i64 z) (some 128) rfl (by kernel_rfl) (by kernel_rfl) (by kernel_rfl) (by kernel_rfl) (fun _ _ _ h => h) (.inl ⟨by kernel_rfl, fun W _ => by kernel_rfl⟩) hd ?_
            refine wpAnyH_takeDK (i := 2) (v := .bool false) (some 129) rfl (by kernel_rfl) (by kernel_rfl) (by kernel_rfl) (by kernel_rfl) (fun _ _ _ h => h) (.inl ⟨by kernel_rfl, fun W _ => by simp [execOp, go_sem]⟩) hd ?_
            refine wpAnyH_takeDK (i := 3) (v := .bool false) (some 130) rfl (by kernel_rfl) (by kernel_rfl) (by kernel_rfl) (by kernel_rfl) (fun _ _ _ h => h) (.inl ⟨by kernel_rfl, fun W _ => by kernel_rfl⟩) hd ?_
            refine wpAnyH_takeDK (i := 4) (v := .bool js) (some 131) rfl (by kernel_rfl) (by kernel_rfl) (by kernel_rfl) (by kernel_rfl) (fun _ _ _ h => h) (.inl ⟨by kernel_rfl, fun W _ => by kernel_rfl⟩) hd ?_
            refine wpAnyH_takeDK (i := 5) (v := .bool js) (some 132) rfl (by kernel_rfl) (by kernel_rfl) (by kernel_rfl) (by kernel_rfl) (fun _ _ _ h => h) (.inl ⟨by kernel_rfl, fun W _ => by kernel_rfl⟩) hd ?_
            refine wpAnyH_takeDK (i := 6) (v := .bool false) (some 133) rfl (by kernel_rfl) (by kernel_rfl) (by kernel_rfl) (by kernel_rfl) (fun _ _ _ h => h) (.inl ⟨by kernel_rfl, fun W _ => by simp [execOp, go_sem]⟩) hd ?_
            refine wpAnyH_takeDK (i := 7) (v := .bool false) (some 134) rfl (by kernel_rfl) (by kernel_rfl) (by kernel_rfl) (by kernel_rfl) (fun _ _ _ h => h) (.inl ⟨by kernel_rfl, fun W _ => by kernel_rfl⟩) hd ?_
            refine wpAnyH_takeDK (i := 8) (v := .bool false) (some 135) rfl (by kernel_rfl) (by kernel_rfl) (by kernel_rfl) (by kernel_rfl) (fun _ _ _ h => h) (.inl ⟨by kernel_rfl, fun W _ => by kernel_rfl⟩) hd ?_
            refine wpAnyH_takeDK (i := 9) (v := JV1) (some 136) rfl (by kernel_rfl) (by kernel_rfl) (by kernel_rfl) (by kernel_rfl) (fun _ _ _ h => h) (yieldsIf_load1K (by kernel_rfl) 85 (.tmp 16) (by kernel_rfl) j5 0 _ (by kernel_rfl) (fun W hW => HL1.out W hW)) hd ?_
            refine wpAnyH_takeDK (i := 10) (v := JV2) (some 137) rfl (by kernel_rfl) (by kernel_rfl) (by kernel_rfl) (by kernel_rfl) (fun _ _ _ h => h) (yieldsIf_load1K (by kernel_rfl) 85 (.tmp 18) (by kernel_rfl) j6 0 _ (by kernel_rfl) (fun W hW => HL2.out W hW)) hd ?_
            try simp only [Act.put, List.setIfInBounds_toArray, List.set_cons_zero, List.set_cons_succ]
            refine wpAnyH_all (rs := [11]) (by kernel_rfl) (by simp) (fun i hi => ?_)
            obtain rfl : i = 11 := by simpa using hi
            refine wpOp_step rfl ?_
            intro K1 hK1
            refine Eq.mpr (if_pos (by kernel_rfl)) ?_
            go_wp2_with (go_at_call 49; refine (HSM.out _ hd).mono ?_; rintro e w8 ⟨rfl, hc8⟩)
            have hd1 := hd.trans hc8 (fun _ _ h => h)
            refine ⟨hd1, ?_⟩
            refine wpAnyH_takeDK (i := 12) (v := .bool false) (some 139) rfl (by kernel_rfl) (by kernel_rfl) (by kernel_rfl) (by kernel_rfl) (fun _ _ _ h => h) (.inl ⟨by kernel_rfl, fun W _ => by kernel_rfl⟩) hd1 ?_
            refine wpAnyH_takeDK (i := 13) (v := .bool false) (some 140) rfl (by kernel_rfl) (by kernel_rfl) (by kernel_rfl) (by kernel_rfl) (fun _ _ _ h => h) (.inl ⟨by kernel_rfl, fun W _ => by kernel_rfl⟩) hd1 ?_
            refine wpAnyH_takeDK (i := 14) (v := .bool false) (some 141) rfl (by kernel_rfl) (by kernel_rfl) (by kernel_rfl) (by kernel_rfl) (fun _ _ _ h => h) (.inl ⟨by kernel_rfl, fun W _ => by kernel_rfl⟩) hd1 ?_
            refine wpAnyH_takeDK (i := 15) (v := .pointer (some ⟨b, 0, none⟩)) (some 142) rfl (by kernel_rfl) (by kernel_rfl) (by kernel_rfl) (by kernel_rfl) (fun _ _ _ h => h) (.inl ⟨by kernel_rfl, fun W _ => by kernel_rfl⟩) hd1 ?_
            refine wpAnyH_takeDK (i := 17) (v := .pointer (some ⟨u, 0, none⟩)) (some 144) rfl (by kernel_rfl) (by kernel_rfl) (by kernel_rfl) (by kernel_rfl) (fun _ _ _ h => h) (.inl ⟨by kernel_rfl, fun W _ => by kernel_rfl⟩) hd1 ?_
            refine wpAnyH_takeDK (i := 18) (v := .pointer (some ⟨u, 0, none⟩)) (some 145) rfl (by kernel_rfl) (by kernel_rfl) (by kernel_rfl) (by kernel_rfl) (fun _ _ _ h => h) (.inl ⟨by kernel_rfl, fun W _ => by kernel_rfl⟩) hd1 ?_
            refine wpAnyH_takeDK (i := 19) (v := .pointer (some ⟨u, 3, none⟩)) (some 146) rfl (by kernel_rfl) (by kernel_rfl) (by kernel_rfl) (by kernel_rfl) (fun _ _ _ h => h) (.inl ⟨by kernel_rfl, fun W _ => by kernel_rfl⟩) hd1 ?_
            refine wpAnyH_takeDK (i := 20) (v := .int .i64 st) (some 147) rfl (by kernel_rfl) (by kernel_rfl) (by kernel_rfl) (by kernel_rfl) (fun _ _ _ h => h) (yieldsIf_load1K (by kernel_rfl) 3 (.tmp 146) (by kernel_rfl) u 3 _ (by kernel_rfl) (fun W hW => load_int (HCE.out W (HW6.out W hW)))) hd1 ?_
            try simp only [Act.put, List.setIfInBounds_toArray, List.set_cons_zero, List.set_cons_succ]
            refine wpAnyH_all (rs := [16]) (by kernel_rfl) (by simp) (fun i hi => ?_)
            obtain rfl : i = 16 := by simpa using hi
            refine wpOp_step rfl ?_
            intro K2 hK2
            refine Eq.mpr (if_pos (by kernel_rfl)) ?_
            go_wp2_with (go_at_call 42; refine (HST.out _ (HW6.out _ hd1)).mono ?_; rintro e w9 ⟨rfl, rfl⟩)
            have hd2 := hd1
            refine ⟨hd2, ?_⟩
            refine wpAnyH_takeDK (i := 21) (v := .bool false) (some 148) rfl (by kernel_rfl) (by kernel_rfl) (by kernel_rfl) (by kernel_rfl) (fun _ _ _ h => h) (.inl ⟨by kernel_rfl, fun W _ => by simp [execOp, go_sem]⟩) hd2 ?_
            refine wpAnyH_takeDK (i := 22) (v := .bool false) (some 149) rfl (by kernel_rfl) (by kernel_rfl) (by kernel_rfl) (by kernel_rfl) (fun _ _ _ h => h) (.inl ⟨by kernel_rfl, fun W _ => by kernel_rfl⟩) hd2 ?_
            refine wpAnyH_takeDK (i := 23) (v := .bool false) (some 150) rfl (by kernel_rfl) (by kernel_rfl) (by kernel_rfl) (by kernel_rfl) (fun _ _ _ h => h) (.inl ⟨by kernel_rfl, fun W _ => by kernel_rfl⟩) hd2 ?_
            refine wpAnyH_takeDK (i := 24) (v := .pointer (some ⟨b, 0, none⟩)) (some 151) rfl (by kernel_rfl) (by kernel_rfl) (by kernel_rfl) (by kernel_rfl) (fun _ _ _ h => h) (.inl ⟨by kernel_rfl, fun W _ => by kernel_rfl⟩) hd2 ?_
            refine wpAnyH_takeDK (i := 26) (v := .pointer (some ⟨u, 0, none⟩)) (some 153) rfl (by kernel_rfl) (by kernel_rfl) (by kernel_rfl) (by kernel_rfl) (fun _ _ _ h => h) (.inl ⟨by kernel_rfl, fun W _ => by kernel_rfl⟩) hd2 ?_
            try simp only [Act.put, List.setIfInBounds_toArray, List.set_cons_zero, List.set_cons_succ]
            refine wpAnyH_all (rs := [25]) (by kernel_rfl) (by simp) (fun i hi => ?_)
            obtain rfl : i = 25 := by simpa using hi
            refine wpOp_step rfl ?_
            intro K3 hK3
            refine Eq.mpr (if_pos (by kernel_rfl)) ?_
            go_wp2_with (go_at_call 43; refine (HRB.out _ (HW6.out _ hd2)).mono ?_; rintro e w10 ⟨hc10, v10, rfl, hb10⟩; obtain ⟨ro, rcq, rfl⟩ := hb10.form)
            have hd3 := hd2.trans hc10 (fun _ _ h => h)
            refine ⟨hd3, ?_⟩
            try simp only [Act.put, List.setIfInBounds_toArray, List.set_cons_zero, List.set_cons_succ, Array.toArray_toList]
            refine wpAnyH_all (rs := [27]) (by kernel_rfl) (by simp) (fun i hi => ?_)
            obtain rfl : i = 27 := by simpa using hi
            refine wpOp_step rfl ?_
            intro K4 hK4
            refine Eq.mpr (if_pos (by kernel_rfl)) ?_
            go_wp2_with (go_at_call 50; refine (HRU.out _ (HW6.out _ hd3)).mono ?_; rintro e w11 ⟨hc11, v11, rfl, hb11⟩; obtain ⟨ro2, rcq2, rfl⟩ := hb11.form)
            have hd4 := hd3.trans hc11 (fun _ _ h => h)
            refine ⟨hd4, ?_⟩
            try simp only [Act.put, List.setIfInBounds_toArray, List.set_cons_zero, List.set_cons_succ, Array.toArray_toList]
            refine wpAnyH_all (rs := [28]) (by kernel_rfl) (by simp) (fun i hi => ?_)
            obtain rfl : i = 28 := by simpa using hi
            refine wpOp_step rfl ?_
            intro K5 hK5
            refine Eq.mpr (if_pos (by kernel_rfl)) ?_
            go_wp2_with (go_at_call 21; refine (HSO.out _ _ _ (hb10.chg hc11 (fun _ _ h => h)) hb11).mono ?_; rintro e w12 ⟨rfl, hc12⟩)
            have hd5 := hd4.trans hc12 (fun _ _ h => h)
            refine ⟨hd5, ?_⟩
            refine wpAnyH_takeDK (i := 29) (v := .bool false) (some 156) rfl (by kernel_rfl) (by kernel_rfl) (by kernel_rfl) (by kernel_rfl) (fun _ _ _ h => h) (.inl ⟨by kernel_rfl, fun W _ => by kernel_rfl⟩) hd5 ?_
            refine wpAnyH_takeDK (i := 30) (v := .bool false) (some 157) rfl (by kernel_rfl) (by kernel_rfl) (by kernel_rfl) (by kernel_rfl) (fun _ _ _ h => h) (.inl ⟨by kernel_rfl, fun W _ => by kernel_rfl⟩) hd5 ?_
            try simp only [Act.put, List.setIfInBounds_toArray, List.set_cons_zero, List.set_cons_succ]
            refine wpAnyH_done (by kernel_rfl) ?_ _
            have HBF : Hid (Both w3 b u w12) := hid ⟨s, HM.out.same (HW6.out _ hd5)⟩
            clear hd hd1 hd2 hd3 hd4 hd5 hi hc8 hc10 hc11 hc12 hb10 hb11 HL1 HL2 HSM HSO HW6 HM HOK HST HRB HRU HCE HJR HC6 HMC HB2
            go_wp2_with fail
            go_roundw
            case rel => exact ⟨k + 1, by omega, by omega, by go_num, HBF⟩
            case measure => simp [intOf]; omega
      · obtain rfl : k = 60 := by omega
        go_wp2_with fail
        go_ret
        exact ⟨rfl, HC4.out.trans HC.out (fun _ _ h => h)⟩
    · obtain rfl : k = xs.length := by omega
      go_wp2_with fail
      go_ret
      exact ⟨rfl, HC4.out.trans HC.out (fun _ _ h => h)⟩
end Go.Proofs.YthglfmacjoecgaaGreatDoor
namespace Go.Proofs.YthglfmacjoecgaaGreatDoor
open Go.ChangeShapes Go.WideShapes Go.ChangeAt Go.RowKit
theorem rows_gen {H : Type} {enc : TypeId × Value → H} {P : Program} {W : World} {base b2 sz : Nat} {t e : TypeId} {v : Value} {d : DataW H} {p : List MemPlace} (ht : P.underlying t = some (.slice e))
    (hC : P.cellsOf e = sz) (hval : Value.okWide P W .any base t v) (h : DataW.Trod enc P W b2 (fun _ => true) true t v d p) :
    ∃ n C, RowsAt W v sz n C ∧ ∀ i, i < n → ∃ (y : DataW H × List MemPlace) (m : Nat), DataW.trod enc P W b2 (fun _ => true) true m e (C i) = some y := by
  obtain ⟨a0, len, cap, rfl⟩ := okWide_slice ht hval
  obtain ⟨fuel, hf⟩ := h
  rcases Go.Deep.open_slice ht hf with ⟨hcs, _⟩ | ⟨a, len', cap', m, n, D, Pl, hcs, _, hl, hm, hmm, _, hi⟩
  · simp [Value.cells] at hcs
    obtain ⟨rfl, rfl, rfl⟩ := hcs
    exact ⟨0, fun _ => [], ⟨.inl ⟨rfl, rfl⟩, Nat.zero_le _, fun i hi => by omega⟩, fun i hi => by omega⟩
  · simp [Value.cells] at hcs
    obtain ⟨rfl, rfl, rfl⟩ := hcs
    simp only [if_true] at hmm
    have hch : ∀ i, ∃ cs : List Value, i < len → (cs.length = sz ∧ (∀ j, j < sz → W.cell? (a.add (i * sz + j)) = cs[j]?) ∧
        ∃ (y : DataW H × List MemPlace) (m : Nat), DataW.trod enc P W b2 (fun _ => true) true m e cs = some y) := by
      intro i
      by_cases hil : i < len
      · obtain ⟨cs', hc, ht'⟩ := hi i (by omega)
        rw [hC] at hc
        obtain ⟨_, hcl, hat⟩ := World.cells?_some hc
        refine ⟨cs', fun _ => ⟨hcl, fun j hj => ?_, _, _, ht'⟩⟩
        rw [← hat j hj, Go.Deep.add_add]
      · exact ⟨[], fun h => absurd h hil⟩
    refine ⟨len, fun i => Classical.choose (hch i), ⟨.inr ⟨a, cap, rfl, fun i hil j hj => ((Classical.choose_spec (hch i)) hil).2.1 j hj⟩, by omega, fun i hil => ((Classical.choose_spec (hch i)) hil).1⟩, fun i hil => ((Classical.choose_spec (hch i)) hil).2.2⟩
end Go.Proofs.YthglfmacjoecgaaGreatDoor
namespace Go.Proofs.YthglfmacjoecgaaGreatDoor
open Go.ChangeShapes Go.WideShapes Go.ChangeAt Go.RowKit
set_option maxRecDepth 100000 in
theorem act_cells {H : Type} {enc : TypeId × Value → H} {W : World} {b2 m : Nat} {cs : List Value} {y : DataW H × List MemPlace} (hw : cs.length = 4) (hy : DataW.trod enc Tryz.prog W b2 (fun _ => true) true m 98 cs = some y) :
    ∃ x : ActX, cs = actXL x ∧ (Lit.int .i64 x.2.2.1).wf = true ∧ x.2.2.2.size ≤ maxLen := by
  obtain ⟨a, b, c, d, rfl⟩ : ∃ a b c d, cs = [a, b, c, d] := by
    match cs, hw with
    | [a, b, c, d], _ => exact ⟨a, b, c, d, rfl⟩
  obtain ⟨ys, n', _, _, hlen, hyl, hfs⟩ := DataW.trod_struct Tryz.underlying98 hy
  have q0 := hfs 0 _ rfl
  have q1 := hfs 1 _ rfl
  have q2 := hfs 2 _ rfl
  have hq0 : ys[0]? = some (ys[0]'(by rw [hyl]; decide)) := List.getElem?_eq_getElem _
  have hq1 : ys[1]? = some (ys[1]'(by rw [hyl]; decide)) := List.getElem?_eq_getElem _
  have hq2 : ys[2]? = some (ys[2]'(by rw [hyl]; decide)) := List.getElem?_eq_getElem _
  rw [hq0] at q0
  rw [hq1] at q1
  rw [hq2] at q2
  have hc0 : Tryz.prog.cellsOf 3 = 1 := by kernel_rfl
  have hc2 : Tryz.prog.cellsOf 47 = 2 := by kernel_rfl
  have q0' : DataW.trod enc Tryz.prog W b2 (fun _ => true) true n' 3 (([a, b, c, d].drop 0).take (Tryz.prog.cellsOf 3)) = some (ys[0]'(by rw [hyl]; decide)) := q0
  have q1' : DataW.trod enc Tryz.prog W b2 (fun _ => true) true n' 3 (([a, b, c, d].drop 1).take (Tryz.prog.cellsOf 3)) = some (ys[1]'(by rw [hyl]; decide)) := q1
  have q2' : DataW.trod enc Tryz.prog W b2 (fun _ => true) true n' 47 (([a, b, c, d].drop 2).take (Tryz.prog.cellsOf 47)) = some (ys[2]'(by rw [hyl]; decide)) := q2
  rw [hc0] at q0' q1'
  rw [hc2] at q2'
  obtain ⟨k0, g0, _, _⟩ := DataW.trod_int Tryz.underlying3 q0'
  obtain ⟨k1, g1, _, _⟩ := DataW.trod_int Tryz.underlying3 q1'
  obtain ⟨zs, n2, _, _, hlen2, hzl, hfs2⟩ := DataW.trod_struct Tryz.underlying47 q2'
  have p0 := hfs2 0 _ rfl
  have p1 := hfs2 1 _ rfl
  have hp0 : zs[0]? = some (zs[0]'(by rw [hzl]; decide)) := List.getElem?_eq_getElem _
  have hp1 : zs[1]? = some (zs[1]'(by rw [hzl]; decide)) := List.getElem?_eq_getElem _
  rw [hp0] at p0
  rw [hp1] at p1
  have hce : Tryz.prog.cellsOf 30 = 1 := by kernel_rfl
  have hcs : Tryz.prog.cellsOf 9 = 1 := by kernel_rfl
  have p0' : DataW.trod enc Tryz.prog W b2 (fun _ => true) true n2 30 (([c, d].drop 0).take (Tryz.prog.cellsOf 30)) = some (zs[0]'(by rw [hzl]; decide)) := p0
  have p1' : DataW.trod enc Tryz.prog W b2 (fun _ => true) true n2 9 (([c, d].drop 1).take (Tryz.prog.cellsOf 9)) = some (zs[1]'(by rw [hzl]; decide)) := p1
  rw [hce] at p0'
  rw [hcs] at p1'
  obtain ⟨k2, g2, _, w2⟩ := DataW.trod_int Tryz.underlying30 p0'
  obtain ⟨k3, g3, _, w3⟩ := DataW.trod_string Tryz.underlying9 p1'
  have e0 : [a] = [.int .i64 k0] := g0
  have e1 : [b] = [.int .i64 k1] := g1
  have e2 : [c] = [.int .i64 k2] := g2
  have e3 : [d] = [.string k3] := g3
  simp only [List.cons.injEq, and_true] at e0 e1 e2 e3
  subst e0 e1 e2 e3
  exact ⟨(k0, k1, k2, k3), rfl, w2, w3⟩
set_option maxRecDepth 100000 in
theorem actxs_in {H : Type} {enc : TypeId × Value → H} {W : World} {base b2 : Nat} {v : Value} {d : DataW H} {p : List MemPlace} (hval : Value.okWide Tryz.prog W .any base 92 v) (h : DataW.Trod enc Tryz.prog W b2 (fun _ => true) true 92 v d p) : ∃ xs, ActXs W v xs := by
  obtain ⟨n, C, hR, hC⟩ := rows_gen (sz := 4) Tryz.underlying92 (by kernel_rfl) hval h
  obtain ⟨xs, h1, h2⟩ := rows_pick hR actXL noActX (fun x => (Lit.int .i64 x.2.2.1).wf = true ∧ x.2.2.2.size ≤ maxLen) (fun i hi => by
    obtain ⟨y, m, hy⟩ := hC i hi
    exact act_cells (hR.wide i hi) hy)
  exact ⟨xs, h1, h2⟩
end Go.Proofs.YthglfmacjoecgaaGreatDoor
