/- BeeNil walked: it returns true. -/
import Derived.Test.YtijiggolphppbaaGreatDoorKY
import Derived.Test.YtijiggolphppbaaGreatDoorKN0
import Derived.Test.YtijiggolphppbaaGreatDoorKN1
import Derived.Test.YtijiggolphppbaaGreatDoorKN2
import Derived.Test.YtijiggolphppbaaGreatDoorKW
import Derived.Test.YtijiggolphppbaaGreatDoorBnA
namespace Go.Proofs.YtijiggolphppbaaGreatDoor
open Go.RowKit Go.Proofs.YtijiggolphppbaaGreatDoor.Ev
theorem al_chg (w : World) (o : Obj) : Chg (fun _ => False) w (w.alloc o) := (Chg.refl _ w).alloc o
theorem Words.chg {w w' : World} (h : Words w) (hc : Chg (fun _ => False) w w') : Words w' := by
  obtain ⟨h1, h2⟩ := h
  have hs := hc.size
  refine ⟨?_, by omega⟩
  unfold Lib.TabIs World.var? at h1 ⊢
  rw [wdG] at h1 ⊢
  simp only [Option.bind_some] at h1 ⊢
  rw [hc.block gWd h2 (fun h => h)]
  exact h1
set_option maxRecDepth 100000 in
theorem beeNil_bad (g : GrR) (srcs : List SrcR) (v : Value) (me nodes : Int) (hc : ¬ canB me nodes) (w : World) (hP : PlanAt w v g srcs) (hJ : Words w) :
    Calls Tryz.prog 3 #[v, .int .i64 me, .int .i64 nodes] w (Rets (.bool true) (Chg (fun _ => False) w)) := by
  obtain ⟨sv, av, lv, iv, rfl, h1, h2, h3⟩ := hP
  obtain ⟨oa, ca, rfl⟩ := h1.form
  obtain ⟨oc, cc, rfl⟩ := h2.form
  obtain ⟨os, cs, rfl⟩ := h3.form
  have HP : Hid (PlanAt w (.agg #[.slice oa g.srcs.length ca, .slice oc g.acts.length cc, .slice os srcs.length cs]) g srcs) := hid ⟨_, _, _, iv, rfl, h1, h2, h3⟩
  have HW : Hid (∀ W, Chg (fun _ => False) w W → Words W) := hid (fun W hW => hJ.chg hW)
  have HC1 := hid (al_chg w (.cells #[.slice oa g.srcs.length ca, .slice oc g.acts.length cc, .slice os srcs.length cs] 28))
  have HG1 := hid (heap_alloc_new' w (.cells #[.slice oa g.srcs.length ca, .slice oc g.acts.length cc, .slice os srcs.length cs] 28))
  have HOB := hid (fun (b : Addr) (W : World) => open_bad me nodes hc b W)
  have hcan : ¬ (1 ≤ nodes ∧ nodes ≤ 6 ∧ 1 ≤ me ∧ me ≤ nodes) := hc
  have HCAN := hid hcan
  clear h1 h2 h3 hJ hc hcan
  have HAW := hid (awake_any _ (HW.out _ HC1.out))
  go_enter Tryz.func3, Tryz.ntmps3
  go_upto_region 3 with (go_at_call 4; refine HAW.out.mono ?_; rintro e w1 ⟨rfl, hb1⟩; have HX1 : Hid (Chg (fun _ => False) _ w1) := hid (Chg.of_below hb1 |>.mono (fun i hi h => by omega)); clear hb1)
  have HC2 := hid (HC1.out.trans HX1.out (fun _ _ h => h))
  have HG2 := hid (HX1.out.obj HG1.out (fun h => h))
  clear HX1 HAW HG1 HC1
  obtain ⟨pb, hpb⟩ : ∃ pb, pb = w.heap.size := ⟨_, rfl⟩
  have HCL : Hid (∀ W, Chg (fun _ => False) w1 W → W.cell? ⟨pb, 0, none⟩ = some (.slice oa g.srcs.length ca) ∧ W.cell? ⟨pb, 1, none⟩ = some (.slice oc g.acts.length cc) ∧ W.cell? ⟨pb, 2, none⟩ = some (.slice os srcs.length cs)) := hid (fun W hW => by
    have k := hW.obj HG2.out (fun h => h)
    rw [← hpb] at k
    exact ⟨cell_of k 0, cell_of k 1, cell_of k 2⟩)
  rw [← hpb]
  clear hpb HG2
  obtain ⟨z0, z1, z2⟩ := HCL.out w1 (Chg.refl _ _)
  have HGR := hid (great_any g srcs _ w1 (HP.out.chg HC2.out (fun _ _ h => h)))
  go_wp2_with fail
  refine HGR.out.mono ?_
  rintro e w2 ⟨B2, rfl, hc2⟩
  have HC3 := hid (HC2.out.trans hc2 (fun _ _ h => h))
  have HX3 := hid hc2
  clear hc2 z0 z1 z2 HGR
  obtain ⟨z0, z1, z2⟩ := HCL.out w2 HX3.out
  cases B2 with
  | true =>
    go_wp2_with fail
    go_ret
    exact ⟨rfl, HC3.out⟩
  | false =>
  have HN6 := hid (fun W (hW : Chg (fun _ => False) w W) => nil_build (.slice oa g.srcs.length ca) (.slice oc g.acts.length cc) (.slice os srcs.length cs) rfl rfl rfl W (HW.out W hW))
  have HN7 := hid (fun W (hW : Chg (fun _ => False) w W) => nil_tick W (HW.out W hW))
  have HN8 := hid (fun W (hW : Chg (fun _ => False) w W) => nil_hear W (HW.out W hW))
  have HN9 := hid (fun W (hW : Chg (fun _ => False) w W) => nil_leave W (HW.out W hW))
  have HN10 := hid (fun W (hW : Chg (fun _ => False) w W) => nil_out W (HW.out W hW))
  have HN11 := hid (fun W (hW : Chg (fun _ => False) w W) => nil_state W (HW.out W hW))
  have HN12 := hid (fun W (hW : Chg (fun _ => False) w W) => nil_results W (HW.out W hW))
  have HN13 := hid (fun W (hW : Chg (fun _ => False) w W) => nil_ran W (HW.out W hW))
  have HN14 := hid (fun W (hW : Chg (fun _ => False) w W) => nil_got W (HW.out W hW))
  have HN15 := hid (fun W (hW : Chg (fun _ => False) w W) => nil_members W (HW.out W hW))
  have HN16 := hid (fun W (hW : Chg (fun _ => False) w W) => nil_store W (HW.out W hW))
  have HN18 := hid (fun W (hW : Chg (fun _ => False) w W) => nil_open W (HW.out W hW))
  have HN17 := hid (fun W (hW : Chg (fun _ => False) w W) => new_shelf W (HW.out W hW))
  clear HX3 HCL
  go_upto_region 9 with (first | (go_at_call 6; refine (HN6.out _ HC3.out).mono ?_; rintro e w3 ⟨rfl, hc⟩; have HC4 := hid (HC3.out.trans hc (fun _ _ h => h)); clear hc HC3 HN6 z0 z1 z2) | (go_at_call 7; refine (HN7.out _ HC4.out).mono ?_; rintro e w4 ⟨rfl, hc⟩; have HC5 := hid (HC4.out.trans hc (fun _ _ h => h)); clear hc HC4 HN7) | (go_at_call 8; refine (HN8.out _ HC5.out).mono ?_; rintro e w5 ⟨rfl, hc⟩; have HC6 := hid (HC5.out.trans hc (fun _ _ h => h)); clear hc HC5 HN8) | (go_at_call 9; refine (HN9.out _ HC6.out).mono ?_; rintro e w6 ⟨rfl, hc⟩; have HC7 := hid (HC6.out.trans hc (fun _ _ h => h)); clear hc HC6 HN9) | (go_at_call 10; refine (HN10.out _ HC7.out).mono ?_; rintro e w7 ⟨rfl, hc⟩; have HC8 := hid (HC7.out.trans hc (fun _ _ h => h)); clear hc HC7 HN10) | (go_at_call 11; refine (HN11.out _ HC8.out).mono ?_; rintro e w8 ⟨rfl, hc⟩; have HC9 := hid (HC8.out.trans hc (fun _ _ h => h)); clear hc HC8 HN11) | (go_at_call 12; refine (HN12.out _ HC9.out).mono ?_; rintro e w9 ⟨rfl, hc⟩; have HC10 := hid (HC9.out.trans hc (fun _ _ h => h)); clear hc HC9 HN12) | (go_at_call 13; refine (HN13.out _ HC10.out).mono ?_; rintro e w10 ⟨rfl, hc⟩; have HC11 := hid (HC10.out.trans hc (fun _ _ h => h)); clear hc HC10 HN13) | (go_at_call 14; refine (HN14.out _ HC11.out).mono ?_; rintro e w11 ⟨rfl, hc⟩; have HC12 := hid (HC11.out.trans hc (fun _ _ h => h)); clear hc HC11 HN14) | (go_at_call 15; refine (HN15.out _ HC12.out).mono ?_; rintro e w12 ⟨rfl, hc⟩; have HC13 := hid (HC12.out.trans hc (fun _ _ h => h)); clear hc HC12 HN15) | (go_at_call 16; refine (HN16.out _ HC13.out).mono ?_; rintro e w13 ⟨rfl, hc⟩; have HC14 := hid (HC13.out.trans hc (fun _ _ h => h)); clear hc HC13 HN16) | (go_at_call 17; refine (HN17.out _ HC14.out).mono ?_; rintro e w14 ⟨sb, rfl, hc⟩; have HC15 := hid (HC14.out.trans hc (fun _ _ h => h)); clear hc HC14 HN17))
  have HC15a := hid (HC15.out.alloc (.cells #[.int .i64 nodes, .int .i64 0, .bool false] 53))
  go_upto_region 10 with (go_at_call 18; refine (HOB.out _ _).mono ?_; rintro e w15 ⟨rfl, hc⟩; have HC16 := hid (HC15.out.trans hc (fun _ _ h => h)); clear hc HOB)
  have hcan := HCAN.out
  by_cases q1 : 1 ≤ nodes
  · have d1 : decide (1 ≤ nodes) = true := decide_eq_true q1
    by_cases q2 : nodes ≤ 6
    · have d2 : decide (nodes ≤ 6) = true := decide_eq_true q2
      by_cases q3 : 1 ≤ me
      · have d3 : decide (1 ≤ me) = true := decide_eq_true q3
        have q4 : ¬ me ≤ nodes := fun q4 => hcan ⟨q1, q2, q3, q4⟩
        have d4 : decide (me ≤ nodes) = false := decide_eq_false q4
        clear hcan
        go_wp2_with (go_at_call 18; refine (HN18.out _ HC16.out).mono ?_; rintro e w16 ⟨rfl, hc⟩; have HC17 := hid (HC16.out.trans hc (fun _ _ h => h)); clear hc)
        go_ret
        exact ⟨rfl, HC17.out⟩
      · have d3 : decide (1 ≤ me) = false := decide_eq_false q3
        clear hcan
        go_wp2_with (go_at_call 18; refine (HN18.out _ HC16.out).mono ?_; rintro e w16 ⟨rfl, hc⟩; have HC17 := hid (HC16.out.trans hc (fun _ _ h => h)); clear hc)
        go_ret
        exact ⟨rfl, HC17.out⟩
    · have d2 : decide (nodes ≤ 6) = false := decide_eq_false q2
      clear hcan
      go_wp2_with (go_at_call 18; refine (HN18.out _ HC16.out).mono ?_; rintro e w16 ⟨rfl, hc⟩; have HC17 := hid (HC16.out.trans hc (fun _ _ h => h)); clear hc)
      go_ret
      exact ⟨rfl, HC17.out⟩
  · have d1 : decide (1 ≤ nodes) = false := decide_eq_false q1
    clear hcan
    go_wp2_with (go_at_call 18; refine (HN18.out _ HC16.out).mono ?_; rintro e w16 ⟨rfl, hc⟩; have HC17 := hid (HC16.out.trans hc (fun _ _ h => h)); clear hc)
    go_ret
    exact ⟨rfl, HC17.out⟩
theorem can_rest {me nodes : Int} (h : canB me nodes) : restB me nodes = true := by
  obtain ⟨h1, h2, h3, h4⟩ := h
  have ha : nodes = 1 ∨ nodes = 2 ∨ nodes = 3 ∨ nodes = 4 ∨ nodes = 5 ∨ nodes = 6 := by omega
  have hb : me = 1 ∨ me = 2 ∨ me = 3 ∨ me = 4 ∨ me = 5 ∨ me = 6 := by omega
  rcases ha with rfl | rfl | rfl | rfl | rfl | rfl <;> rcases hb with rfl | rfl | rfl | rfl | rfl | rfl
  · exact rest11
  · exfalso; omega
  · exfalso; omega
  · exfalso; omega
  · exfalso; omega
  · exfalso; omega
  · exact rest12
  · exact rest22
  · exfalso; omega
  · exfalso; omega
  · exfalso; omega
  · exfalso; omega
  · exact rest13
  · exact rest23
  · exact rest33
  · exfalso; omega
  · exfalso; omega
  · exfalso; omega
  · exact rest14
  · exact rest24
  · exact rest34
  · exact rest44
  · exfalso; omega
  · exfalso; omega
  · exact rest15
  · exact rest25
  · exact rest35
  · exact rest45
  · exact rest55
  · exfalso; omega
  · exact rest16
  · exact rest26
  · exact rest36
  · exact rest46
  · exact rest56
  · exact rest66
/-- A context in which one block has a name: it holds three values that are not looked at. -/
def Cx.box (W : World) (pb : Nat) (X : Nat → Value) : Cx := ⟨fun n => n = 7, fun _ => (pb, 0), fun b => if b = pb then 3 else 0, X, W⟩
theorem Sim.box {W w : World} {pb : Nat} {X : Nat → Value} (hW : W.heap.size ≤ pb) (hb : w.heap[pb]? = some (.cells #[X 0, X 1, X 2] 28 (0, 0))) (h0 : (X 0).oneCell = true) (h1 : (X 1).oneCell = true) (h2 : (X 2).oneCell = true) (hc : Chg (fun _ => False) W w) : Sim (Cx.box W pb X) restS w := by
  have hlt := heap_lt hb
  have hmx := MX_FU
  have hg : restS.heap.get 7 = some (.cells 3 (cellsT FU 0 [.x 0, .x 1, .x 2] .leaf) 28) := by
    unfold restS
    rw [T.get_set FU _ 7 _ 7 (by unfold MX at hmx; omega), if_pos rfl]
  refine ⟨?_, (by show 8 ≤ MX + 1; unfold MX; omega), ?_, ?_, ?_, fun _ _ => rfl, ?_, ⟨hc.size, fun b hb => hc.block b hb (fun h => h)⟩, fun _ _ => hW⟩
  · rintro n rfl
    show 7 < 8
    omega
  · intro b hbb
    show (if b = pb then 3 else 0) = 0
    rw [if_neg (by omega)]
  · rintro m n o p rfl rfl _ _ _ _ _
    rfl
  · rintro n k t ty rfl h
    rw [hg] at h
    simp only [Option.some.injEq, AO.cells.injEq] at h
    obtain ⟨rfl, rfl, rfl⟩ := h
    refine ⟨#[X 0, X 1, X 2], 0, 0, hb, ?_, (by unfold MX; omega), (by show 0 + 3 ≤ 3; omega), (fun i _ => by omega), ?_⟩
    · show (if pb = pb then 3 else 0) = 3
      rw [if_pos rfl]
    · intro i a ha
      rw [cellsT_get _ 0 .leaf i (by unfold MX at hmx; simp only [List.length_cons, List.length_nil]; omega)] at ha
      by_cases hi : 0 ≤ i ∧ i < 0 + [AV.x 0, AV.x 1, AV.x 2].length
      · rw [if_pos hi] at ha
        simp only [List.length_cons, List.length_nil] at hi
        have hi3 : i < 3 := by omega
        refine ⟨hi3, ?_⟩
        match i, hi3, ha with
        | 0, _, ha =>
          simp only [Nat.sub_zero, List.getElem?_cons_zero, Option.some.injEq] at ha
          subst ha
          exact ⟨X 0, rfl, .x 0 h0, rfl⟩
        | 1, _, ha =>
          simp only [Nat.sub_zero, List.getElem?_cons_succ, List.getElem?_cons_zero, Option.some.injEq] at ha
          subst ha
          exact ⟨X 1, rfl, .x 1 h1, rfl⟩
        | 2, _, ha =>
          simp only [Nat.sub_zero, List.getElem?_cons_succ, List.getElem?_cons_zero, Option.some.injEq] at ha
          subst ha
          exact ⟨X 2, rfl, .x 2 h2, rfl⟩
      · rw [if_neg hi, T.get_leaf] at ha
        cases ha
  · rintro n l rfl h
    rw [hg] at h
    cases h
def vals3 (a b d : Value) (i : Nat) : Value := match i with | 0 => a | 1 => b | _ => d
theorem code_tr {P : Program} {c c' : Code} {Q Q' : Exit → Act → World → Prop} {a a' : Act} {w : World} (h : c.wp P Q a w) (h1 : c' = c) (h2 : a' = a) (h3 : Q' = Q) : c'.wp P Q' a' w := by subst h1 h2 h3; exact h
theorem rest_runs {me nodes : Int} (hc : canB me nodes) {W w : World} (hJ : Words W) {pb : Nat} (hW : W.heap.size ≤ pb) (a b d : Value) (ha : a.oneCell = true) (hb : b.oneCell = true) (hd : d.oneCell = true) (hk : w.heap[pb]? = some (.cells #[a, b, d] 28 (0, 0))) (hcW : Chg (fun _ => False) W w) :
    restC.wp Tryz.prog (bodyPost Tryz.prog Tryz.f3 (Rets (.bool true) (Chg (fun _ => False) W))) { tmps := #[.agg #[a, b, d], .int .i64 me, .int .i64 nodes, .pointer (some ⟨pb, 0, none⟩), undef, undef, .bool false, undef, undef, undef, undef, undef, undef, undef, undef, undef, .bool true, .bool false, .agg #[a, b, d], .bool false] ++ Array.replicate (Tryz.f3.ntmps - 20) undef, defers := [] } w := by
  have hR := can_rest hc
  unfold restB at hR
  split at hR
  · rename_i σ2 hrun
    have hX := Sim.box (X := vals3 a b d) hW hk ha hb hd hcW
    have vx : ∀ i, i < 3 → VR (Cx.box W pb (vals3 a b d)) (.x i) (vals3 a b d i) := fun i hi => by
      match i, hi with
      | 0, _ => exact .x 0 ha
      | 1, _ => exact .x 1 hb
      | 2, _ => exact .x 2 hd
    have va : VR (Cx.box W pb (vals3 a b d)) (.agg [.x 0, .x 1, .x 2]) (.agg #[a, b, d]) := .agg (.cons (vx 0 (by omega)) (.cons (vx 1 (by omega)) (.cons (vx 2 (by omega)) .nil)))
    have vu : VR (Cx.box W pb (vals3 a b d)) un undef := .un _
    have vp : VR (Cx.box W pb (vals3 a b d)) (.ptr (some (7, 0))) (.pointer (some ⟨pb, 0, none⟩)) := .ptr 7 0 rfl
    have hv : VRs (Cx.box W pb (vals3 a b d)) (restL me nodes) (#[.agg #[a, b, d], .int .i64 me, .int .i64 nodes, .pointer (some ⟨pb, 0, none⟩), undef, undef, .bool false, undef, undef, undef, undef, undef, undef, undef, undef, undef, .bool true, .bool false, .agg #[a, b, d], .bool false] : Array Value).toList :=
      .cons va (.cons (.int _ _) (.cons (.int _ _) (.cons vp (.cons vu (.cons vu (.cons (.bool _) (.cons vu (.cons vu (.cons vu (.cons vu (.cons vu (.cons vu (.cons vu (.cons vu (.cons vu (.cons (.bool _) (.cons (.bool _) (.cons va (.cons (.bool _) .nil)))))))))))))))))))
    have hN : Tryz.f3.ntmps < MX := of_decide_eq_true (by kernel_rfl)
    have key := rest_ok prg (fn := Tryz.f3) rest_code hN (by unfold restL MX; simp) hrun (c := Cx.box W pb (vals3 a b d)) (w := w) hJ hv hX
    refine wp_mono key (fun e a' w' h => ?_)
    have hRR : ∀ e w', (∃ v' c', e = Ending.returned v' ∧ Post (Cx.box W pb (vals3 a b d)) c' restS σ2 w w' ∧ VR c' (.bool true) v') → Rets (.bool true) (Chg (fun _ => False) W) e w' := by
      rintro e w' ⟨v', c', rfl, hp, hv'⟩
      cases hv'
      have hs := hcW.size
      exact ⟨rfl, hp.os.trans hcW.os, hp.tape.trans hcW.tape, hp.output.trans hcW.output, Nat.le_trans hs hp.size, fun k hk2 _ => (hp.block k (by omega) (fun n o hd _ _ e => by
        have : pb = k := e
        omega)).trans (hcW.block k hk2 (fun h => h))⟩
    cases e with
    | normal => exact ⟨h.1, h.2.choose, h.2.choose_spec.1, hRR _ _ h.2.choose_spec.2⟩
    | ret => exact ⟨h.1, h.2.choose, h.2.choose_spec.1, hRR _ _ h.2.choose_spec.2⟩
    | panic chain => exact ⟨h.1, hRR _ _ h.2⟩
    | outgrown => exact hRR _ _ h
    | exit _ => exact h.elim
    | goto _ => exact h.elim
  · cases hR
set_option maxRecDepth 100000 in
theorem beeNil_can (g : GrR) (srcs : List SrcR) (v : Value) (me nodes : Int) (hc : canB me nodes) (w : World) (hP : PlanAt w v g srcs) (hJ : Words w) :
    Calls Tryz.prog 3 #[v, .int .i64 me, .int .i64 nodes] w (Rets (.bool true) (Chg (fun _ => False) w)) := by
  have HCAN := hid hc
  have HJJ := hid hJ
  obtain ⟨sv, av, lv, iv, rfl, h1, h2, h3⟩ := hP
  obtain ⟨oa, ca, rfl⟩ := h1.form
  obtain ⟨oc, cc, rfl⟩ := h2.form
  obtain ⟨os, cs, rfl⟩ := h3.form
  have HP : Hid (PlanAt w (.agg #[.slice oa g.srcs.length ca, .slice oc g.acts.length cc, .slice os srcs.length cs]) g srcs) := hid ⟨_, _, _, iv, rfl, h1, h2, h3⟩
  have HW : Hid (∀ W, Chg (fun _ => False) w W → Words W) := hid (fun W hW => hJ.chg hW)
  have HC1 := hid (al_chg w (.cells #[.slice oa g.srcs.length ca, .slice oc g.acts.length cc, .slice os srcs.length cs] 28))
  have HG1 := hid (heap_alloc_new' w (.cells #[.slice oa g.srcs.length ca, .slice oc g.acts.length cc, .slice os srcs.length cs] 28))
  clear h1 h2 h3 hJ hc
  have HAW := hid (awake_any _ (HW.out _ HC1.out))
  go_enter Tryz.func3, Tryz.ntmps3
  go_upto_region 3 with (go_at_call 4; refine HAW.out.mono ?_; rintro e w1 ⟨rfl, hb1⟩; have HX1 : Hid (Chg (fun _ => False) _ w1) := hid (Chg.of_below hb1 |>.mono (fun i hi h => by omega)); clear hb1)
  have HC2 := hid (HC1.out.trans HX1.out (fun _ _ h => h))
  have HG2 := hid (HX1.out.obj HG1.out (fun h => h))
  clear HX1 HAW HG1 HC1
  obtain ⟨pb, hpb⟩ : ∃ pb, pb = w.heap.size := ⟨_, rfl⟩
  have HCL : Hid (∀ W, Chg (fun _ => False) w1 W → W.cell? ⟨pb, 0, none⟩ = some (.slice oa g.srcs.length ca) ∧ W.cell? ⟨pb, 1, none⟩ = some (.slice oc g.acts.length cc) ∧ W.cell? ⟨pb, 2, none⟩ = some (.slice os srcs.length cs)) := hid (fun W hW => by
    have k := hW.obj HG2.out (fun h => h)
    rw [← hpb] at k
    exact ⟨cell_of k 0, cell_of k 1, cell_of k 2⟩)
  rw [← hpb]
  have HPB := hid (Nat.le_of_eq hpb.symm)
  have HGG := HG2.out
  rw [← hpb] at HGG
  have HGG := hid HGG
  clear hpb HG2
  obtain ⟨z0, z1, z2⟩ := HCL.out w1 (Chg.refl _ _)
  have HGR := hid (great_any g srcs _ w1 (HP.out.chg HC2.out (fun _ _ h => h)))
  go_wp2_with fail
  refine HGR.out.mono ?_
  rintro e w2 ⟨B2, rfl, hc2⟩
  have HC3 := hid (HC2.out.trans hc2 (fun _ _ h => h))
  have HX3 := hid hc2
  clear hc2 z0 z1 z2 HGR
  obtain ⟨z0, z1, z2⟩ := HCL.out w2 HX3.out
  cases B2 with
  | true =>
    go_wp2_with fail
    go_ret
    exact ⟨rfl, HC3.out⟩
  | false =>
  go_upto_if 19 with fail
  rename_i K1 hK1 xx1
  refine wp_cond_false rfl (wp_skip ?_)
  show K1 _ w2
  refine hK1 _ _ ?_
  have key := rest_runs HCAN.out HJJ.out HPB.out (.slice oa g.srcs.length ca) (.slice oc g.acts.length cc) (.slice os srcs.length cs) rfl rfl rfl (HX3.out.obj HGG.out (fun h => h)) HC3.out
  clear hK1
  refine code_tr key ?_ ?_ ?_
  · kernel_rfl
  · kernel_rfl
  · kernel_rfl
theorem beeNil_any (g : GrR) (srcs : List SrcR) (v : Value) (me nodes : Int) (w : World) (hP : PlanAt w v g srcs) (hJ : Words w) : Calls Tryz.prog 3 #[v, .int .i64 me, .int .i64 nodes] w (Rets (.bool true) (fun w' => Chg (fun _ => False) w w')) := by
  by_cases hc : canB me nodes
  · exact beeNil_can g srcs v me nodes hc w hP hJ
  · exact beeNil_bad g srcs v me nodes hc w hP hJ
end Go.Proofs.YtijiggolphppbaaGreatDoor
