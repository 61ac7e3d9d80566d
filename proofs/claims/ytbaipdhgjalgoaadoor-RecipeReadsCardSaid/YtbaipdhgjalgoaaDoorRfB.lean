/- apiaryref01.Same, apiaryref07.Same walked. -/
import Derived.Test.YtbaipdhgjalgoaaDoorRfA
namespace Go.Proofs.YtbaipdhgjalgoaaDoor
open Go.RowKit

set_option maxRecDepth 100000 in
set_option maxHeartbeats 2000000 in
theorem rsameS_any (v u : Value) (ss ts : List (List UInt8)) (w : World) (hv : NamesAt w v ss) (hu : NamesAt w u ts) :
    Calls Tryd.prog 23 #[v, u] w (Ans (ss = ts) w) := by
  have hl1 := hv.len
  have hl2 := hu.len
  have hm1 := hv.le
  unfold maxLen at hm1
  have HV := hid hv
  have HU := hid hu
  clear hv hu
  by_cases hl : ss.length = ts.length
  · have hl' : (ss.length : Int) = ts.length := by omega
    rw [← hl] at hl2
    go_enter Tryd.func23, Tryd.ntmps23
    go_wp2_with fail
    go_loopw [5] (fun i wr => ∃ k : Nat, k ≤ ss.length ∧ i = .int .i64 k ∧ Chg (fun _ => False) w wr ∧ ss.take k = ts.take k) (fun i _ => ss.length - (intOf i).toNat)
    case atStart => exact ⟨0, Nat.zero_le _, rfl, Chg.refl _ _, rfl⟩
    case round =>
      obtain ⟨k, hk, rfl, hch, htk⟩ := hrel
      have HC := hid hch
      have HT := hid htk
      have S1 := HV.out.chg hch (fun _ _ h => h)
      have S2 := HU.out.chg hch (fun _ _ h => h)
      clear hch htk
      by_cases hkn : k < ss.length
      · have hkn' : (k : Int) < ss.length := by omega
        obtain ⟨ad, hix, hadc, hadb⟩ := S1.ix k hkn
        obtain ⟨ad2, hix2, hadc2, hadb2⟩ := S2.ix k (by omega)
        clear S1 S2
        by_cases he : ss[k] = ts[k]'(by omega)
        · rw [← he] at hadc2
          have hst : ss.take (k + 1) = ts.take (k + 1) := by rw [List.take_succ_eq_append_getElem hkn, List.take_succ_eq_append_getElem (by omega), HT.out, he]
          have HST := hid hst
          clear hst he
          generalize bs ss[k] = x at *
          go_wp2_with fail
          go_quiet (fail)
          go_wp2_with fail
          go_roundw
          case rel => exact ⟨k + 1, by omega, by go_num, HC.out.drewN _, HST.out⟩
          case measure => simp [intOf]; omega
        · have hne := bs_eq ss[k] (ts[k]'(by omega))
          rw [decide_eq_false he] at hne
          have HE := hid he
          clear he
          generalize bs ss[k] = x at *
          generalize bs (ts[k]'(by omega)) = y at *
          go_wp2_with fail
          go_quiet (fail)
          go_wp2_with fail
          go_ret
          refine ⟨false, rfl, ⟨fun h => (Bool.false_ne_true h).elim, fun h => ?_⟩, HC.out.drewN _⟩
          subst h
          exact absurd rfl HE.out
      · obtain rfl : k = ss.length := by omega
        clear S1 S2
        go_wp2_with fail
        go_ret
        refine ⟨true, rfl, ⟨fun _ => ?_, fun _ => rfl⟩, HC.out⟩
        have := HT.out
        rw [List.take_length, hl, List.take_length] at this
        exact this
  · have hl' : ¬ (ss.length : Int) = ts.length := by omega
    go_enter Tryd.func23, Tryd.ntmps23
    go_wp2_with fail
    go_ret
    exact ⟨false, rfl, ⟨fun h => (Bool.false_ne_true h).elim, fun h => absurd (congrArg List.length h) hl⟩, Chg.refl _ _⟩

theorem act_eq {a b : ActR} (h1 : a.name = b.name) (h2 : a.code = b.code) (h3 : a.ins = b.ins) : a = b := by
  cases a; cases b; simp only at h1 h2 h3; rw [h1, h2, h3]

set_option maxRecDepth 100000 in
set_option maxHeartbeats 4000000 in
theorem rsame_any (g h : GrR) (v u : Value) (w : World) (hv : GrAt w v g) (hu : GrAt w u h) : Calls Tryd.prog 12 #[v, u] w (Ans (g = h) w) := by
  obtain ⟨oa, c, ob, d, iv, rfl, h1, h2⟩ := hv.form
  obtain ⟨pa, q, pb, r, ju, rfl, h3, h4⟩ := hu.form
  have hC : Chg (fun _ => False) w ((w.alloc (.cells #[.slice oa g.srcs.length c, .slice ob g.acts.length d] 26)).alloc (.cells #[.slice pa h.srcs.length q, .slice pb h.acts.length r] 26)) := ((Chg.refl _ w).alloc _).alloc _
  have he := rsameS_any (.slice oa g.srcs.length c) (.slice pa h.srcs.length q) g.srcs h.srcs _ (h1.chg hC (fun _ _ h => h)) (h3.chg hC (fun _ _ h => h))
  have k1 : ((w.alloc (.cells #[.slice oa g.srcs.length c, .slice ob g.acts.length d] 26)).alloc (.cells #[.slice pa h.srcs.length q, .slice pb h.acts.length r] 26)).heap[w.heap.size]? = some (.cells #[.slice oa g.srcs.length c, .slice ob g.acts.length d] 26 (0, 0)) := heap_alloc_old' (heap_alloc_new' w _) _
  have k2 : ((w.alloc (.cells #[.slice oa g.srcs.length c, .slice ob g.acts.length d] 26)).alloc (.cells #[.slice pa h.srcs.length q, .slice pb h.acts.length r] 26)).heap[w.heap.size + 1]? = some (.cells #[.slice pa h.srcs.length q, .slice pb h.acts.length r] 26 (0, 0)) := by
    have := heap_alloc_new' (w.alloc (.cells #[.slice oa g.srcs.length c, .slice ob g.acts.length d] 26)) (.cells #[.slice pa h.srcs.length q, .slice pb h.acts.length r] 26)
    simpa using this
  have hblk : ∀ W, Chg (fun _ => False) ((w.alloc (.cells #[.slice oa g.srcs.length c, .slice ob g.acts.length d] 26)).alloc (.cells #[.slice pa h.srcs.length q, .slice pb h.acts.length r] 26)) W → W.cell? ⟨w.heap.size, 1, none⟩ = some (.slice ob g.acts.length d) ∧ W.cell? ⟨w.heap.size + 1, 1, none⟩ = some (.slice pb h.acts.length r) := fun W hW =>
    ⟨(cell_of (hW.obj k1 (fun h => h)) 1).trans rfl, (cell_of (hW.obj k2 (fun h => h)) 1).trans rfl⟩
  have hm := h2.rows.le
  unfold maxLen at hm
  have HC := hid hC
  have HB := hid hblk
  have HV := hid h2
  have HU := hid h4
  have HE : Hid (g.srcs = h.srcs → g.acts = h.acts → g = h) := fun e1 e2 => by cases g; cases h; simp_all
  have HN : Hid (g = h → g.srcs = h.srcs ∧ g.acts = h.acts) := fun e => by rw [e]; exact ⟨rfl, rfl⟩
  clear hv hu h1 h2 h3 h4 hC k1 k2 hblk
  have gen : ∀ (gs hs : Prop) (_ : gs → Prop), True := fun _ _ _ => trivial
  clear gen
  obtain ⟨xs, hxs⟩ : ∃ xs, xs = g.acts := ⟨_, rfl⟩
  obtain ⟨ys, hys⟩ : ∃ ys, ys = h.acts := ⟨_, rfl⟩
  rw [← hxs] at HV HB HC HE HN he hm ⊢
  rw [← hys] at HU HB HC HE HN he ⊢
  clear hxs hys
  by_cases hl : xs.length = ys.length
  · rw [← hl] at he HC HB HU ⊢
    have HL := hid hl
    clear hl
    go_enter Tryd.func12, Tryd.ntmps12
    go_wp2_with (go_at_call 23; refine he.mono ?_; clear he; rintro e w' ⟨B, rfl, hB, hc⟩; have HBB := hid hB; obtain ⟨u0, u1⟩ := HB.out _ hc; have HCW := hid hc; clear hB hc; cases B)
    · go_wp2_with fail
      go_ret
      exact ⟨false, rfl, ⟨fun h => (Bool.false_ne_true h).elim, fun h => HBB.out.2 (HN.out h).1⟩, HC.out.trans HCW.out (fun _ _ h => h)⟩
    · go_wp2_with fail
      go_loopw [5] (fun i wr => ∃ k : Nat, k ≤ xs.length ∧ i = .int .i64 k ∧ Chg (fun _ => False) w' wr ∧ xs.take k = ys.take k) (fun i _ => xs.length - (intOf i).toNat)
      case atStart => exact ⟨0, Nat.zero_le _, rfl, Chg.refl _ _, rfl⟩
      case round =>
        obtain ⟨k, hk, rfl, hch, htk⟩ := hrel
        have HT := hid htk
        have hcw := (HC.out.trans HCW.out (fun _ _ h => h)).trans hch (fun _ _ h => h)
        have S1 := HV.out.chg hcw (fun _ _ h => h)
        have S2 := HU.out.chg hcw (fun _ _ h => h)
        clear u0 u1
        obtain ⟨u0, u1⟩ := HB.out _ (HCW.out.trans hch (fun _ _ h => h))
        have HCH := hid hch
        have HCC := hid hcw
        clear hch htk hcw
        by_cases hkn : k < xs.length
        · have hkn' : (k : Int) < xs.length := by omega
          have hky : k < ys.length := by have := HL.out; omega
          clear HL
          obtain ⟨bb, oo, hix, hlt, e0, e1, e2, hns, hw1, hw2⟩ := S1.at k hkn
          obtain ⟨cc, pp, hix2, hlt2, f0, f1, f2, hns2, _, _⟩ := S2.at k hky
          obtain ⟨oi, ci, hiv⟩ := hns.form
          obtain ⟨oj, cj, hjv⟩ := hns2.form
          rw [hiv] at hns e1
          rw [hjv] at hns2 f1
          have hc1 : Chg (fun _ => False) wr ((wr.alloc (.cells #[.string (bs xs[k].name), .slice oi xs[k].ins.length ci, .string (bs xs[k].code)] 42)).alloc (.cells #[.string (bs (ys[k]'hky).name), .slice oj (ys[k]'hky).ins.length cj, .string (bs (ys[k]'hky).code)] 42)) := ((Chg.refl _ wr).alloc _).alloc _
          have hs1 := rsameS_any _ _ _ _ _ (hns.chg hc1 (fun _ _ h => h)) (hns2.chg hc1 (fun _ _ h => h))
          have g0 := cell_alloc' f0 (.cells #[.string (bs xs[k].name), .slice oi xs[k].ins.length ci, .string (bs xs[k].code)] 42)
          have g1 := cell_alloc' f1 (.cells #[.string (bs xs[k].name), .slice oi xs[k].ins.length ci, .string (bs xs[k].code)] 42)
          have g2 := cell_alloc' f2 (.cells #[.string (bs xs[k].name), .slice oi xs[k].ins.length ci, .string (bs xs[k].code)] 42)
          have g3 := cell_alloc' u1 (.cells #[.string (bs xs[k].name), .slice oi xs[k].ins.length ci, .string (bs xs[k].code)] 42)
          have HTK : Hid (xs[k].name = (ys[k]'hky).name → xs[k].code = (ys[k]'hky).code → xs[k].ins = (ys[k]'hky).ins → xs.take (k + 1) = ys.take (k + 1)) := fun h1 h2 h3 => by
            rw [List.take_succ_eq_append_getElem hkn, List.take_succ_eq_append_getElem hky, HT.out, act_eq h1 h2 h3]
          have HNE : Hid (xs = ys → xs[k].name = (ys[k]'hky).name ∧ xs[k].code = (ys[k]'hky).code ∧ xs[k].ins = (ys[k]'hky).ins) := fun h => by subst h; exact ⟨rfl, rfl, rfl⟩
          have HC1 := hid hc1
          have q1 := bs_eq xs[k].name (ys[k]'hky).name
          have q2 := bs_eq xs[k].code (ys[k]'hky).code
          clear S1 S2 hns hns2 hw1 hw2 hiv hjv hc1
          by_cases e3 : xs[k].name = (ys[k]'hky).name
          · rw [decide_eq_true e3] at q1
            by_cases e4 : xs[k].code = (ys[k]'hky).code
            · rw [decide_eq_true e4] at q2
              have HTK2 : Hid (xs[k].ins = (ys[k]'hky).ins → xs.take (k + 1) = ys.take (k + 1)) := HTK.out e3 e4
              clear e3 e4 HTK
              generalize bs xs[k].name = x1 at *
              generalize bs (ys[k]'hky).name = x2 at *
              generalize bs xs[k].code = x3 at *
              generalize bs (ys[k]'hky).code = x4 at *
              go_wp2_with (go_at_call 23; refine hs1.mono ?_; clear hs1; rintro e w3 ⟨B, rfl, hB, hc⟩; have HB3 := hid hB; have HC3 := hid hc; clear hB hc; cases B)
              · go_wp2_with fail
                go_ret
                exact ⟨false, rfl, ⟨fun h => (Bool.false_ne_true h).elim, fun h => absurd (HB3.out.2 (HNE.out (HN.out h).2).2.2) Bool.false_ne_true⟩, (HCC.out.trans HC1.out (fun _ _ h => h)).trans HC3.out (fun _ _ h => h)⟩
              · go_wp2_with fail
                go_roundw
                case rel => exact ⟨k + 1, by omega, by go_num, (HCH.out.trans HC1.out (fun _ _ h => h)).trans HC3.out (fun _ _ h => h), HTK2.out (HB3.out.1 (by first | exact rfl | trivial))⟩
                case measure => simp [intOf]; omega
            · rw [decide_eq_false e4] at q2
              have HX : Hid (¬ g = h) := fun e => e4 (HNE.out (HN.out e).2).2.1
              clear e3 e4 HTK hs1
              generalize bs xs[k].name = x1 at *
              generalize bs (ys[k]'hky).name = x2 at *
              generalize bs xs[k].code = x3 at *
              generalize bs (ys[k]'hky).code = x4 at *
              go_wp2_with fail
              go_ret
              exact ⟨false, rfl, ⟨fun h => (Bool.false_ne_true h).elim, fun h => absurd h HX.out⟩, HCC.out.trans HC1.out (fun _ _ h => h)⟩
          · rw [decide_eq_false e3] at q1
            have HX : Hid (¬ g = h) := fun e => e3 (HNE.out (HN.out e).2).1
            clear e3 HTK hs1
            generalize bs xs[k].name = x1 at *
            generalize bs (ys[k]'hky).name = x2 at *
            generalize bs xs[k].code = x3 at *
            generalize bs (ys[k]'hky).code = x4 at *
            go_wp2_with fail
            go_ret
            exact ⟨false, rfl, ⟨fun h => (Bool.false_ne_true h).elim, fun h => absurd h HX.out⟩, HCC.out.trans HC1.out (fun _ _ h => h)⟩
        · obtain rfl : k = xs.length := by omega
          clear S1 S2
          go_wp2_with fail
          go_ret
          refine ⟨true, rfl, ⟨fun _ => ?_, fun _ => rfl⟩, HCC.out⟩
          have := HT.out
          rw [List.take_length, HL.out, List.take_length] at this
          exact HE.out (HBB.out.1 (by first | exact rfl | trivial)) this
  · have hl' : ¬ (xs.length : Int) = ys.length := by omega
    go_enter Tryd.func12, Tryd.ntmps12
    go_wp2_with (go_at_call 23; refine he.mono ?_; clear he; rintro e w' ⟨B, rfl, hB, hc⟩; have HBB := hid hB; obtain ⟨u0, u1⟩ := HB.out _ hc; have HCW := hid hc; clear hB hc; cases B)
    all_goals go_wp2_with fail
    all_goals (go_ret; exact ⟨false, rfl, ⟨fun h => (Bool.false_ne_true h).elim, fun h => absurd (congrArg List.length (HN.out h).2) hl⟩, HC.out.trans HCW.out (fun _ _ h => h)⟩)
end Go.Proofs.YtbaipdhgjalgoaaDoor
