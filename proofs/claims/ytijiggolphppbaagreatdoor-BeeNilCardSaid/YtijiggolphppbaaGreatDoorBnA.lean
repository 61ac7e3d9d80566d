/- apiarylaw22.great walked; a plan that comes in. -/
import Derived.Test.YtijiggolphppbaaGreatDoorReC
namespace Go.Proofs.YtijiggolphppbaaGreatDoor
open Go.ChangeShapes Go.WideShapes Go.ChangeAt Go.RowKit
abbrev SrcR := List UInt8 × ByteArray
theorem NamesAt.le {w0 : World} {v : Value} {ss : List (List UInt8)} (h : NamesAt w0 v ss) : ss.length ≤ maxLen := by
  have := h.2.1
  simpa using this
theorem NamesAt.wide {w0 : World} {v : Value} {ss : List (List UInt8)} (h : NamesAt w0 v ss) : ∀ s ∈ ss, s.length ≤ maxLen := by
  intro s hs
  have := h.2.2 (bs s) (List.mem_map.2 ⟨s, hs, rfl⟩)
  rwa [bs_size] at this
theorem NamesAt.form {w : World} {v : Value} {ss : List (List UInt8)} (h : NamesAt w v ss) : ∃ oa c, v = .slice oa ss.length c := by
  rcases h.1 with ⟨h1, h2⟩ | ⟨a, cap, h1, _⟩
  · exact ⟨none, 0, by rw [h1, show ss.length = 0 by simpa using congrArg List.length h2]⟩
  · exact ⟨some a, cap, by rw [h1]; simp⟩
theorem ActsAt.form {w : World} {v : Value} {xs : List ActR} {iv : Nat → Value} (h : ActsAt w v xs iv) : ∃ oa c, v = .slice oa xs.length c := by
  rcases h.rows.form with ⟨h1, h2⟩ | ⟨a, cap, h1, _⟩
  · exact ⟨none, 0, by rw [h1, h2]⟩
  · exact ⟨some a, cap, h1⟩
theorem NamesAt.ix {w : World} {v : Value} {ss : List (List UInt8)} (h : NamesAt w v ss) (k : Nat) (hk : k < ss.length) :
    ∃ a : Addr, (∀ w, (Instr.indexAt 22 v (.int .i64 k)).run Tryz.prog w = .ok (.pointer (some a)) w) ∧ w.cell? a = some (.string (bs ss[k])) ∧ a.block < w.heap.size := by
  have := StrsAt.ix (P := Tryz.prog) h Tryz.underlying22 Tryz.sizeOf9 k (by simpa using hk)
  simpa using this
/-- The action at a place of a row: its cells, and that they stay. -/
theorem ActsAt.at {w : World} {v : Value} {xs : List ActR} {iv : Nat → Value} (h : ActsAt w v xs iv) (k : Nat) (hk : k < xs.length) :
    ∃ bb oo, (∀ w, (Instr.indexAt 23 v (.int .i64 k)).run Tryz.prog w = .ok (.pointer (some ⟨bb, oo, none⟩)) w) ∧ bb < w.heap.size ∧
      w.cell? ⟨bb, oo, none⟩ = some (.string (bs xs[k].name)) ∧ w.cell? ⟨bb, oo + 1, none⟩ = some (iv k) ∧ w.cell? ⟨bb, oo + 2, none⟩ = some (.string (bs xs[k].code)) ∧ NamesAt w (iv k) xs[k].ins ∧ xs[k].name.length ≤ maxLen ∧ xs[k].code.length ≤ maxLen := by
  obtain ⟨bb, oo, h1, h2, h3⟩ := h.rows.ix (P := Tryz.prog) Tryz.underlying23 (fun w => by kernel_rfl) (by decide) k hk
  have hg : xs.getD k noAct = xs[k] := by simp [List.getD_eq_getElem?_getD, hk]
  have hw := h.wide _ (List.getElem_mem hk)
  have hi := h.ins k hk
  rw [hg] at hi
  simp only [hg] at h2
  exact ⟨bb, oo, h1, h3, h2 0 (by decide), h2 1 (by decide), h2 2 (by decide), hi, hw.1, hw.2⟩
theorem getD_of_lt {α : Type} (l : List α) (d : α) (i : Nat) (h : i < l.length) : l.getD i d = l[i] := by
  simp [List.getD_eq_getElem?_getD, h]
def noSrc : SrcR := ([], ByteArray.empty)
def srcL (s : SrcR) : List Value := [.string (bs s.1), .string s.2]
/-- v is a slice of the sources ss. -/
structure SrcsAt (w : World) (v : Value) (ss : List SrcR) : Prop where
  rows : RowsAt w v 2 ss.length (fun i => srcL (ss.getD i noSrc))
  wide : ∀ s ∈ ss, s.1.length ≤ maxLen ∧ s.2.size ≤ maxLen
theorem SrcsAt.chg {F : Nat → Prop} {w w' : World} {v : Value} {ss : List SrcR} (h : SrcsAt w v ss) (hc : Chg F w w') (hF : ∀ k, k < w.heap.size → ¬ F k) : SrcsAt w' v ss := ⟨h.rows.chg hc hF, h.wide⟩
theorem SrcsAt.ix {w : World} {v : Value} {ss : List SrcR} (h : SrcsAt w v ss) (k : Nat) (hk : k < ss.length) :
    ∃ bb oo, (∀ w, (Instr.indexAt 26 v (.int .i64 k)).run Tryz.prog w = .ok (.pointer (some ⟨bb, oo, none⟩)) w) ∧ w.cell? ⟨bb, oo, none⟩ = some (.string (bs ss[k].1)) ∧ w.cell? ⟨bb, oo + 1, none⟩ = some (.string ss[k].2) ∧ bb < w.heap.size := by
  obtain ⟨bb, oo, h1, h2, h3⟩ := RowsAt.ix (P := Tryz.prog) h.rows Tryz.underlying26 (fun w => by kernel_rfl) (by decide) k hk
  have e := getD_of_lt ss noSrc k hk
  refine ⟨bb, oo, h1, ?_, ?_, h3⟩
  · have := h2 0 (by decide)
    rw [e] at this
    exact this
  · have := h2 1 (by decide)
    rw [e] at this
    exact this
theorem SrcsAt.form {w : World} {v : Value} {ss : List SrcR} (h : SrcsAt w v ss) : ∃ oa c, v = .slice oa ss.length c := by
  rcases h.rows.form with ⟨h1, h2⟩ | ⟨a, cap, h1, _⟩
  · exact ⟨none, 0, by rw [h1, h2]⟩
  · exact ⟨some a, cap, h1⟩
theorem rows_pick {α : Type} {w : World} {v : Value} {sz n : Nat} {C : Nat → List Value} (hR : RowsAt w v sz n C) (f : α → List Value) (no : α) (Good : α → Prop) (h : ∀ i, i < n → ∃ x, C i = f x ∧ Good x) :
    ∃ xs : List α, RowsAt w v sz xs.length (fun i => f (xs.getD i no)) ∧ ∀ x ∈ xs, Good x := by
  have hch : ∀ i, ∃ x, i < n → C i = f x ∧ Good x := fun i => by
    by_cases hi : i < n
    · obtain ⟨x, hx⟩ := h i hi
      exact ⟨x, fun _ => hx⟩
    · exact ⟨no, fun h => absurd h hi⟩
  have hL : ((List.range n).map fun i => Classical.choose (hch i)).length = n := by simp
  have hg : ∀ i, i < n → ((List.range n).map fun i => Classical.choose (hch i)).getD i no = Classical.choose (hch i) := by
    intro i hi
    simp [hi]
  refine ⟨(List.range n).map fun i => Classical.choose (hch i), ⟨?_, ?_, ?_⟩, ?_⟩
  · rw [hL]
    rcases hR.form with h | ⟨a, cap, hv, hc⟩
    · exact .inl h
    · refine .inr ⟨a, cap, hv, fun i hi j hj => ?_⟩
      rw [hg i hi, ← ((Classical.choose_spec (hch i)) hi).1]
      exact hc i hi j hj
  · rw [hL]; exact hR.le
  · intro i hi
    rw [hL] at hi
    show (f _).length = sz
    rw [hg i hi, ← ((Classical.choose_spec (hch i)) hi).1]
    exact hR.wide i hi
  · intro x hx
    obtain ⟨i, hi, rfl⟩ := List.mem_map.1 hx
    exact ((Classical.choose_spec (hch i)) (List.mem_range.1 hi)).2
section
variable {H : Type} {enc : TypeId × Value → H} {W : World} {b2 m : Nat} {u : Value} {cs : List Value} {y : DataW H × List MemPlace}
set_option maxRecDepth 100000 in
theorem srcs_of (h : DataW.trod enc Tryz.prog W b2 (fun _ => true) true m 26 [u] = some y) : ∃ ss, SrcsAt W u ss := by
  obtain ⟨n, C, hR, hC⟩ := rows_of_cell Tryz.underlying26 Tryz.underlying82 (by kernel_rfl) (by kernel_rfl) h
  obtain ⟨ss, h1, h2⟩ := rows_pick hR srcL noSrc (fun s => s.1.length ≤ maxLen ∧ s.2.size ≤ maxLen) (fun i hi => by
    have hw := hR.wide i hi
    have hf := hC i hi
    obtain ⟨u0, y0, m0, e0, r0⟩ := hf 0 _ rfl
    obtain ⟨u1, y1, m1, e1, r1⟩ := hf 1 _ rfl
    obtain ⟨ys, n', _, _, hlen, hyl, hfs⟩ := DataW.trod_struct Tryz.underlying74 r0
    have q0 := hfs 0 _ rfl
    have hq : ys[0]? = some (ys[0]'(by rw [hyl]; decide)) := List.getElem?_eq_getElem _
    rw [hq] at q0
    obtain ⟨k0, g0, _, w0⟩ := DataW.trod_string Tryz.underlying9 q0
    obtain ⟨k1, g1, _, w1⟩ := DataW.trod_string Tryz.underlying9 r1
    have hct : Tryz.prog.cellsOf 9 = 1 := by kernel_rfl
    have g0' : ([u0].drop 0).take (Tryz.prog.cellsOf 9) = [.string k0] := g0
    rw [hct] at g0'
    simp only [List.drop_zero, List.take_succ_cons, List.take_zero, List.cons.injEq, and_true] at g0' g1
    subst g0' g1
    refine ⟨(k0.data.toList, k1), ?_, by simpa using w0, w1⟩
    unfold srcL
    simp only [bs_list]
    generalize C i = L at *
    match L, hw with
    | [c0, c1], _ =>
      simp at e0 e1
      subst e0 e1
      rfl)
  exact ⟨ss, ⟨h1, h2⟩⟩
end
/-- v is a build with its sources. -/
def PlanAt (w : World) (v : Value) (g : GrR) (srcs : List SrcR) : Prop := ∃ sv av lv iv, v = .agg #[sv, av, lv] ∧ NamesAt w sv g.srcs ∧ ActsAt w av g.acts iv ∧ SrcsAt w lv srcs
theorem PlanAt.chg {F : Nat → Prop} {w w' : World} {v : Value} {g : GrR} {srcs : List SrcR} (h : PlanAt w v g srcs) (hc : Chg F w w') (hF : ∀ k, k < w.heap.size → ¬ F k) : PlanAt w' v g srcs := by
  obtain ⟨sv, av, lv, iv, hv, h1, h2, h3⟩ := h
  exact ⟨sv, av, lv, iv, hv, h1.chg hc hF, h2.chg hc hF, h3.chg hc hF⟩
theorem PlanAt.form {w : World} {v : Value} {g : GrR} {srcs : List SrcR} (h : PlanAt w v g srcs) : ∃ oa c ob d os cs iv, v = .agg #[.slice oa g.srcs.length c, .slice ob g.acts.length d, .slice os srcs.length cs] ∧ NamesAt w (.slice oa g.srcs.length c) g.srcs ∧ ActsAt w (.slice ob g.acts.length d) g.acts iv ∧ SrcsAt w (.slice os srcs.length cs) srcs := by
  obtain ⟨sv, av, lv, iv, rfl, h1, h2, h3⟩ := h
  obtain ⟨oa, c, rfl⟩ := h1.form
  obtain ⟨ob, d, rfl⟩ := h2.form
  obtain ⟨os, cs, rfl⟩ := h3.form
  exact ⟨oa, c, ob, d, os, cs, iv, rfl, h1, h2, h3⟩
/-- It answers, and leaves all as it was. -/
def SaysB (w : World) (e : Ending) (w' : World) : Prop := ∃ B : Bool, e = .returned (.bool B) ∧ Chg (fun _ => False) w w'
set_option maxRecDepth 100000 in
set_option maxHeartbeats 4000000 in
theorem great_any (g : GrR) (srcs : List SrcR) (v : Value) (w : World) (hp : PlanAt w v g srcs) : Calls Tryz.prog 5 #[v] w (SaysB w) := by
  obtain ⟨oa, c, ob, d, os, cs, iv, rfl, hs, ha, hss⟩ := hp.form
  have hmn := hss.rows.le
  have hms := hs.le
  have hma := ha.rows.le
  unfold maxLen at hms hma hmn
  have hC1 : Chg (fun _ => False) w (w.alloc (.cells #[.slice oa g.srcs.length c, .slice ob g.acts.length d, .slice os srcs.length cs] 28)) := (Chg.refl _ w).alloc _
  have k1 := heap_alloc_new' w (.cells #[.slice oa g.srcs.length c, .slice ob g.acts.length d, .slice os srcs.length cs] 28)
  have HC1 := hid hC1
  have HK := hid k1
  have HS := hid hs
  have HA := hid ha
  have HSS := hid hss
  clear hp hs ha hC1 k1 hss
  go_enter Tryz.func5, Tryz.ntmps5
  by_cases h30 : (30 : Int) < (g.srcs.length : Int)
  · go_wp2_with fail
    go_ret
    exact ⟨true, rfl, HC1.out⟩
  have d30 : decide ((30 : Int) < (g.srcs.length : Int)) = false := decide_eq_false h30
  by_cases h31 : (30 : Int) < (g.acts.length : Int)
  · go_wp2_with fail
    go_ret
    exact ⟨true, rfl, HC1.out⟩
  have d31 : decide ((30 : Int) < (g.acts.length : Int)) = false := decide_eq_false h31
  by_cases h32 : (30 : Int) < (srcs.length : Int)
  · go_wp2_with fail
    go_ret
    exact ⟨true, rfl, HC1.out⟩
  have d32 : decide ((30 : Int) < (srcs.length : Int)) = false := decide_eq_false h32
  go_wp2_with fail
  clear d30 d31 d32
  generalize w.alloc (.cells #[.slice oa g.srcs.length c, .slice ob g.acts.length d, .slice os srcs.length cs] 28) = W1 at *
  have c0 := cell_of HK.out 0
  have c1 := cell_of HK.out 1
  have c2 := cell_of HK.out 2
  simp at c0 c1 c2
  go_loopw [3] (fun i wr => ∃ k : Nat, k ≤ g.srcs.length ∧ i = .int .i64 k ∧ wr = W1) (fun i _ => g.srcs.length - (intOf i).toNat)
  case atStart => exact ⟨0, Nat.zero_le _, rfl, rfl⟩
  case round =>
    obtain ⟨k, hk, rfl, rfl⟩ := hrel
    by_cases hkn : k < g.srcs.length
    · have hkn' : (k : Int) < g.srcs.length := by omega
      obtain ⟨ad, hix, hadc, hadb⟩ := (HS.out.chg HC1.out (fun _ _ h => h)).ix k hkn
      generalize bs g.srcs[k] = x at *
      by_cases h200 : (200 : Int) < (x.size : Int)
      · go_wp2_with fail
        go_ret
        exact ⟨true, rfl, HC1.out⟩
      · go_wp2_with fail
        go_roundw
        case rel => exact ⟨k + 1, by omega, by go_num, by first | rfl | trivial⟩
        case measure => simp [intOf]; omega
    · obtain rfl : k = g.srcs.length := by omega
      go_wp2_with fail
      go_loopw [4] (fun i wr2 => ∃ k : Nat, k ≤ srcs.length ∧ i = .int .i64 k ∧ wr2 = wr) (fun i _ => srcs.length - (intOf i).toNat)
      case atStart => exact ⟨0, Nat.zero_le _, rfl, rfl⟩
      case round =>
        obtain ⟨k, hk, rfl, rfl⟩ := hrel
        by_cases hkn : k < srcs.length
        · have hkn' : (k : Int) < srcs.length := by omega
          obtain ⟨bb, oo, hix, e0, e1, hlt⟩ := (HSS.out.chg HC1.out (fun _ _ h => h)).ix k hkn
          generalize bs srcs[k].1 = x at *
          generalize srcs[k].2 = y at *
          by_cases h200 : (200 : Int) < (x.size : Int)
          · go_wp2_with fail
            go_ret
            exact ⟨true, rfl, HC1.out⟩
          · have d1 : decide ((200 : Int) < (x.size : Int)) = false := decide_eq_false h200
            by_cases h1000 : (1000 : Int) < (y.size : Int)
            · go_wp2_with fail
              go_ret
              exact ⟨true, rfl, HC1.out⟩
            · have d2 : decide ((1000 : Int) < (y.size : Int)) = false := decide_eq_false h1000
              go_wp2_with fail
              go_roundw
              case rel => exact ⟨k + 1, by omega, by go_num, by first | rfl | trivial⟩
              case measure => simp [intOf]; omega
        · obtain rfl : k = srcs.length := by omega
          go_wp2_with fail
          obtain ⟨wo, hwo⟩ : ∃ wo, wo = wr := ⟨_, rfl⟩
          rw [← hwo] at HC1 HK c0 c1 c2 ⊢
          clear hwo
          go_loopw [5] (fun i wr => ∃ k : Nat, k ≤ g.acts.length ∧ i = .int .i64 k ∧ Chg (fun _ => False) wo wr) (fun i _ => g.acts.length - (intOf i).toNat)
          case atStart => exact ⟨0, Nat.zero_le _, rfl, Chg.refl _ _⟩
          case round =>
            obtain ⟨k, hk, rfl, hch⟩ := hrel
            have e0 := hch.cell c0 (fun h => h)
            have e1 := hch.cell c1 (fun h => h)
            have HCH := hid hch
            have HW := hid (HC1.out.trans hch (fun _ _ h => h))
            clear hch
            by_cases hkn : k < g.acts.length
            · have hkn' : (k : Int) < g.acts.length := by omega
              obtain ⟨bb, oo, hix, hlt, p0, p1, p2, hns, hw1, hw2⟩ := (HA.out.chg HW.out (fun _ _ h => h)).at k hkn
              obtain ⟨oi, ci, hiv⟩ := hns.form
              rw [hiv] at p1 hns
              have hli := hns.le
              unfold maxLen at hli
              clear hiv hw1 hw2
              have HNS := hid hns
              clear hns
              generalize bs g.acts[k].name = x1 at *
              generalize bs g.acts[k].code = x2 at *
              generalize g.acts[k].ins = ins at *
              by_cases t1 : (200 : Int) < (x1.size : Int)
              · go_wp2_with fail
                go_ret
                exact ⟨true, rfl, HW.out.alloc _⟩
              have d1 : decide ((200 : Int) < (x1.size : Int)) = false := decide_eq_false t1
              by_cases t2 : (200 : Int) < (x2.size : Int)
              · go_wp2_with fail
                go_ret
                exact ⟨true, rfl, HW.out.alloc _⟩
              have d2 : decide ((200 : Int) < (x2.size : Int)) = false := decide_eq_false t2
              by_cases t3 : (10 : Int) < (ins.length : Int)
              · go_wp2_with fail
                go_ret
                exact ⟨true, rfl, HW.out.alloc _⟩
              have d3 : decide ((10 : Int) < (ins.length : Int)) = false := decide_eq_false t3
              have hwa : Chg (fun _ => False) wr (wr.alloc (.cells #[.string x1, .slice oi ins.length ci, .string x2] 84)) := (Chg.refl _ wr).alloc _
              have kA := heap_alloc_new' wr (.cells #[.string x1, .slice oi ins.length ci, .string x2] 84)
              have HN3 := hid (HNS.out.chg hwa (fun _ _ h => h))
              have HWA := hid hwa
              have HKA := hid kA
              clear hwa kA
              go_wp2_with fail
              generalize wr.alloc (.cells #[.string x1, .slice oi ins.length ci, .string x2] 84) = wa at *
              obtain ⟨A6, hA6⟩ : ∃ A6, A6 = wr.heap.size := ⟨_, rfl⟩
              rw [← hA6] at HKA ⊢
              clear hA6
              have r1 : wa.cell? ⟨A6, 1, none⟩ = some (.slice oi ins.length ci) := (cell_of HKA.out 1).trans rfl
              have HWW := hid (HW.out.trans HWA.out (fun _ _ h => h))
              have HCC := hid (HCH.out.trans HWA.out (fun _ _ h => h))
              go_loopw [7] (fun i wb => ∃ q : Nat, q ≤ ins.length ∧ i = .int .i64 q ∧ wb = wa) (fun i _ => ins.length - (intOf i).toNat)
              case atStart => exact ⟨0, Nat.zero_le _, rfl, rfl⟩
              case round =>
                obtain ⟨q, hq, rfl, rfl⟩ := hrel
                by_cases hqn : q < ins.length
                · have hqn' : (q : Int) < ins.length := by omega
                  obtain ⟨ad3, hix3, hadc3, hadb3⟩ := HN3.out.ix q hqn
                  generalize bs ins[q] = x3 at *
                  by_cases t4 : (200 : Int) < (x3.size : Int)
                  · go_wp2_with fail
                    go_ret
                    exact ⟨true, rfl, HWW.out⟩
                  · go_wp2_with fail
                    go_roundw
                    case rel => exact ⟨q + 1, by omega, by go_num, by first | rfl | trivial⟩
                    case measure => simp [intOf]; omega
                · obtain rfl : q = ins.length := by omega
                  go_wp2_with fail
                  go_roundw
                  case rel => exact ⟨k + 1, by omega, by go_num, HCC.out⟩
                  case measure => simp [intOf]; omega
            · obtain rfl : k = g.acts.length := by omega
              go_wp2_with fail
              go_ret
              exact ⟨false, rfl, HW.out⟩
section
variable {H : Type} {enc : TypeId × Value → H} {W : World} {base b2 : Nat} {v : Value} {d : DataW H} {p : List MemPlace}
set_option maxRecDepth 100000 in
theorem gr_cells {m0 : Nat} {sv av : Value} {y : DataW H × List MemPlace} (hf : DataW.trod enc Tryz.prog W b2 (fun _ => true) true m0 25 [sv, av] = some y) : ∃ (g : GrR) (iv : Nat → Value), NamesAt W sv g.srcs ∧ ActsAt W av g.acts iv := by
  obtain ⟨ys, n', _, _, hlen, hyl, hfs⟩ := DataW.trod_struct Tryz.underlying25 hf
  have q0 := hfs 0 _ rfl
  have q1 := hfs 1 _ rfl
  have hq : ys[0]? = some (ys[0]'(by rw [hyl]; decide)) := List.getElem?_eq_getElem _
  have hq1 : ys[1]? = some (ys[1]'(by rw [hyl]; decide)) := List.getElem?_eq_getElem _
  rw [hq] at q0
  rw [hq1] at q1
  have hc0 : Tryz.prog.cellsOf 22 = 1 := by kernel_rfl
  have hc1 : Tryz.prog.cellsOf 23 = 1 := by kernel_rfl
  have q0' : DataW.trod enc Tryz.prog W b2 (fun _ => true) true n' 22 (([sv, av].drop 0).take (Tryz.prog.cellsOf 22)) = some (ys[0]'(by rw [hyl]; decide)) := q0
  have q1' : DataW.trod enc Tryz.prog W b2 (fun _ => true) true n' 23 (([sv, av].drop 1).take (Tryz.prog.cellsOf 23)) = some (ys[1]'(by rw [hyl]; decide)) := q1
  rw [hc0] at q0'
  rw [hc1] at q1'
  obtain ⟨ss, S⟩ := strs_of_cell Tryz.underlying22 Tryz.underlying9 (by kernel_rfl) q0'
  obtain ⟨xs, iv, A⟩ := acts_of q1'
  exact ⟨⟨ss.map (·.data.toList), xs⟩, iv, namesAt_of S, A⟩
set_option maxRecDepth 100000 in
theorem plan_in (hval : Value.okWide Tryz.prog W .any base 28 v) (h : DataW.Trod enc Tryz.prog W b2 (fun _ => true) true 28 v d p) : ∃ g ss, PlanAt W v g ss := by
  obtain ⟨cs, rfl, hsz⟩ := okWide_struct Tryz.underlying28 hval
  have hct : Tryz.prog.cellsOf 28 = 3 := by kernel_rfl
  rw [hct] at hsz
  obtain ⟨fuel, hf⟩ := h
  obtain ⟨ys, n', _, _, hlen, hyl, hfs⟩ := DataW.trod_struct Tryz.underlying28 hf
  have q0 := hfs 0 _ rfl
  have q1 := hfs 1 _ rfl
  have hq : ys[0]? = some (ys[0]'(by rw [hyl]; decide)) := List.getElem?_eq_getElem _
  have hq1 : ys[1]? = some (ys[1]'(by rw [hyl]; decide)) := List.getElem?_eq_getElem _
  rw [hq] at q0
  rw [hq1] at q1
  have hc0 : Tryz.prog.cellsOf 25 = 2 := by kernel_rfl
  have hc1 : Tryz.prog.cellsOf 26 = 1 := by kernel_rfl
  obtain ⟨sv, av, lv, rfl⟩ : ∃ sv av lv, cs = #[sv, av, lv] := by
    obtain ⟨l⟩ := cs
    match l, hsz with
    | [a, b, c], _ => exact ⟨a, b, c, rfl⟩
  have q0' : DataW.trod enc Tryz.prog W b2 (fun _ => true) true n' 25 (([sv, av, lv].drop 0).take (Tryz.prog.cellsOf 25)) = some (ys[0]'(by rw [hyl]; decide)) := q0
  have q1' : DataW.trod enc Tryz.prog W b2 (fun _ => true) true n' 26 (([sv, av, lv].drop 2).take (Tryz.prog.cellsOf 26)) = some (ys[1]'(by rw [hyl]; decide)) := by
    have e : Tryz.prog.cellsOf 25 = 2 := hc0
    first
      | exact q1
      | (simp only [e] at q1; exact q1)
  rw [hc0] at q0'
  rw [hc1] at q1'
  obtain ⟨g, iv, h1, h2⟩ := gr_cells q0'
  obtain ⟨ss, S⟩ := srcs_of q1'
  exact ⟨g, ss, sv, av, lv, iv, rfl, h1, h2, S⟩
end
end Go.Proofs.YtijiggolphppbaaGreatDoor
