/- Texts of the proof, one behind the other: apiarylaw21.great walked; What comes in for layer 21, read: a plan; A build under way, in plain words: what is there, what follows of it, which action is next. No program in sight; What a build under way comes to when each job is given what its code makes; what a job stands on: plain law. No program in sight; Small laws for the bakers: strings, digests, takes, apiaryref09.Same; A baker's block and what it holds; the baker's small functions walked; slices.IndexFunc, slices.ContainsFunc at the baker's closures; The baker's settle walked; A job's cells; The baker's Next walked; The baker's Give, Stop, Results walked. -/
import Derived.Test.YthglfmacjoecgaaGreatDoorMx12
import Derived.Test.YthglfmacjoecgaaGreatDoorMx06
import Derived.Test.YthglfmacjoecgaaGreatDoorMx14
import Derived.Test.YthglfmacjoecgaaGreatDoorMx08
import Derived.Test.YthglfmacjoecgaaGreatDoorMx09
import Derived.Test.YthglfmacjoecgaaGreatDoorMx07
import Derived.Deep.QuietTactic
import Derived.BigQuiet
import Derived.Test.YthglfmacjoecgaaGreatDoorMx05
import Derived.StillTailTactics
import Derived.IntWalk
import Derived.Deep.RegionLaw
namespace Go.Proofs.YthglfmacjoecgaaGreatDoor
open Go.RowKit

/-- v is a build with its sources. -/
def PlanAt (w : World) (v : Value) (g : GrR) (srcs : List SrcR) : Prop := ∃ sv av lv iv, v = .agg #[sv, av, lv] ∧ NamesAt w sv g.srcs ∧ ActsAt w av g.acts iv ∧ SrcsAt w lv srcs
theorem PlanAt.chg {F : Nat → Prop} {w w' : World} {v : Value} {g : GrR} {srcs : List SrcR} (h : PlanAt w v g srcs) (hc : Chg F w w') (hF : ∀ k, k < w.heap.size → ¬ F k) : PlanAt w' v g srcs := by
  obtain ⟨sv, av, lv, iv, hv, h1, h2, h3⟩ := h
  exact ⟨sv, av, lv, iv, hv, h1.chg hc hF, h2.chg hc hF, h3.chg hc hF⟩
theorem PlanAt.form {w : World} {v : Value} {g : GrR} {srcs : List SrcR} (h : PlanAt w v g srcs) : ∃ oa c ob d os cs iv, v = .agg #[.slice oa g.srcs.length c, .slice ob g.acts.length d, .slice os srcs.length cs] ∧ NamesAt w (.slice oa g.srcs.length c) g.srcs ∧ ActsAt w (.slice ob g.acts.length d) g.acts iv ∧ SrcsAt w (.slice os srcs.length cs) srcs := by
  obtain ⟨sv, av, lv, iv, rfl, h1, h2, h3⟩ := h
  obtain ⟨oa, c, rfl⟩ := h1.form
  obtain ⟨ob, d, rfl⟩ := h2.form
  obtain ⟨os, cs, rfl⟩ := h3.form
  exact ⟨oa, c, ob, d, os, cs, iv, rfl, h1, h2, h3⟩
/-- It answers, and leaves all as it was. -/
def SaysB (w : World) (e : Ending) (w' : World) : Prop := ∃ B : Bool, e = .returned (.bool B) ∧ Chg (fun _ => False) w w'
set_option maxRecDepth 100000 in
set_option maxHeartbeats 4000000 in
theorem bgreat_any (g : GrR) (srcs : List SrcR) (v : Value) (w : World) (hp : PlanAt w v g srcs) : Calls Tryz.prog 38 #[v] w (SaysB w) := by
  obtain ⟨oa, c, ob, d, os, cs, iv, rfl, hs, ha, hss⟩ := hp.form
  have hmn := hss.rows.le
  have hms := hs.le
  have hma := ha.rows.le
  unfold maxLen at hms hma hmn
  have hC1 : Chg (fun _ => False) w (w.alloc (.cells #[.slice oa g.srcs.length c, .slice ob g.acts.length d, .slice os srcs.length cs] 79)) := (Chg.refl _ w).alloc _
  have k1 := heap_alloc_new' w (.cells #[.slice oa g.srcs.length c, .slice ob g.acts.length d, .slice os srcs.length cs] 79)
  have HC1 := hid hC1
  have HK := hid k1
  have HS := hid hs
  have HA := hid ha
  have HSS := hid hss
  clear hp hs ha hC1 k1 hss
  go_enter Tryz.func38, Tryz.ntmps38
  by_cases h30 : (30 : Int) < (g.srcs.length : Int)
  · go_wp2_with fail
    go_ret
    exact ⟨true, rfl, HC1.out⟩
  have d30 : decide ((30 : Int) < (g.srcs.length : Int)) = false := decide_eq_false h30
  by_cases h31 : (30 : Int) < (g.acts.length : Int)
  · go_wp2_with fail
    go_ret
    exact ⟨true, rfl, HC1.out⟩
  have d31 : decide ((30 : Int) < (g.acts.length : Int)) = false := decide_eq_false h31
  by_cases h32 : (30 : Int) < (srcs.length : Int)
  · go_wp2_with fail
    go_ret
    exact ⟨true, rfl, HC1.out⟩
  have d32 : decide ((30 : Int) < (srcs.length : Int)) = false := decide_eq_false h32
  go_wp2_with fail
  clear d30 d31 d32
  generalize w.alloc (.cells #[.slice oa g.srcs.length c, .slice ob g.acts.length d, .slice os srcs.length cs] 79) = W1 at *
  have c0 := cell_of HK.out 0
  have c1 := cell_of HK.out 1
  have c2 := cell_of HK.out 2
  simp at c0 c1 c2
  go_loopw [3] (fun i wr => ∃ k : Nat, k ≤ g.srcs.length ∧ i = .int .i64 k ∧ wr = W1) (fun i _ => g.srcs.length - (intOf i).toNat)
  case atStart => exact ⟨0, Nat.zero_le _, rfl, rfl⟩
  case round =>
    obtain ⟨k, hk, rfl, rfl⟩ := hrel
    by_cases hkn : k < g.srcs.length
    · have hkn' : (k : Int) < g.srcs.length := by omega
      obtain ⟨ad, hix, hadc, hadb⟩ := (HS.out.chg HC1.out (fun _ _ h => h)).ix k hkn
      generalize bs g.srcs[k] = x at *
      by_cases h200 : (200 : Int) < (x.size : Int)
      · go_wp2_with fail
        go_ret
        exact ⟨true, rfl, HC1.out⟩
      · go_wp2_with fail
        go_roundw
        case rel => exact ⟨k + 1, by omega, by go_num, by first | rfl | trivial⟩
        case measure => simp [intOf]; omega
    · obtain rfl : k = g.srcs.length := by omega
      go_wp2_with fail
      go_loopw [4] (fun i wr2 => ∃ k : Nat, k ≤ srcs.length ∧ i = .int .i64 k ∧ wr2 = wr) (fun i _ => srcs.length - (intOf i).toNat)
      case atStart => exact ⟨0, Nat.zero_le _, rfl, rfl⟩
      case round =>
        obtain ⟨k, hk, rfl, rfl⟩ := hrel
        by_cases hkn : k < srcs.length
        · have hkn' : (k : Int) < srcs.length := by omega
          obtain ⟨bb, oo, hix, e0, e1, hlt⟩ := (HSS.out.chg HC1.out (fun _ _ h => h)).ix k hkn
          generalize bs srcs[k].1 = x at *
          generalize srcs[k].2 = y at *
          by_cases h200 : (200 : Int) < (x.size : Int)
          · go_wp2_with fail
            go_ret
            exact ⟨true, rfl, HC1.out⟩
          · have d1 : decide ((200 : Int) < (x.size : Int)) = false := decide_eq_false h200
            by_cases h1000 : (1000 : Int) < (y.size : Int)
            · go_wp2_with fail
              go_ret
              exact ⟨true, rfl, HC1.out⟩
            · have d2 : decide ((1000 : Int) < (y.size : Int)) = false := decide_eq_false h1000
              go_wp2_with fail
              go_roundw
              case rel => exact ⟨k + 1, by omega, by go_num, by first | rfl | trivial⟩
              case measure => simp [intOf]; omega
        · obtain rfl : k = srcs.length := by omega
          go_wp2_with fail
          obtain ⟨wo, hwo⟩ : ∃ wo, wo = wr := ⟨_, rfl⟩
          rw [← hwo] at HC1 HK c0 c1 c2 ⊢
          clear hwo
          go_loopw [5] (fun i wr => ∃ k : Nat, k ≤ g.acts.length ∧ i = .int .i64 k ∧ Chg (fun _ => False) wo wr) (fun i _ => g.acts.length - (intOf i).toNat)
          case atStart => exact ⟨0, Nat.zero_le _, rfl, Chg.refl _ _⟩
          case round =>
            obtain ⟨k, hk, rfl, hch⟩ := hrel
            have e0 := hch.cell c0 (fun h => h)
            have e1 := hch.cell c1 (fun h => h)
            have HCH := hid hch
            have HW := hid (HC1.out.trans hch (fun _ _ h => h))
            clear hch
            by_cases hkn : k < g.acts.length
            · have hkn' : (k : Int) < g.acts.length := by omega
              obtain ⟨bb, oo, hix, hlt, p0, p1, p2, hns, hw1, hw2⟩ := (HA.out.chg HW.out (fun _ _ h => h)).at k hkn
              obtain ⟨oi, ci, hiv⟩ := hns.form
              rw [hiv] at p1 hns
              have hli := hns.le
              unfold maxLen at hli
              clear hiv hw1 hw2
              have HNS := hid hns
              clear hns
              generalize bs g.acts[k].name = x1 at *
              generalize bs g.acts[k].code = x2 at *
              generalize g.acts[k].ins = ins at *
              by_cases t1 : (200 : Int) < (x1.size : Int)
              · go_wp2_with fail
                go_ret
                exact ⟨true, rfl, HW.out.alloc _⟩
              have d1 : decide ((200 : Int) < (x1.size : Int)) = false := decide_eq_false t1
              by_cases t2 : (200 : Int) < (x2.size : Int)
              · go_wp2_with fail
                go_ret
                exact ⟨true, rfl, HW.out.alloc _⟩
              have d2 : decide ((200 : Int) < (x2.size : Int)) = false := decide_eq_false t2
              by_cases t3 : (10 : Int) < (ins.length : Int)
              · go_wp2_with fail
                go_ret
                exact ⟨true, rfl, HW.out.alloc _⟩
              have d3 : decide ((10 : Int) < (ins.length : Int)) = false := decide_eq_false t3
              have hwa : Chg (fun _ => False) wr (wr.alloc (.cells #[.string x1, .slice oi ins.length ci, .string x2] 43)) := (Chg.refl _ wr).alloc _
              have kA := heap_alloc_new' wr (.cells #[.string x1, .slice oi ins.length ci, .string x2] 43)
              have HN3 := hid (HNS.out.chg hwa (fun _ _ h => h))
              have HWA := hid hwa
              have HKA := hid kA
              clear hwa kA
              go_wp2_with fail
              generalize wr.alloc (.cells #[.string x1, .slice oi ins.length ci, .string x2] 43) = wa at *
              obtain ⟨A6, hA6⟩ : ∃ A6, A6 = wr.heap.size := ⟨_, rfl⟩
              rw [← hA6] at HKA ⊢
              clear hA6
              have r1 : wa.cell? ⟨A6, 1, none⟩ = some (.slice oi ins.length ci) := (cell_of HKA.out 1).trans rfl
              have HWW := hid (HW.out.trans HWA.out (fun _ _ h => h))
              have HCC := hid (HCH.out.trans HWA.out (fun _ _ h => h))
              go_loopw [7] (fun i wb => ∃ q : Nat, q ≤ ins.length ∧ i = .int .i64 q ∧ wb = wa) (fun i _ => ins.length - (intOf i).toNat)
              case atStart => exact ⟨0, Nat.zero_le _, rfl, rfl⟩
              case round =>
                obtain ⟨q, hq, rfl, rfl⟩ := hrel
                by_cases hqn : q < ins.length
                · have hqn' : (q : Int) < ins.length := by omega
                  obtain ⟨ad3, hix3, hadc3, hadb3⟩ := HN3.out.ix q hqn
                  generalize bs ins[q] = x3 at *
                  by_cases t4 : (200 : Int) < (x3.size : Int)
                  · go_wp2_with fail
                    go_ret
                    exact ⟨true, rfl, HWW.out⟩
                  · go_wp2_with fail
                    go_roundw
                    case rel => exact ⟨q + 1, by omega, by go_num, by first | rfl | trivial⟩
                    case measure => simp [intOf]; omega
                · obtain rfl : q = ins.length := by omega
                  go_wp2_with fail
                  go_roundw
                  case rel => exact ⟨k + 1, by omega, by go_num, HCC.out⟩
                  case measure => simp [intOf]; omega
            · obtain rfl : k = g.acts.length := by omega
              go_wp2_with fail
              go_ret
              exact ⟨false, rfl, HW.out⟩
end Go.Proofs.YthglfmacjoecgaaGreatDoor
namespace Go.Proofs.YthglfmacjoecgaaGreatDoor
open Go.ChangeShapes Go.WideShapes Go.ChangeAt Go.RowKit
section
variable {H : Type} {enc : TypeId × Value → H} {W : World} {base b2 : Nat} {v : Value} {d : DataW H} {p : List MemPlace}
set_option maxRecDepth 100000 in
theorem gr_cells {m0 : Nat} {sv av : Value} {y : DataW H × List MemPlace} (hf : DataW.trod enc Tryz.prog W b2 (fun _ => true) true m0 25 [sv, av] = some y) : ∃ (g : GrR) (iv : Nat → Value), NamesAt W sv g.srcs ∧ ActsAt W av g.acts iv := by
  obtain ⟨ys, n', _, _, hlen, hyl, hfs⟩ := DataW.trod_struct Tryz.underlying25 hf
  have q0 := hfs 0 _ rfl
  have q1 := hfs 1 _ rfl
  have hq : ys[0]? = some (ys[0]'(by rw [hyl]; decide)) := List.getElem?_eq_getElem _
  have hq1 : ys[1]? = some (ys[1]'(by rw [hyl]; decide)) := List.getElem?_eq_getElem _
  rw [hq] at q0
  rw [hq1] at q1
  have hc0 : Tryz.prog.cellsOf 22 = 1 := by kernel_rfl
  have hc1 : Tryz.prog.cellsOf 23 = 1 := by kernel_rfl
  have q0' : DataW.trod enc Tryz.prog W b2 (fun _ => true) true n' 22 (([sv, av].drop 0).take (Tryz.prog.cellsOf 22)) = some (ys[0]'(by rw [hyl]; decide)) := q0
  have q1' : DataW.trod enc Tryz.prog W b2 (fun _ => true) true n' 23 (([sv, av].drop 1).take (Tryz.prog.cellsOf 23)) = some (ys[1]'(by rw [hyl]; decide)) := q1
  rw [hc0] at q0'
  rw [hc1] at q1'
  obtain ⟨ss, S⟩ := strs_of_cell Tryz.underlying22 Tryz.underlying9 (by kernel_rfl) q0'
  obtain ⟨xs, iv, A⟩ := acts_of q1'
  exact ⟨⟨ss.map (·.data.toList), xs⟩, iv, namesAt_of S, A⟩
set_option maxRecDepth 100000 in
theorem plan_in (hval : Value.okWide Tryz.prog W .any base 79 v) (h : DataW.Trod enc Tryz.prog W b2 (fun _ => true) true 79 v d p) : ∃ g ss, PlanAt W v g ss := by
  obtain ⟨cs, rfl, hsz⟩ := okWide_struct Tryz.underlying79 hval
  have hct : Tryz.prog.cellsOf 79 = 3 := by kernel_rfl
  rw [hct] at hsz
  obtain ⟨fuel, hf⟩ := h
  obtain ⟨ys, n', _, _, hlen, hyl, hfs⟩ := DataW.trod_struct Tryz.underlying79 hf
  have q0 := hfs 0 _ rfl
  have q1 := hfs 1 _ rfl
  have hq : ys[0]? = some (ys[0]'(by rw [hyl]; decide)) := List.getElem?_eq_getElem _
  have hq1 : ys[1]? = some (ys[1]'(by rw [hyl]; decide)) := List.getElem?_eq_getElem _
  rw [hq] at q0
  rw [hq1] at q1
  have hc0 : Tryz.prog.cellsOf 25 = 2 := by kernel_rfl
  have hc1 : Tryz.prog.cellsOf 26 = 1 := by kernel_rfl
  obtain ⟨sv, av, lv, rfl⟩ : ∃ sv av lv, cs = #[sv, av, lv] := by
    obtain ⟨l⟩ := cs
    match l, hsz with
    | [a, b, c], _ => exact ⟨a, b, c, rfl⟩
  have q0' : DataW.trod enc Tryz.prog W b2 (fun _ => true) true n' 25 (([sv, av, lv].drop 0).take (Tryz.prog.cellsOf 25)) = some (ys[0]'(by rw [hyl]; decide)) := q0
  have q1' : DataW.trod enc Tryz.prog W b2 (fun _ => true) true n' 26 (([sv, av, lv].drop 2).take (Tryz.prog.cellsOf 26)) = some (ys[1]'(by rw [hyl]; decide)) := by
    have e : Tryz.prog.cellsOf 25 = 2 := hc0
    first
      | exact q1
      | (simp only [e] at q1; exact q1)
  rw [hc0] at q0'
  rw [hc1] at q1'
  obtain ⟨g, iv, h1, h2⟩ := gr_cells q0'
  obtain ⟨ss, S⟩ := srcs_of q1'
  exact ⟨g, ss, sv, av, lv, iv, rfl, h1, h2, S⟩
end
end Go.Proofs.YthglfmacjoecgaaGreatDoor
namespace Go.Proofs.YthglfmacjoecgaaGreatDoor
open Go

abbrev ThT := List (Nm × ResR)
def depR : ResR := (34, ByteArray.empty)
/-- Whether something lies under a name; whether that is no result. -/
def isT (t : ThT) (s : Nm) : Bool := (lval s t).isSome
def failT (t : ThT) (s : Nm) : Bool := decide ((valT t s).1 ≠ 0)
def failI (g : GrR) (t : ThT) (i : Nat) : Bool := (insAt g i).any (failT t)
def settle1 (g : GrR) (t : ThT) (i : Nat) : ThT := if failI g t i then lput (nameAt g i) depR t else t
def settleL (g : GrR) (l : List Nat) (t : ThT) : ThT := l.foldl (settle1 g) t
def readyT (g : GrR) (t : ThT) (i : Nat) : Bool := !isT t (nameAt g i) && (insAt g i).all (isT t)

/-- A build under way. -/
structure BkS where
  g : GrR
  st : Nat
  ord : List Nat
  t : ThT
def BkS.new : BkS := ⟨noGr, 0, [], []⟩
def BkS.wrong : BkS := ⟨noGr, 4, [], []⟩
def BkS.settle (s : BkS) : BkS := ⟨s.g, if (settleL s.g s.ord s.t).length = s.g.srcs.length + s.g.acts.length then 2 else s.st, s.ord, settleL s.g s.ord s.t⟩
def BkS.begun (g : GrR) (srcs : List SrcR) : BkS := BkS.settle ⟨g, 1, orderR g, srcT srcs⟩
def BkS.start (g : GrR) (srcs : List SrcR) : BkS := if checkS g srcs = 0 then BkS.begun g srcs else BkS.wrong
def BkS.next (s : BkS) : Option Nat := if s.st = 1 then s.ord.find? (readyT s.g s.t) else none
def resOK (r : ResR) : Bool := decide (r.2.size ≤ 512) && (decide (r.1 = 0) || decide (r.2 = ByteArray.empty))
def BkS.put (s : BkS) (i : Nat) (r : ResR) : BkS := BkS.settle ⟨s.g, s.st, s.ord, lput (nameAt s.g i) r s.t⟩
def BkS.give (s : BkS) (place : Int) (r : ResR) : Nat × BkS := match s.next with
  | none => (12, s)
  | some i => if (i : Int) = place then (if resOK r then (0, s.put i r) else (1, s)) else (12, s)
def BkS.stop (s : BkS) : BkS := if s.st = 1 then ⟨s.g, 3, s.ord, s.t⟩ else s
def resL2 (_g : GrR) (t : ThT) (l : List ActR) : List BltR := (l.filter fun a => isT t a.name).map fun a => (a.name, valT t a.name)
def BkS.out (s : BkS) : List BltR := resL2 s.g s.t s.g.acts

theorem isT_put (t : ThT) (n s : Nm) (r : ResR) : isT (lput n r t) s = (decide (s = n) || isT t s) := by
  unfold isT
  rw [lval_put]
  by_cases h : s = n <;> simp [h]
theorem valT_put (t : ThT) (n s : Nm) (r : ResR) : valT (lput n r t) s = if s = n then r else valT t s := by
  unfold valT
  rw [lval_put]
  by_cases h : s = n <;> simp [h]
theorem fail_is {t : ThT} {s : Nm} (h : failT t s = true) : isT t s = true := by
  unfold failT valT at h
  unfold isT
  cases hv : lval s t with
  | none => rw [hv] at h; exact absurd h (by decide)
  | some r => rfl
theorem failI_iff {g : GrR} {t : ThT} {i : Nat} : failI g t i = true ↔ ∃ s ∈ insAt g i, failT t s = true := by
  unfold failI
  rw [List.any_eq_true]
theorem settle1_val (g : GrR) (t : ThT) (i : Nat) (s : Nm) : lval s (settle1 g t i) = if s = nameAt g i ∧ failI g t i = true then some depR else lval s t := by
  unfold settle1
  by_cases h : failI g t i = true
  · rw [if_pos h, lval_put]
    simp [h]
  · rw [if_neg h, if_neg (fun e => h e.2)]
theorem settle1_other {g : GrR} {t : ThT} {i : Nat} {s : Nm} (h : s ≠ nameAt g i) : lval s (settle1 g t i) = lval s t := by rw [settle1_val, if_neg (fun e => h e.1)]
theorem settleL_snoc (g : GrR) (l : List Nat) (t : ThT) (i : Nat) : settleL g (l ++ [i]) t = settle1 g (settleL g l t) i := by unfold settleL; rw [List.foldl_append]; rfl
theorem settle1_isT {g : GrR} {t : ThT} {i : Nat} {s : Nm} (h : isT t s = true) : isT (settle1 g t i) s = true := by
  unfold settle1
  split
  · rw [isT_put, h]; simp
  · exact h
theorem settleL_isT {g : GrR} : ∀ (l : List Nat) {t : ThT} {s : Nm}, isT t s = true → isT (settleL g l t) s = true
  | [], _, _, h => h
  | _i :: l, _, _, h => settleL_isT l (settle1_isT h)
theorem isT_mem {t : ThT} {s : Nm} : isT t s = true ↔ s ∈ t.map Prod.fst := by
  unfold isT
  constructor
  · intro h
    cases hv : lval s t with
    | none => rw [hv] at h; cases h
    | some r => exact List.mem_map.2 ⟨_, mem_of_lval hv, rfl⟩
  · intro h
    cases hv : lval s t with
    | none =>
      obtain ⟨p, hp, e⟩ := List.mem_map.1 h
      exact absurd e (lval_none.1 hv p hp)
    | some r => rfl

/-- What lies there belongs to the build. -/
structure TOK (g : GrR) (srcs : List SrcR) (t : ThT) : Prop where
  keys : ∀ s, isT t s = true → s ∈ namesL g
  nd : (t.map Prod.fst).Nodup
  src : ∀ s ∈ g.srcs, lval s t = lval s (srcT srcs)
theorem TOK.put {g : GrR} {srcs : List SrcR} {t : ThT} (hD : Done g srcs) (h : TOK g srcs t) {i : Nat} (hi : i < g.acts.length) (r : ResR) : TOK g srcs (lput (nameAt g i) r t) := by
  refine ⟨fun s hs => ?_, nodup_put _ _ _ h.nd, fun s hs => ?_⟩
  · rw [isT_put] at hs
    simp only [Bool.or_eq_true, decide_eq_true_eq] at hs
    rcases hs with rfl | hs
    · exact mem_names.2 (.inr ⟨i, hi, rfl⟩)
    · exact h.keys s hs
  · rw [lval_put, if_neg, h.src s hs]
    intro e
    exact hD.can.w.apart hi (e ▸ hs)
theorem TOK.settle1 {g : GrR} {srcs : List SrcR} {t : ThT} (hD : Done g srcs) (h : TOK g srcs t) {i : Nat} (hi : i < g.acts.length) : TOK g srcs (settle1 g t i) := by
  unfold Go.Proofs.YthglfmacjoecgaaGreatDoor.settle1
  split
  · exact h.put hD hi _
  · exact h
theorem TOK.settleL {g : GrR} {srcs : List SrcR} (hD : Done g srcs) : ∀ (l : List Nat) {t : ThT}, (∀ i ∈ l, i < g.acts.length) → TOK g srcs t → TOK g srcs (settleL g l t)
  | [], _, _, h => h
  | i :: l, _, hl, h => TOK.settleL hD l (fun j hj => hl j (by simp [hj])) (h.settle1 hD (hl i (by simp)))
theorem TOK.begin {g : GrR} {srcs : List SrcR} (hD : Done g srcs) : TOK g srcs (srcT srcs) := by
  refine ⟨fun s hs => ?_, ?_, fun _ _ => rfl⟩
  · have := (srcT_some srcs hD.fit.nd s).1 hs
    exact mem_names.2 (.inl ((hD.fit.mem s).1 this))
  · rw [srcT_eq hD.fit.nd, List.map_map]
    exact hD.fit.nd
theorem TOK.srcIs {g : GrR} {srcs : List SrcR} {t : ThT} (hD : Done g srcs) (h : TOK g srcs t) {s : Nm} (hs : s ∈ g.srcs) : isT t s = true := by
  unfold isT
  rw [h.src s hs]
  exact (srcT_some srcs hD.fit.nd s).2 ((hD.fit.mem s).2 hs)
theorem TOK.len_le {g : GrR} {srcs : List SrcR} {t : ThT} (h : TOK g srcs t) : t.length ≤ g.srcs.length + g.acts.length := by
  have := nodup_le (t.map Prod.fst) (namesL g) h.nd (fun s hs => h.keys s (isT_mem.2 hs))
  simpa [namesL] using this
/-- All is there just if so many are. -/
theorem TOK.full {g : GrR} {srcs : List SrcR} {t : ThT} (hD : Done g srcs) (h : TOK g srcs t) : t.length = g.srcs.length + g.acts.length ↔ ∀ i, i < g.acts.length → isT t (nameAt g i) = true := by
  have hnl : (namesL g).length = g.srcs.length + g.acts.length := by simp [namesL]
  constructor
  · intro hl i hi
    rw [isT_mem]
    exact sub_full (t.map Prod.fst) (namesL g) h.nd (fun s hs => h.keys s (isT_mem.2 hs)) (by simp; omega) _ (mem_names.2 (.inr ⟨i, hi, rfl⟩))
  · intro ha
    have h1 := nodup_le (namesL g) (t.map Prod.fst) hD.can.w.nd (fun s hs => isT_mem.1 (by
      rcases mem_names.1 hs with h1 | ⟨i, hi, rfl⟩
      · exact h.srcIs hD h1
      · exact ha i hi))
    have h2 := h.len_le
    simp at h1
    omega
/-- What follows of failed inputs is there. -/
def Settled (g : GrR) (t : ThT) (l : List Nat) : Prop := ∀ i ∈ l, failI g t i = true → lval (nameAt g i) t = some depR
theorem failI_congr {g : GrR} {t u : ThT} {i : Nat} (h : ∀ s ∈ insAt g i, lval s u = lval s t) : failI g u i = failI g t i := by
  unfold failI
  rw [Bool.eq_iff_iff, List.any_eq_true, List.any_eq_true]
  constructor
  · rintro ⟨s, hs, hf⟩
    refine ⟨s, hs, ?_⟩
    unfold failT valT at *
    rw [← h s hs]
    exact hf
  · rintro ⟨s, hs, hf⟩
    refine ⟨s, hs, ?_⟩
    unfold failT valT at *
    rw [h s hs]
    exact hf
theorem settled_all {g : GrR} (hw : Wov g) (t : ThT) : ∀ (n : Nat) (l : List Nat), l.length = n → Ordd g l → Settled g (settleL g l t) l
  | 0, l, hl, _ => by
    rw [List.length_eq_zero_iff.1 hl]
    intro i hi
    cases hi
  | n + 1, l, hl, ho => by
    obtain ⟨l', k, rfl⟩ : ∃ l' k, l = l' ++ [k] := by
      rcases List.eq_nil_or_concat l with h | ⟨l', k, h⟩
      · rw [h] at hl; cases hl
      · exact ⟨l', k, by rw [h]; simp⟩
    obtain ⟨ho', hk, hkn, hkin⟩ := ho.left
    have ih := settled_all hw t n l' (by simpa using hl) ho'
    have hins : ∀ j, (∀ s ∈ insAt g j, s ∈ g.srcs ∨ ∃ q ∈ l', nameAt g q = s) → ∀ s ∈ insAt g j, lval s (settleL g (l' ++ [k]) t) = lval s (settleL g l' t) := fun j hj s hs => by
      rw [settleL_snoc, settle1_other]
      intro e
      rcases hj s hs with h1 | ⟨q, hq, h1⟩
      · exact hw.apart hkn (e ▸ h1)
      · exact hk (hw.inj (ho'.lt q hq) hkn (h1.trans e) ▸ hq)
    intro i hi hf
    rcases List.mem_append.1 hi with hi | hi
    · have hsup : ∀ s ∈ insAt g i, s ∈ g.srcs ∨ ∃ q ∈ l', nameAt g q = s := by
        intro s hs
        obtain ⟨q, hq, rfl⟩ := List.mem_iff_getElem.1 hi
        rcases ho'.sup q hq s hs with h1 | ⟨j, hj, h1⟩
        · exact .inl h1
        · exact .inr ⟨l'[j], List.getElem_mem (by omega), h1⟩
      rw [failI_congr (hins i hsup)] at hf
      have hne : nameAt g i ≠ nameAt g k := fun e => hk (hw.inj (ho'.lt i hi) hkn e ▸ hi)
      rw [settleL_snoc, settle1_other hne]
      exact ih i hi hf
    · simp only [List.mem_singleton] at hi
      subst hi
      rw [failI_congr (hins i hkin)] at hf
      rw [settleL_snoc, settle1_val, if_pos ⟨rfl, hf⟩]
theorem settled_order {g : GrR} (hc : Can g) (t : ThT) : ∀ i, i < g.acts.length → failI g (settleL g (orderR g) t) i = true → lval (nameAt g i) (settleL g (orderR g) t) = some depR :=
  fun i hi => settled_all hc.w t _ _ rfl (orderR_ordd g) i ((orderR_ordd g).full hc.full i hi)
theorem ready_iff {g : GrR} {t : ThT} {i : Nat} : readyT g t i = true ↔ isT t (nameAt g i) = false ∧ ∀ s ∈ insAt g i, isT t s = true := by
  unfold readyT
  simp [List.all_eq_true]
/-- Some action is next as long as not all is there. -/
theorem next_some {g : GrR} {srcs : List SrcR} {t : ThT} (hD : Done g srcs) (h : TOK g srcs t) (hn : (orderR g).find? (readyT g t) = none) : ∀ i, i < g.acts.length → isT t (nameAt g i) = true := by
  have key : ∀ (k : Nat) (hk : k < (orderR g).length), isT t (nameAt g (orderR g)[k]) = true := by
    intro k
    induction k using Nat.strongRecOn with
    | _ k ih =>
      intro hk
      have hr := List.find?_eq_none.1 hn _ (List.getElem_mem hk)
      by_cases hc : isT t (nameAt g (orderR g)[k]) = true
      · exact hc
      · refine absurd (ready_iff.2 ⟨by simpa using hc, fun s hs => ?_⟩) hr
        rcases (orderR_ordd g).sup k hk s hs with h1 | ⟨j, hj, h1⟩
        · exact h.srcIs hD h1
        · rw [← h1]; exact ih j hj (by omega)
  intro i hi
  obtain ⟨k, hk, rfl⟩ := hD.can.pos hi
  exact key k hk
/-- A build that goes on, or is over. -/
structure Live (g : GrR) (srcs : List SrcR) (s : BkS) : Prop where
  done : Done g srcs
  gr : s.g = g
  ord : s.ord = orderR g
  tok : TOK g srcs s.t
  set : ∀ i, i < g.acts.length → failI g s.t i = true → lval (nameAt g i) s.t = some depR
  st : s.st = 1 ∨ s.st = 2 ∨ s.st = 3
  fin : (s.t.length = g.srcs.length + g.acts.length → s.st = 2) ∧ (s.st = 2 → s.t.length = g.srcs.length + g.acts.length)
theorem live_begun {g : GrR} {srcs : List SrcR} (hD : Done g srcs) : Live g srcs (BkS.begun g srcs) := by
  have hT := TOK.settleL hD (orderR g) (fun i hi => (orderR_ordd g).lt i hi) (TOK.begin hD)
  refine ⟨hD, rfl, rfl, hT, settled_order hD.can _, ?_, ?_⟩
  · unfold BkS.begun BkS.settle
    simp only
    split <;> simp
  · unfold BkS.begun BkS.settle
    simp only
    split <;> simp_all
theorem Live.next {g : GrR} {srcs : List SrcR} {s : BkS} (h : Live g srcs s) {i : Nat} (hn : s.next = some i) : i < g.acts.length ∧ s.st = 1 ∧ isT s.t (nameAt g i) = false ∧ (∀ x ∈ insAt g i, isT s.t x = true) ∧ (∀ x ∈ insAt g i, (valT s.t x).1 = 0) := by
  unfold BkS.next at hn
  split at hn
  · rename_i h1
    rw [h.gr, h.ord] at hn
    have hm := List.mem_of_find?_eq_some hn
    have hr := ready_iff.1 (List.find?_some hn)
    have hi := (orderR_ordd g).lt i hm
    refine ⟨hi, h1, hr.1, hr.2, fun x hx => ?_⟩
    by_cases hz : (valT s.t x).1 = 0
    · exact hz
    · have hf := h.set i hi (failI_iff.2 ⟨x, hx, by unfold failT; simpa using hz⟩)
      have := hr.1
      unfold isT at this
      rw [hf] at this
      cases this
  · cases hn
theorem Live.put {g : GrR} {srcs : List SrcR} {s : BkS} (h : Live g srcs s) {i : Nat} (hi : i < g.acts.length) (h1 : s.st = 1) (r : ResR) : Live g srcs (s.put i r) := by
  have hT := TOK.settleL h.done (orderR g) (fun i hi => (orderR_ordd g).lt i hi) (h.tok.put h.done hi r)
  have e : s.put i r = ⟨g, if (settleL g (orderR g) (lput (nameAt g i) r s.t)).length = g.srcs.length + g.acts.length then 2 else 1, orderR g, settleL g (orderR g) (lput (nameAt g i) r s.t)⟩ := by
    unfold BkS.put BkS.settle
    rw [h.gr, h.ord, h1]
  rw [e]
  refine ⟨h.done, rfl, rfl, hT, settled_order h.done.can _, ?_, ?_⟩
  · simp only
    split <;> simp
  · simp only
    split <;> simp_all
theorem Live.stop {g : GrR} {srcs : List SrcR} {s : BkS} (h : Live g srcs s) : Live g srcs s.stop := by
  unfold BkS.stop
  split
  · rename_i h1
    refine ⟨h.done, h.gr, h.ord, h.tok, h.set, .inr (.inr rfl), ⟨fun hl => ?_, fun h2 => ?_⟩⟩
    · have := h.fin.1 hl
      omega
    · cases h2
  · exact h
/-- Nothing is next: all is there, or it was stopped. -/
theorem Live.over {g : GrR} {srcs : List SrcR} {s : BkS} (h : Live g srcs s) (hn : s.next = none) (h3 : s.st ≠ 3) : s.st = 2 ∧ ∀ i, i < g.acts.length → isT s.t (nameAt g i) = true := by
  by_cases h2 : s.st = 2
  · exact ⟨h2, (h.tok.full h.done).1 (h.fin.2 h2)⟩
  · have h1 : s.st = 1 := by have := h.st; omega
    unfold BkS.next at hn
    rw [if_pos h1, h.gr, h.ord] at hn
    have ha := next_some h.done h.tok hn
    have := h.fin.1 ((h.tok.full h.done).2 ha)
    omega
theorem BkS.out_len (s : BkS) : s.out.length = (s.g.acts.filter fun a => isT s.t a.name).length := by simp [BkS.out, resL2]
theorem filter_lt {α : Type} : ∀ (l : List α) (p q : α → Bool), (∀ x ∈ l, p x = true → q x = true) → (∃ x ∈ l, p x = false ∧ q x = true) → (l.filter p).length < (l.filter q).length
  | [], _, _, _, ⟨_, h, _⟩ => by cases h
  | x :: l, p, q, hpq, hx => by
    have hsub : ∀ y ∈ l, p y = true → q y = true := fun y hy => hpq y (by simp [hy])
    have hle : ∀ (l : List α), (∀ y ∈ l, p y = true → q y = true) → (l.filter p).length ≤ (l.filter q).length := by
      intro l
      induction l with
      | nil => intro _; exact Nat.le_refl _
      | cons y l ih =>
        intro h
        have := ih (fun z hz => h z (by simp [hz]))
        rw [List.filter_cons, List.filter_cons]
        by_cases h1 : p y = true
        · rw [if_pos h1, if_pos (h y (by simp) h1)]; simpa using this
        · rw [if_neg h1]
          split
          · simp; omega
          · exact this
    rw [List.filter_cons, List.filter_cons]
    obtain ⟨y, hy, h1, h2⟩ := hx
    rcases List.mem_cons.1 hy with rfl | hy
    · rw [if_neg (by rw [h1]; simp), if_pos h2]
      have := hle l hsub
      simp; omega
    · have ih := filter_lt l p q hsub ⟨y, hy, h1, h2⟩
      by_cases h3 : p x = true
      · rw [if_pos h3, if_pos (hpq x (by simp) h3)]; simpa using ih
      · rw [if_neg h3]
        split
        · simp; omega
        · exact ih
/-- More is there when one was given. -/
theorem Live.more {g : GrR} {srcs : List SrcR} {s : BkS} (h : Live g srcs s) {i : Nat} (hn : s.next = some i) (r : ResR) : s.out.length < (s.put i r).out.length := by
  obtain ⟨hi, h1, hno, _, _⟩ := h.next hn
  have e : s.put i r = ⟨g, if (settleL g (orderR g) (lput (nameAt g i) r s.t)).length = g.srcs.length + g.acts.length then 2 else 1, orderR g, settleL g (orderR g) (lput (nameAt g i) r s.t)⟩ := by
    unfold BkS.put BkS.settle
    rw [h.gr, h.ord, h1]
  rw [e, BkS.out_len, BkS.out_len, h.gr]
  refine filter_lt _ _ _ (fun a _ ha => settleL_isT _ (by rw [isT_put, ha]; simp)) ⟨g.acts[i], List.getElem_mem hi, ?_, settleL_isT _ (by rw [isT_put, nameAt_lt g i hi]; simp)⟩
  rw [← nameAt_lt g i hi]
  exact hno
end Go.Proofs.YthglfmacjoecgaaGreatDoor
namespace Go.Proofs.YthglfmacjoecgaaGreatDoor
open Go

/-- The job's result. -/
def BkS.job (s : BkS) (i : Nat) : ResR := makeF (bs (codeAt s.g i)) (insT2 s.g s.t i)
end Go.Proofs.YthglfmacjoecgaaGreatDoor
namespace Go.Proofs.YthglfmacjoecgaaGreatDoor
open Go.RowKit

theorem str_beqK (x y : ByteArray) : (x.toList == y.toList) = decide (x = y) := by
  rw [Bool.eq_iff_iff, beq_iff_eq, decide_eq_true_iff]
  exact ⟨fun h => ByteArray.ext (Array.toList_inj.1 (by rw [← Lib.toList_data, ← Lib.toList_data]; exact h)), fun h => by rw [h]⟩
theorem yieldsIf_load1K {P : Program} {ops : Array Oper} {S : World → Prop} {o : Oper} {a : Act} (hw : Region.wanted o (yielded ops a.tmps) = true) (t : TypeId) (x : Operand) (hop : o.op = Op.load t x) (b off : Nat) (v : Value) (hx : a.eval x = .pointer (some ⟨b, off, none⟩))
    (hS : ∀ w, S w → (loadVar t ⟨b, off, none⟩).run P w = .ok v w) : YieldsIf P ops S o v a :=
  .inl ⟨hw, fun w hw' => by
    unfold execOp
    simp only [hop, hx, Instr.loadAt, Instr.sureAddr, Sem.run_bind, Sem.run_pure, Result.andThen_ok, hS w hw']⟩
theorem load_strK {w : World} {b off : Nat} {v : Value} (h : w.cell? ⟨b, off, none⟩ = some v) : (loadVar 9 ⟨b, off, none⟩).run Tryz.prog w = .ok v w := by
  simp [go_sem, h]
theorem wpAnyH_takeDK {P : Program} {md : Region.Mode} {ops : Array Oper} {S : World → Prop} {Q : Exit → Act → World → Prop} {i : Nat} {oi : Oper} {v : Value} {fuel : Nat} {listed : Array Bool} {a : Act} {w : World} (k : Option Tmp) (hi : ops[i]? = some oi) (hk : oi.dst = k)
    (hs : Region.noSelect ops = true) (hf : Region.free md ops listed i = true) (hr : (Region.ready md ops listed).contains i = true)
    (hQ : ∀ c a w, Q (.panic c) (a.put oi.dst v) w → Q (.panic c) a w) (hy : YieldsIf P ops S oi v a) (hS : S w)
    (h : wpAnyH P md ops Q S fuel (listed.setIfInBounds i true) (a.put k v) w) : wpAnyH P md ops Q S (fuel + 1) listed a w := by
  subst hk
  exact wpAnyH_take hi hs hf hr hQ hy hS h
theorem eq_dig_sameK (f : Nat → UInt8) (w : World) : (binOp .eql 57 (.agg (rowB 32 f)) (.agg (rowB 32 f))).run Tryz.prog w = .ok (.bool true) w := by
  obtain ⟨r, h1, h2⟩ := eq_dig f f w
  rw [h1, h2.2 (fun _ _ => rfl)]
theorem load_digK {w : World} {b off : Nat} {f : Nat → UInt8} (h : w.rangeAt b off (rowB 32 f).toList) : (loadVar 57 ⟨b, off, none⟩).run Tryz.prog w = .ok (.agg (rowB 32 f)) w := by
  have := run_loadVar_mid (P := Tryz.prog) w b off 57 _ _ h Tryz.underlying57 rfl (by rw [Array.length_toList, rowB_size]; kernel_rfl)
  simpa using this
theorem equalIn_bltK (a : BltR) (h0 : a.1.length ≤ maxLen) (ha : (Lit.int .i64 a.2.1).wf = true) (ha2 : a.2.2.size ≤ maxLen) (w : World) :
    (Op.equalIn 10000 53 (.agg #[.string (bs a.1), .int .i64 a.2.1, .string a.2.2]) (.agg #[.string (bs a.1), .int .i64 a.2.1, .string a.2.2])).run Tryz.prog w = .ok true w := by
  have hf : ∀ r : BltR, (bltW r).formed Tryz.prog 53 = true := fun r => by kernel_rfl
  obtain ⟨r, e1, e2⟩ := run_equalIn_deep (P := Tryz.prog) 9997 3 53 (by kernel_rfl) w 3 3 (bltW a) (bltW a) _ _ (hf a) (hf a) (lits_blt a h0 ha ha2) (lits_blt a h0 ha ha2)
  rw [e2.2 rfl] at e1
  exact e1
set_option maxRecDepth 100000 in
set_option maxHeartbeats 4000000 in
theorem sameB_eqK (xs : List BltR) (hx : ∀ x ∈ xs, x.1.length ≤ maxLen ∧ (Lit.int .i64 x.2.1).wf = true ∧ x.2.2.size ≤ maxLen) (v u : Value) (w : World) (hv : BltAt w v xs) (hu : BltAt w u xs) :
    Calls Tryz.prog 21 #[v, u] w (Rets (.bool true) (Chg (fun _ => False) w)) := by
  have hlen := hv.len
  have hlen2 := hu.len
  have hmx := hv.rows.le
  unfold maxLen at hmx
  have HV := hid hv
  have HU := hid hu
  have HX := hid hx
  clear hv hu hx
  go_enter Tryz.func21, Tryz.ntmps21
  go_wp2_with fail
  go_loopw [5] (fun i wr => ∃ k : Nat, k ≤ xs.length ∧ i = .int .i64 k ∧ Chg (fun _ => False) w wr) (fun i _ => xs.length - (intOf i).toNat)
  case atStart => exact ⟨0, Nat.zero_le _, rfl, Chg.refl _ _⟩
  case round =>
    obtain ⟨k, hk, rfl, hch⟩ := hrel
    have HC := hid hch
    clear hch
    by_cases hkn : k < xs.length
    · have hkn' : (k : Int) < xs.length := by omega
      obtain ⟨b1, o1, hix1, x0, x1, x2, hl1⟩ := (HV.out.chg HC.out (fun _ _ h => h)).ix k hkn
      obtain ⟨b2, o2, hix2, y0, y1, y2, hl2⟩ := (HU.out.chg HC.out (fun _ _ h => h)).ix k hkn
      obtain ⟨g0, g1, g2⟩ := HX.out _ (List.getElem_mem hkn)
      have heq := equalIn_bltK xs[k] g0 g1 g2
      generalize bs xs[k].1 = nm at *
      generalize xs[k].2.1 = c at *
      generalize xs[k].2.2 = b at *
      clear g0 g1 g2
      go_wp2_with fail
      go_quiet (fail)
      go_wp2_with fail
      go_roundw
      case rel => exact ⟨k + 1, by omega, by go_num, HC.out.drewN _⟩
      case measure => simp [intOf]; omega
    · obtain rfl : k = xs.length := by omega
      go_wp2_with fail
      go_ret
      exact ⟨rfl, HC.out⟩
theorem neq_dig_sameK (f : Nat → UInt8) (w : World) : (binOp .neq 57 (.agg (rowB 32 f)) (.agg (rowB 32 f))).run Tryz.prog w = .ok (.bool false) w := by
  have h := eq_dig_sameK f w
  rw [run_eql_struct] at h
  rw [run_neq_struct]
  cases hr : (Op.equalIn 10000 57 (.agg (rowB 32 f)) (.agg (rowB 32 f))).run Tryz.prog w with
  | ok b w' =>
    rw [hr] at h
    simp only [Result.andThen, Result.ok.injEq, Value.bool.injEq] at h
    obtain ⟨rfl, rfl⟩ := h
    rfl
  | _ => rw [hr] at h; cases h
end Go.Proofs.YthglfmacjoecgaaGreatDoor
namespace Go.Proofs.YthglfmacjoecgaaGreatDoor
open Go.RowKit

/-- What the baker's slices are good for, as long as none of its other blocks changes. -/
def BkIn (w : World) (fp : Nat → Prop) (sv av ov : Value) (iv : Nat → Value) (g : GrR) (ord : List Nat) : Prop :=
  ∀ (G : Nat → Prop) (w' : World), Chg G w w' → (∀ k, k < w.heap.size → fp k → ¬ G k) → NamesAt w' sv g.srcs ∧ ActsAt w' av g.acts iv ∧ IntsAt w' ov ord
/-- Block b is a baker's, block r what is there by names; fp are the blocks of its slices. -/
structure IsBk (w : World) (b r : Nat) (fp : Nat → Prop) (sv av ov : Value) (iv : Nat → Value) (s : BkS) : Prop where
  ne : b ≠ r
  blk : w.heap[b]? = some (.cells #[sv, av, .int .i64 s.st, ov, .map (some r)] 142 (0, 0))
  map : MapL w r nmV resW s.t
  fb : ¬ fp b
  fr : ¬ fp r
  flt : ∀ k, fp k → k < w.heap.size
  inn : BkIn w fp sv av ov iv s.g s.ord
theorem BkIn.chg {w w' : World} {fp : Nat → Prop} {sv av ov : Value} {iv : Nat → Value} {g : GrR} {ord : List Nat} (h : BkIn w fp sv av ov iv g ord) {F : Nat → Prop} (hc : Chg F w w') (hF : ∀ k, k < w.heap.size → fp k → ¬ F k) : BkIn w' fp sv av ov iv g ord :=
  fun G w'' hG hd => h (fun k => F k ∨ G k) w'' ((hc.mono (fun _ _ h => .inl h)).trans hG (fun _ _ h => .inr h)) (fun k hk hf e => e.elim (hF k hk hf) (hd k (Nat.lt_of_lt_of_le hk hc.size) hf))
theorem IsBk.keep {w w' : World} {b r : Nat} {fp : Nat → Prop} {sv av ov : Value} {iv : Nat → Value} {s : BkS} (h : IsBk w b r fp sv av ov iv s) {F : Nat → Prop} (hc : Chg F w w') (hb : ¬ F b) (hr : ¬ F r) (hf : ∀ k, fp k → ¬ F k) : IsBk w' b r fp sv av ov iv s :=
  ⟨h.ne, hc.obj h.blk hb, h.map.chg hc hr, h.fb, h.fr, fun k hk => Nat.lt_of_lt_of_le (h.flt k hk) hc.size, h.inn.chg hc (fun k _ hk => hf k hk)⟩
theorem IsBk.same {w w' : World} {b r : Nat} {fp : Nat → Prop} {sv av ov : Value} {iv : Nat → Value} {s : BkS} (h : IsBk w b r fp sv av ov iv s) (hc : Chg (fun _ => False) w w') : IsBk w' b r fp sv av ov iv s := h.keep hc (fun h => h) (fun h => h) (fun _ _ h => h)
theorem IsBk.now {w : World} {b r : Nat} {fp : Nat → Prop} {sv av ov : Value} {iv : Nat → Value} {s : BkS} (h : IsBk w b r fp sv av ov iv s) : NamesAt w sv s.g.srcs ∧ ActsAt w av s.g.acts iv ∧ IntsAt w ov s.ord := h.inn (fun _ => False) w (Chg.refl _ _) (fun _ _ _ h => h)
/-- Another state and other things there, the slices as they were. -/
theorem IsBk.turn {w w' : World} {b r : Nat} {fp : Nat → Prop} {sv av ov : Value} {iv : Nat → Value} {s : BkS} (h : IsBk w b r fp sv av ov iv s) (hc : Chg (fun k => k = b ∨ k = r) w w') {st : Nat} {t : ThT}
    (hb : w'.heap[b]? = some (.cells #[sv, av, .int .i64 st, ov, .map (some r)] 142 (0, 0))) (hm : MapL w' r nmV resW t) : IsBk w' b r fp sv av ov iv ⟨s.g, st, s.ord, t⟩ :=
  ⟨h.ne, hb, hm, h.fb, h.fr, fun k hk => Nat.lt_of_lt_of_le (h.flt k hk) hc.size, h.inn.chg hc (fun _k _ hk e => e.elim (fun e => h.fb (e ▸ hk)) (fun e => h.fr (e ▸ hk)))⟩
theorem lookR (t : ThT) (s : Nm) : ((lval s t).map resW).getD (resW noRes) = resW (valT t s) := valT_getD t s

section
variable {P : Program} {w : World} {ops : Array Oper} {rest : List Oper} {o : Oper} {a : Act} {Q : Exit → Act → World → Prop}
theorem wpList_field (hg : o.guard = none) (t : TypeId) (x : Operand) (f : Nat) (hop : o.op = Op.field t x f) (v z : Value) (hx : a.eval x = v) (hr : (Instr.field t v f).run P w = .ok z w)
    (h : wpList P ops Q rest (a.put o.dst z) w) : wpList P ops Q (o :: rest) a w := by
  refine wpList_plain hg fun K' hK' => ?_
  unfold Oper.wp
  simp only [execOp, hop, hx, Sem.run_bind, hr, Result.andThen, Sem.run_pure, Oper.upon]
  exact hK' _ _ h
end
theorem field_code (c : Int) (x : ByteArray) (w : World) : (Instr.field 47 (.agg #[.int .i64 c, .string x]) 0).run Tryz.prog w = .ok (.int .i64 c) w := by kernel_rfl
set_option maxRecDepth 100000 in
theorem bfailed_any {w : World} {b r : Nat} {fp : Nat → Prop} {sv av ov : Value} {iv : Nat → Value} {s : BkS} (h : IsBk w b r fp sv av ov iv s) (n : Nm) :
    Calls Tryz.prog 115 #[.pointer (some ⟨b, 0, none⟩), .string (bs n)] w (Rets (.bool (failT s.t n)) (fun w' => w = w')) := by
  have b4 := cell_of h.blk 4
  simp at b4
  have HM := hid h.map
  have HV := hid (lookR s.t n)
  have HF : Hid (failT s.t n = decide ((valT s.t n).1 ≠ 0)) := hid rfl
  obtain ⟨c, hc⟩ : ∃ c, c = (valT s.t n).1 := ⟨_, rfl⟩
  obtain ⟨x, hx⟩ : ∃ x, x = (valT s.t n).2 := ⟨_, rfl⟩
  have HVV : Hid (resW (valT s.t n) = .agg #[.int .i64 c, .string x]) := hid (by unfold resW; rw [hc, hx])
  rw [← hc] at HF
  clear h hc hx
  rw [HF.out]
  go_enter Tryz.func115, Tryz.ntmps115
  by_cases h0 : c = 0
  · subst h0
    go_wp2_with (first | (at_lookup; refine wpList_lookup_v rfl _ _ 110 rfl keyNm Tryz.underlying110 (zeroR _) HM.out rfl n rfl _ (HV.out.trans HVV.out) ?_) | (guard_target =~ wpList _ _ _ (Oper.mk (some 11) _ _ _ _ _ :: _) _ _; refine wpList_field rfl 47 _ 0 rfl _ _ rfl (field_code _ _ _) ?_))
    go_ret
    exact ⟨by simp, rfl⟩
  · have hne : (c != 0) = true := by rw [bne_iff_ne]; exact h0
    go_wp2_with (first | (at_lookup; refine wpList_lookup_v rfl _ _ 110 rfl keyNm Tryz.underlying110 (zeroR _) HM.out rfl n rfl _ (HV.out.trans HVV.out) ?_) | (guard_target =~ wpList _ _ _ (Oper.mk (some 11) _ _ _ _ _ :: _) _ _; refine wpList_field rfl 47 _ 0 rfl _ _ rfl (field_code _ _ _) ?_))
    go_ret
    exact ⟨by simp [h0], rfl⟩
theorem lookT (t : ThT) (s : Nm) : (lfind s t 0).isSome = isT t s := by
  unfold isT lval
  cases lfind s t 0 <;> rfl
theorem lookV (t : ThT) (s : Nm) : ((lfind s t 0).map fun x => resW x.2).getD (resW noRes) = resW (valT t s) := by
  rw [← lookR]
  unfold lval
  cases lfind s t 0 <;> rfl
set_option maxRecDepth 100000 in
theorem bhas_any {w : World} {b r : Nat} {fp : Nat → Prop} {sv av ov : Value} {iv : Nat → Value} {s : BkS} (h : IsBk w b r fp sv av ov iv s) (n : Nm) :
    Calls Tryz.prog 81 #[.pointer (some ⟨b, 0, none⟩), .string (bs n)] w (Rets (.bool (isT s.t n)) (Chg (fun _ => False) w)) := by
  have b4 := cell_of h.blk 4
  simp at b4
  have HM := hid h.map
  have HV := hid (lookV s.t n)
  have HT := hid (lookT s.t n)
  obtain ⟨c, hc⟩ : ∃ c, c = (valT s.t n).1 := ⟨_, rfl⟩
  obtain ⟨x, hx⟩ : ∃ x, x = (valT s.t n).2 := ⟨_, rfl⟩
  have HVV : Hid (resW (valT s.t n) = .agg #[.int .i64 c, .string x]) := hid (by unfold resW; rw [hc, hx])
  clear h hc hx
  generalize isT s.t n = B at *
  go_enter Tryz.func81, Tryz.ntmps81
  go_wp2_with (at_lookup; refine wpList_lookup_l rfl _ _ 110 true rfl keyNm Tryz.underlying110 (zeroR _) HM.out rfl n rfl ?_; rw [HV.out, HVV.out, HT.out])
  go_ret
  exact ⟨rfl, (Chg.refl _ w).alloc _⟩
set_option maxRecDepth 100000 in
theorem bstate_any {w : World} {b r : Nat} {fp : Nat → Prop} {sv av ov : Value} {iv : Nat → Value} {s : BkS} (h : IsBk w b r fp sv av ov iv s) :
    Calls Tryz.prog 42 #[.pointer (some ⟨b, 0, none⟩)] w (Rets (.int .i64 s.st) (fun w' => w = w')) := by
  have b2 := cell_of h.blk 2
  simp at b2
  clear h
  go_enter Tryz.func42, Tryz.ntmps42
  go_wp2_with fail
  go_ret
  exact ⟨rfl, rfl⟩
set_option maxRecDepth 100000 in
theorem bresult_any (r : ResR) (hr : r.2.size ≤ maxLen) (w : World) : Calls Tryz.prog 82 #[resW r] w (Rets (.bool (resOK r)) (Chg (fun _ => False) w)) := by
  obtain ⟨c, x⟩ := r
  unfold resW resOK maxLen at *
  simp only at hr ⊢
  have hbe := str_beqK x ByteArray.empty
  go_enter Tryz.func82, Tryz.ntmps82
  by_cases h1 : x.size ≤ 512
  · have h1' : (x.size : Int) ≤ 512 := by omega
    have d1 : decide ((x.size : Int) ≤ 512) = true := decide_eq_true h1'
    by_cases h2 : c = 0
    · subst h2
      go_wp2_with fail
      go_ret
      exact ⟨by simp, (Chg.refl _ w).alloc _⟩
    · have d2 : (c == 0) = false := by rw [beq_eq_false_iff_ne]; exact h2
      by_cases h3 : x = ByteArray.empty
      · subst h3
        go_wp2_with fail
        go_ret
        exact ⟨by simp, (Chg.refl _ w).alloc _⟩
      · rw [decide_eq_false h3] at hbe
        have XE : ¬ x.toList = [] := fun e => h3 (ByteArray.ext (Array.toList_inj.1 (by rw [← Lib.toList_data, e]; rfl)))
        go_wp2_with fail
        go_ret
        exact ⟨by simp [h1, h2, h3, XE], (Chg.refl _ w).alloc _⟩
  · have h1' : ¬ (x.size : Int) ≤ 512 := by omega
    have d1 : decide ((x.size : Int) ≤ 512) = false := decide_eq_false h1'
    go_wp2_with fail
    go_ret
    exact ⟨by simp, (Chg.refl _ w).alloc _⟩
end Go.Proofs.YthglfmacjoecgaaGreatDoor
namespace Go.Proofs.YthglfmacjoecgaaGreatDoor
open Go.RowKit

set_option maxRecDepth 100000 in
set_option maxHeartbeats 1000000 in
theorem ixs_lacks (p : Option Addr) (Pn : Nm → Bool) (v : Value) (ss : List Nm) (w : World) (hin : NamesAt w v ss)
    (hf : ∀ s ∈ ss, ∀ W, Chg (fun _ => False) w W → Calls Tryz.prog 80 #[.string (bs s), .pointer p] W (Rets (.bool (Pn s)) (Chg (fun _ => False) W))) :
    Calls Tryz.prog 92 #[v, .func (.func 80) #[] #[.pointer p]] w (Rets (.int .i64 (placeI Pn ss)) (Chg (fun _ => False) w)) := by
  have hlenI := hin.len
  have hmx := hin.le
  unfold maxLen at hmx
  have H := hid hin
  have HF := hid hf
  clear hin hf
  go_enter Tryz.func92, Tryz.ntmps92
  go_wp2_with fail
  go_loopw [8] (fun i wr => ∃ k : Nat, k ≤ ss.length ∧ i = .int .i64 k ∧ Chg (fun _ => False) w wr ∧ ∀ j (h : j < ss.length), j < k → Pn ss[j] = false) (fun i _ => ss.length - (intOf i).toNat)
  case atStart => exact ⟨0, Nat.zero_le _, rfl, Chg.refl _ _, fun j _ h => absurd h (Nat.not_lt_zero _)⟩
  case round =>
    obtain ⟨k, hk, rfl, hch, hall⟩ := hrel
    have HA := hid hall
    have HC := hid hch
    have S2 := H.out.chg hch (fun _ _ h => h)
    clear hall hch
    by_cases hkn : k < ss.length
    · have hkn' : (k : Int) < ss.length := by omega
      obtain ⟨ad, hix, hadc, hadb⟩ := S2.ix k hkn
      have hn := HF.out ss[k] (List.getElem_mem hkn)
      clear S2
      cases hw : Pn ss[k] with
      | false =>
        rw [hw] at hn
        have HW := hid hw
        clear hw
        generalize bs ss[k] = nm at *
        go_wp2_with (go_at_call 80; refine (hn _ HC.out).mono ?_; rintro e w' ⟨rfl, hc⟩)
        go_roundw
        case rel =>
          refine ⟨k + 1, by omega, by go_num, HC.out.trans hc (fun _ _ h => h), fun j hj hjk => ?_⟩
          by_cases e : j = k
          · subst e; exact HW.out
          · exact HA.out j hj (by omega)
        case measure => simp [intOf]; omega
      | true =>
        have hp : placeI Pn ss = k := placeI_at k hkn hw HA.out
        rw [hw] at hn
        have HP := hid hp
        clear hw hp
        generalize bs ss[k] = nm at *
        go_wp2_with (go_at_call 80; refine (hn _ HC.out).mono ?_; rintro e w' ⟨rfl, hc⟩)
        go_ret
        exact ⟨congrArg (fun z => Ending.returned (.int .i64 z)) HP.out.symm, HC.out.trans hc (fun _ _ h => h)⟩
    · obtain rfl : k = ss.length := by omega
      have hp : placeI Pn ss = -1 := placeI_none (fun s hs => by
        obtain ⟨j, hj, rfl⟩ := List.mem_iff_getElem.1 hs
        exact HA.out j hj hj)
      have HP := hid hp
      clear hp S2
      go_wp2_with fail
      go_ret
      exact ⟨congrArg (fun z => Ending.returned (.int .i64 z)) HP.out.symm, HC.out⟩
theorem cfs_lacks (p : Option Addr) (Pn : Nm → Bool) (v : Value) (ss : List Nm) (w : World) (hin : NamesAt w v ss)
    (hf : ∀ s ∈ ss, ∀ W, Chg (fun _ => False) w W → Calls Tryz.prog 80 #[.string (bs s), .pointer p] W (Rets (.bool (Pn s)) (Chg (fun _ => False) W))) :
    Calls Tryz.prog 57 #[v, .func (.func 80) #[] #[.pointer p]] w (Rets (.bool (ss.any Pn)) (Chg (fun _ => False) w)) := by
  have hix := ixs_lacks p Pn v ss w hin hf
  have hneg := placeI_neg (P := Pn) (l := ss)
  clear hin hf
  generalize placeI Pn ss = r at *
  have HN := hid hneg
  clear hneg
  go_enter Tryz.func57, Tryz.ntmps57
  go_wp2_with (go_at_call 92; refine hix.mono ?_; rintro e w' ⟨rfl, hc⟩)
  go_ret
  refine ⟨?_, hc⟩
  have h1 := HN.out
  by_cases h : r < 0
  · rw [h1.1 h]; simp [h]
  · have h2 : ss.any Pn = true := by
      cases h3 : ss.any Pn with
      | true => rfl
      | false => exact absurd (h1.2 h3) h
    rw [h2]; simp; omega
set_option maxRecDepth 100000 in
set_option maxHeartbeats 1000000 in
theorem ixs_failed (p : Option Addr) (Pn : Nm → Bool) (v : Value) (ss : List Nm) (w : World) (hin : NamesAt w v ss)
    (hf : ∀ s ∈ ss, ∀ W, Chg (fun _ => False) w W → Calls Tryz.prog 115 #[.pointer p, .string (bs s)] W (Rets (.bool (Pn s)) (Chg (fun _ => False) W))) :
    Calls Tryz.prog 92 #[v, .func (.func 115) #[.pointer p] #[]] w (Rets (.int .i64 (placeI Pn ss)) (Chg (fun _ => False) w)) := by
  have hlenI := hin.len
  have hmx := hin.le
  unfold maxLen at hmx
  have H := hid hin
  have HF := hid hf
  clear hin hf
  go_enter Tryz.func92, Tryz.ntmps92
  go_wp2_with fail
  go_loopw [8] (fun i wr => ∃ k : Nat, k ≤ ss.length ∧ i = .int .i64 k ∧ Chg (fun _ => False) w wr ∧ ∀ j (h : j < ss.length), j < k → Pn ss[j] = false) (fun i _ => ss.length - (intOf i).toNat)
  case atStart => exact ⟨0, Nat.zero_le _, rfl, Chg.refl _ _, fun j _ h => absurd h (Nat.not_lt_zero _)⟩
  case round =>
    obtain ⟨k, hk, rfl, hch, hall⟩ := hrel
    have HA := hid hall
    have HC := hid hch
    have S2 := H.out.chg hch (fun _ _ h => h)
    clear hall hch
    by_cases hkn : k < ss.length
    · have hkn' : (k : Int) < ss.length := by omega
      obtain ⟨ad, hix, hadc, hadb⟩ := S2.ix k hkn
      have hn := HF.out ss[k] (List.getElem_mem hkn)
      clear S2
      cases hw : Pn ss[k] with
      | false =>
        rw [hw] at hn
        have HW := hid hw
        clear hw
        generalize bs ss[k] = nm at *
        go_wp2_with (go_at_call 115; refine (hn _ HC.out).mono ?_; rintro e w' ⟨rfl, hc⟩)
        go_roundw
        case rel =>
          refine ⟨k + 1, by omega, by go_num, HC.out.trans hc (fun _ _ h => h), fun j hj hjk => ?_⟩
          by_cases e : j = k
          · subst e; exact HW.out
          · exact HA.out j hj (by omega)
        case measure => simp [intOf]; omega
      | true =>
        have hp : placeI Pn ss = k := placeI_at k hkn hw HA.out
        rw [hw] at hn
        have HP := hid hp
        clear hw hp
        generalize bs ss[k] = nm at *
        go_wp2_with (go_at_call 115; refine (hn _ HC.out).mono ?_; rintro e w' ⟨rfl, hc⟩)
        go_ret
        exact ⟨congrArg (fun z => Ending.returned (.int .i64 z)) HP.out.symm, HC.out.trans hc (fun _ _ h => h)⟩
    · obtain rfl : k = ss.length := by omega
      have hp : placeI Pn ss = -1 := placeI_none (fun s hs => by
        obtain ⟨j, hj, rfl⟩ := List.mem_iff_getElem.1 hs
        exact HA.out j hj hj)
      have HP := hid hp
      clear hp S2
      go_wp2_with fail
      go_ret
      exact ⟨congrArg (fun z => Ending.returned (.int .i64 z)) HP.out.symm, HC.out⟩
theorem cfs_failed (p : Option Addr) (Pn : Nm → Bool) (v : Value) (ss : List Nm) (w : World) (hin : NamesAt w v ss)
    (hf : ∀ s ∈ ss, ∀ W, Chg (fun _ => False) w W → Calls Tryz.prog 115 #[.pointer p, .string (bs s)] W (Rets (.bool (Pn s)) (Chg (fun _ => False) W))) :
    Calls Tryz.prog 57 #[v, .func (.func 115) #[.pointer p] #[]] w (Rets (.bool (ss.any Pn)) (Chg (fun _ => False) w)) := by
  have hix := ixs_failed p Pn v ss w hin hf
  have hneg := placeI_neg (P := Pn) (l := ss)
  clear hin hf
  generalize placeI Pn ss = r at *
  have HN := hid hneg
  clear hneg
  go_enter Tryz.func57, Tryz.ntmps57
  go_wp2_with (go_at_call 92; refine hix.mono ?_; rintro e w' ⟨rfl, hc⟩)
  go_ret
  refine ⟨?_, hc⟩
  have h1 := HN.out
  by_cases h : r < 0
  · rw [h1.1 h]; simp [h]
  · have h2 : ss.any Pn = true := by
      cases h3 : ss.any Pn with
      | true => rfl
      | false => exact absurd (h1.2 h3) h
    rw [h2]; simp; omega
set_option maxRecDepth 100000 in
theorem blacks_any {w : World} {b r x : Nat} {fp : Nat → Prop} {sv av ov : Value} {iv : Nat → Value} {s : BkS} (h : IsBk w b r fp sv av ov iv s) (hx : w.cell? ⟨x, 0, none⟩ = some (.pointer (some ⟨b, 0, none⟩))) (n : Nm) :
    Calls Tryz.prog 80 #[.string (bs n), .pointer (some ⟨x, 0, none⟩)] w (Rets (.bool (!isT s.t n)) (Chg (fun _ => False) w)) := by
  have hh := bhas_any h n
  clear h
  generalize isT s.t n = B at *
  go_enter Tryz.func80, Tryz.ntmps80
  go_wp2_with (go_at_call 81; refine hh.mono ?_; rintro e w1 ⟨rfl, hc1⟩)
  go_ret
  exact ⟨rfl, hc1⟩
end Go.Proofs.YthglfmacjoecgaaGreatDoor
namespace Go.Proofs.YthglfmacjoecgaaGreatDoor
open Go.RowKit

/-- A baker's call that turns its block and its map alone. -/
def BkTurn (w : World) (b r : Nat) (fp : Nat → Prop) (sv av ov : Value) (iv : Nat → Value) (s' : BkS) (w' : World) : Prop := Chg (fun k => k = b ∨ k = r) w w' ∧ IsBk w' b r fp sv av ov iv s'
theorem settle_take {g : GrR} {ord : List Nat} (t : ThT) {k : Nat} (h : k < ord.length) : settleL g (ord.take (k + 1)) t = settle1 g (settleL g (ord.take k) t) ord[k] := by
  rw [List.take_succ_eq_append_getElem h, settleL_snoc]
set_option maxRecDepth 100000 in
set_option maxHeartbeats 4000000 in
theorem bsettle_any {w : World} {b r : Nat} {fp : Nat → Prop} {sv av ov : Value} {iv : Nat → Value} {s : BkS} (h : IsBk w b r fp sv av ov iv s) (hlt : ∀ i ∈ s.ord, i < s.g.acts.length) (h8 : s.g.srcs.length ≤ 1000) (h12 : s.g.acts.length ≤ 1000) :
    Calls Tryz.prog 79 #[.pointer (some ⟨b, 0, none⟩)] w (Rets (.tuple #[]) (BkTurn w b r fp sv av ov iv s.settle)) := by
  have b3 := cell_of h.blk 3
  simp at b3
  obtain ⟨hn, ha, ho⟩ := h.now
  obtain ⟨o3, c3, rfl⟩ := ho.form
  obtain ⟨o1, c1, rfl⟩ := hn.form
  obtain ⟨o2, c2, rfl⟩ := ha.form
  have hlen := ho.len
  have hmx := ho.le
  unfold maxLen at hmx
  have H := hid h
  have HLT := hid hlt
  have HN := hid hn
  have HA := hid ha
  clear h hlt hn ha ho
  go_enter Tryz.func79, Tryz.ntmps79
  go_wp2_with fail
  go_loopw [10] (fun i wr => ∃ k : Nat, k ≤ s.ord.length ∧ i = .int .i64 k ∧ BkTurn w b r fp (.slice o1 s.g.srcs.length c1) (.slice o2 s.g.acts.length c2) (.slice o3 s.ord.length c3) iv ⟨s.g, s.st, s.ord, settleL s.g (s.ord.take k) s.t⟩ wr) (fun i _ => s.ord.length - (intOf i).toNat)
  case atStart => exact ⟨0, Nat.zero_le _, rfl, Chg.refl _ _, H.out⟩
  case round =>
    obtain ⟨k, hk, rfl, hch, hb⟩ := hrel
    have HC := hid hch
    have HB := hid hb
    have b1 := cell_of hb.blk 1
    have b4 := cell_of hb.blk 4
    simp at b1 b4
    obtain ⟨hn, ha, ho⟩ := hb.now
    clear hch hb
    by_cases hkn : k < s.ord.length
    · have hkn' : (k : Int) < s.ord.length := by omega
      obtain ⟨bb0, oo0, hix0, hc0, hl0⟩ := ho.ix k hkn
      have hin := HLT.out _ (List.getElem_mem hkn)
      have HST := hid (settle_take (g := s.g) s.t hkn)
      clear ho hn
      generalize s.ord[k] = i at *
      generalize settleL s.g (s.ord.take k) s.t = t at *
      obtain ⟨bb, oo, hix, hlt, e0, e1, e2, hns, hw1, hw2⟩ := ha.at i hin
      obtain ⟨oi, ci, hiv⟩ := hns.form
      rw [hiv] at e1 hns
      have hin' : (i : Int) < s.g.acts.length := by omega
      have HNA : Hid (nameAt s.g i = s.g.acts[i].name) := nameAt_lt s.g i hin
      have HFI : Hid (failI s.g t i = s.g.acts[i].ins.any (failT t)) := hid (by unfold failI; rw [insAt_lt s.g i hin])
      generalize hnm : s.g.acts[i].name = nm at *
      generalize hcd : s.g.acts[i].code = cd at *
      generalize hins : s.g.acts[i].ins = ins at *
      have hal := (al_chg wr (.cells #[.string (bs nm), .slice oi ins.length ci, .string (bs cd)] 43))
      have k5 := heap_alloc_new' wr (.cells #[.string (bs nm), .slice oi ins.length ci, .string (bs cd)] 43)
      have HB5 := hid (HB.out.same hal)
      have HNS5 := hid (hns.chg hal (fun _ _ h => h))
      have HC5 := hid (HC.out.alloc (.cells #[.string (bs nm), .slice oi ins.length ci, .string (bs cd)] 43))
      have HK5 := hid k5
      have HIN := hid hin
      clear hiv hns hw1 hw2 hal k5 hnm hcd hins ha
      go_upto_region 4 with fail
      generalize wr.alloc (.cells #[.string (bs nm), .slice oi ins.length ci, .string (bs cd)] 43) = W5 at *
      clear hix hix0 hc0 e0 e1 e2 b1 b4
      obtain ⟨ba, hba⟩ : ∃ ba, ba = wr.heap.size := ⟨_, rfl⟩
      rw [← hba] at HK5 ⊢
      have HBA : Hid (ba = wr.heap.size) := hid hba
      clear hba
      have a1 := cell_of HK5.out 1
      simp at a1
      have hcf := cfs_failed (some ⟨b, 0, none⟩) (failT t) (.slice oi ins.length ci) ins W5 HNS5.out (fun n _ W hW => (bfailed_any (HB5.out.same hW) n).mono (fun e w' ⟨h1, h2⟩ => ⟨h1, h2 ▸ Chg.refl _ _⟩))
      rw [← HFI.out] at hcf
      have HCF := hid hcf
      clear hcf
      cases hfl : failI s.g t i with
      | false =>
        rw [hfl] at HCF
        have HS1 : Hid (settle1 s.g t i = t) := hid (by unfold settle1; rw [if_neg (by rw [hfl]; simp)])
        clear hfl
        go_wp2_with (go_at_call 57; refine HCF.out.mono ?_; rintro e w6 ⟨rfl, hc6⟩)
        go_roundw
        case rel =>
          refine ⟨k + 1, by omega, by go_num, HC5.out.trans hc6 (fun _ _ h => h.elim), ?_⟩
          rw [HST.out, HS1.out]
          exact HB5.out.same hc6
        case measure => simp [intOf]; omega
      | true =>
        rw [hfl] at HCF
        have HS1 : Hid (settle1 s.g t i = lput nm depR t) := hid (by unfold settle1; rw [if_pos hfl, HNA.out])
        clear hfl
        go_wp2_with (go_at_call 57; refine HCF.out.mono ?_; rintro e w6 ⟨rfl, hc6⟩; have HB6 := hid (HB5.out.same hc6); have HK6 := hid (hc6.obj HK5.out (fun h => h)); have HC6 := hid (HC5.out.trans hc6 (fun _ _ h => h.elim)); clear hc6 a1)
        have q4 := cell_of HB6.out.blk 4
        have a0 := cell_of HK6.out 0
        simp at q4 a0
        go_still_tail 8, (by kernel_rfl)
        change wpList _ _ _ _ _ w6.drew
        refine wpList_mapUpdate_l rfl _ _ _ 110 rfl keyNm Tryz.underlying110 (show MapL w6.drew r nmV resW _ from HB6.out.map) rfl nm rfl depR rfl ?_
        intro w8 hm8 hc8
        have hc68 : Chg (fun z => z = r) w6 w8 := ((Chg.refl (fun z => z = r) w6).drew).trans hc8 (fun _ _ h => h)
        have hb8 := hc68.obj HB6.out.blk (fun e => HB6.out.ne e)
        have HB8 := hid (HB6.out.turn (hc68.mono (fun _ _ h => .inr h)) hb8 hm8)
        have HC8 := hid (HC6.out.trans (hc68.mono (G := fun k => k = b ∨ k = r) (fun _ _ h => .inr h)) (fun _ _ h => h))
        clear hm8 hc8 hc68 hb8 q4 a0
        go_wp2_with fail
        go_roundw
        case rel =>
          refine ⟨k + 1, by omega, by go_num, HC8.out, ?_⟩
          rw [HST.out, HS1.out]
          exact HB8.out
        case measure => simp [intOf]; omega
    · obtain rfl : k = s.ord.length := by omega
      have e0 : s.ord.take s.ord.length = s.ord := List.take_length
      rw [e0] at HB
      have b0 := cell_of HB.out.blk 0
      have g2 := frozen_of HB.out.blk 2
      have b2 := cell_of HB.out.blk 2
      simp at b0 b2
      have HM := hid HB.out.map
      have hlenM : ∀ n ty, (Builtin.len_ #[110] ty #[.map (some r)]).run Tryz.prog (wr.drewN n) = .ok (.int .i64 (settleL s.g s.ord s.t).length) (wr.drewN n) := fun n ty =>
        MapL.len (show MapL (wr.drewN n) r nmV resW (settleL s.g s.ord s.t) from HM.out) Tryz.underlying110 ty
      have hlenS := hn.len
      have hlenA := ha.len
      have HSE : Hid (s.settle = ⟨s.g, if (settleL s.g s.ord s.t).length = s.g.srcs.length + s.g.acts.length then 2 else s.st, s.ord, settleL s.g s.ord s.t⟩) := hid rfl
      clear hn ha ho e0
      generalize settleL s.g s.ord s.t = t at *
      have hsum : IntKind.i64.wrap ((s.g.srcs.length : Int) + (s.g.acts.length : Int)) = (s.g.srcs.length : Int) + s.g.acts.length := IntWalk.i64_in _ (by omega)
      clear hlenS hlenA
      by_cases hf : t.length = s.g.srcs.length + s.g.acts.length
      · have hbe : ((t.length : Int) == (s.g.srcs.length : Int) + (s.g.acts.length : Int)) = true := by rw [beq_iff_eq]; omega
        have HF := hid hf
        clear hf h8 h12
        go_wp2_with fail
        go_quiet (fail)
        go_wp2_with fail
        go_end0
        have hcd : Chg (fun k => k = b ∨ k = r) wr ((wr.drewN nq).setCell ⟨b, 2, none⟩ (.int .i64 2)) := ((Chg.refl (fun k => k = b ∨ k = r) wr).drewN nq).setCell (p := ⟨b, 2, none⟩) (fun _ => .inl rfl) _
        refine ⟨rfl, HC.out.trans hcd (fun _ _ h => h), ?_⟩
        rw [HSE.out, if_pos HF.out]
        have hb2 := heap_set_same (show (wr.drewN nq).heap[b]? = _ from HB.out.blk) 2 (.int .i64 2)
        refine HB.out.turn hcd (by simpa using hb2) (HM.out.chg (F := fun k => k = b) (((Chg.refl (fun k => k = b) wr).drewN nq).setCell (p := ⟨b, 2, none⟩) (fun _ => rfl) _) (fun e => HB.out.ne e.symm))
      · have hbe : ((t.length : Int) == (s.g.srcs.length : Int) + (s.g.acts.length : Int)) = false := by rw [beq_eq_false_iff_ne]; omega
        have HF := hid hf
        clear hf h8 h12
        go_wp2_with fail
        go_quiet (fail)
        go_wp2_with fail
        go_end0
        refine ⟨rfl, HC.out.drewN _, ?_⟩
        rw [HSE.out, if_neg HF.out]
        exact HB.out.same ((Chg.refl _ wr).drewN _)
end Go.Proofs.YthglfmacjoecgaaGreatDoor
namespace Go.Proofs.YthglfmacjoecgaaGreatDoor
open Go.RowKit

/-- A job's cells. -/
def jobA (nm : ByteArray) (pl : Int) (cd : ByteArray) (inV : Value) (key : Nat → UInt8) : Array Value := #[.string nm, .int .i64 pl, .string cd, inV] ++ rowB 32 key
def noJob : Array Value := jobA ByteArray.empty 0 ByteArray.empty (.slice none 0 0) zeroF
theorem jobA_size (nm : ByteArray) (pl : Int) (cd : ByteArray) (inV : Value) (key : Nat → UInt8) : (jobA nm pl cd inV key).size = 36 := by simp [jobA, rowB_size]
theorem jobA_list (nm : ByteArray) (pl : Int) (cd : ByteArray) (inV : Value) (key : Nat → UInt8) : (jobA nm pl cd inV key).toList = [.string nm, .int .i64 pl, .string cd, inV] ++ (rowB 32 key).toList := by simp [jobA]
theorem jobA_one (nm : ByteArray) (pl : Int) (cd : ByteArray) (inV : Value) (hi : inV.oneCell' = true) (key : Nat → UInt8) : (jobA nm pl cd inV key).toList.all Value.oneCell' = true := by
  rw [jobA_list, List.all_append, rowB_one]
  simp only [List.all_cons, List.all_nil, hi, Bool.and_true]
  rfl
theorem jobA_get0 (nm : ByteArray) (pl : Int) (cd : ByteArray) (inV : Value) (key : Nat → UInt8) : (jobA nm pl cd inV key)[0]? = some (.string nm) ∧ (jobA nm pl cd inV key)[1]? = some (.int .i64 pl) ∧ (jobA nm pl cd inV key)[2]? = some (.string cd) ∧ (jobA nm pl cd inV key)[3]? = some inV := by
  simp only [← Array.getElem?_toList, jobA_list]
  exact ⟨rfl, rfl, rfl, rfl⟩
theorem jobA_in (nm : ByteArray) (pl : Int) (cd : ByteArray) (inV u : Value) (key : Nat → UInt8) : (jobA nm pl cd inV key).setIfInBounds 3 u = jobA nm pl cd u key := by
  apply Array.toList_inj.1
  rw [Array.toList_setIfInBounds, jobA_list, jobA_list]
  rfl
theorem jobA_put (nm : ByteArray) (pl : Int) (cd : ByteArray) (inV : Value) (k1 k2 : Nat → UInt8) : ((jobA nm pl cd inV k1).toList.take 4 ++ (rowB 32 k2).toList ++ (jobA nm pl cd inV k1).toList.drop (4 + (rowB 32 k2).size)).toArray = jobA nm pl cd inV k2 := by
  have h1 : (rowB 32 k1).toList.length = 32 := by simp [rowB_size]
  apply Array.toList_inj.1
  rw [rowB_size, jobA_list, jobA_list]
  generalize (rowB 32 k1).toList = K at *
  have e2 : ([Value.string nm, .int .i64 pl, .string cd, inV] ++ K).drop (4 + 32) = [] := List.drop_of_length_le (by simp; omega)
  rw [e2]
  simp
theorem allocJob (w : World) : (Instr.alloc 85 true (.tuple #[])).run Tryz.prog w = .ok (.pointer (some ⟨w.heap.size, 0, none⟩)) (w.alloc (.cells noJob 85)) := by kernel_rfl
theorem sizeJob (w : World) : (sizeOf 85).run Tryz.prog w = .ok 36 w := by kernel_rfl
theorem buildJob0 (w : World) : (Instr.build 85 #[]).run Tryz.prog w = .ok (.agg noJob) w := by kernel_rfl
theorem buildJob (nm : ByteArray) (pl : Int) (cd : ByteArray) (w : World) : (Instr.build 85 #[(0, .agg #[.string nm]), (1, .int .i64 pl), (2, .string cd)]).run Tryz.prog w = .ok (.agg (jobA nm pl cd (.slice none 0 0) zeroF)) w := by kernel_rfl
theorem load_job {w : World} {b : Nat} {nm : ByteArray} {pl : Int} {cd : ByteArray} {inV : Value} {key : Nat → UInt8} (h : w.heap[b]? = some (.cells (jobA nm pl cd inV key) 85 (0, 0))) : (loadVar 85 ⟨b, 0, none⟩).run Tryz.prog w = .ok (.agg (jobA nm pl cd inV key)) w :=
  run_loadVar_row _ b 85 85 _ (0, 0) (.struct _) h Tryz.underlying85 rfl (by rw [jobA_size]; kernel_rfl)
section
variable {P : Program} {w : World} {ops : Array Oper} {rest : List Oper} {o : Oper} {a : Act} {Q : Exit → Act → World → Prop}
theorem wpList_build3 (hg : o.guard = none) (t : TypeId) (i j k : Nat) (x y u : Operand) (hop : o.op = Op.build t #[(i, x), (j, y), (k, u)]) (vx vy vu : Value) (hx : a.eval x = vx) (hy : a.eval y = vy) (hu : a.eval u = vu) (z : Value) (hr : (Instr.build t #[(i, vx), (j, vy), (k, vu)]).run P w = .ok z w)
    (h : wpList P ops Q rest (a.put o.dst z) w) : wpList P ops Q (o :: rest) a w := by
  refine wpList_plain hg fun K' hK' => ?_
  unfold Oper.wp
  simp only [execOp, hop, Sem.run_bind, List.map_toArray, List.map_cons, List.map_nil, hx, hy, hu, hr, Result.andThen, Sem.run_pure, Oper.upon]
  exact hK' _ _ h
end
/-- A job block's cells, read. -/
theorem job_cells {w : World} {b : Nat} {nm : ByteArray} {pl : Int} {cd : ByteArray} {inV : Value} {key : Nat → UInt8} {T : TypeId} (h : w.heap[b]? = some (.cells (jobA nm pl cd inV key) T (0, 0))) :
    w.cell? ⟨b, 0, none⟩ = some (.string nm) ∧ w.cell? ⟨b, 1, none⟩ = some (.int .i64 pl) ∧ w.cell? ⟨b, 2, none⟩ = some (.string cd) ∧ w.cell? ⟨b, 3, none⟩ = some inV := by
  obtain ⟨h0, h1, h2, h3⟩ := jobA_get0 nm pl cd inV key
  exact ⟨(cell_of h 0).trans h0, (cell_of h 1).trans h1, (cell_of h 2).trans h2, (cell_of h 3).trans h3⟩
end Go.Proofs.YthglfmacjoecgaaGreatDoor
namespace Go.Proofs.YthglfmacjoecgaaGreatDoor
open Go.RowKit

/-- What a build's sizes are. -/
structure BkSize (s : BkS) : Prop where
  ord : ∀ i ∈ s.ord, i < s.g.acts.length
  n1 : s.g.srcs.length ≤ 1000
  n2 : s.g.acts.length ≤ 1000
  act : ∀ a ∈ s.g.acts, a.code.length ≤ 1000 ∧ a.ins.length ≤ 32
  val : ∀ n, (valT s.t n).2.size ≤ 100000 ∧ -9223372036854775808 ≤ (valT s.t n).1 ∧ (valT s.t n).1 ≤ 9223372036854775807
def NextPost (w : World) (s : BkS) (e : Ending) (w' : World) : Prop :=
  Chg (fun _ => False) w w' ∧ ((s.next = none ∧ e = .returned (.tuple #[.agg noJob, .bool false])) ∨
    ∃ i inV, s.next = some i ∧ i < s.g.acts.length ∧ e = .returned (.tuple #[.agg (jobA (bs (nameAt s.g i)) i (bs (codeAt s.g i)) inV (keyF (bs (codeAt s.g i)) (insT2 s.g s.t i))), .bool true]) ∧ ResAt w' inV (insT2 s.g s.t i))
theorem find_none_take {P : Nat → Bool} {l : List Nat} (h : ∀ j (h : j < l.length), P l[j] = false) : l.find? P = none := by
  rw [List.find?_eq_none]
  intro x hx
  obtain ⟨j, hj, rfl⟩ := List.mem_iff_getElem.1 hx
  simp [h j hj]
theorem find_at {P : Nat → Bool} {l : List Nat} {k : Nat} (hk : k < l.length) (h : ∀ j (h : j < l.length), j < k → P l[j] = false) (hp : P l[k] = true) : l.find? P = some l[k] := by
  rw [List.find?_eq_some_iff_getElem]
  exact ⟨hp, k, hk, rfl, fun j hj => by simp [h j (by omega) hj]⟩
theorem NextPost.none {w w' : World} {s : BkS} {e : Ending} (hn : s.next = none) (he : e = .returned (.tuple #[.agg noJob, .bool false])) (hc : Chg (fun _ => False) w w') : NextPost w s e w' := ⟨hc, .inl ⟨hn, he⟩⟩
theorem next_not {s : BkS} (h : s.st ≠ 1) : s.next = none := by unfold BkS.next; rw [if_neg h]
theorem next_is {s : BkS} (h : s.st = 1) : s.next = s.ord.find? (readyT s.g s.t) := by unfold BkS.next; rw [if_pos h]
theorem results_cell2 {P : Program} {fn : Func} {p q : Tmp} {ty : TypeId} (h : fn.results = #[.cell p ty, .tmp q]) (tmps : Array Value) (w : World) (b : Nat) (hp : tmps.getD p undef = .pointer (some ⟨b, 0, none⟩)) (cs : Array Value) (hl : (loadVar ty ⟨b, 0, none⟩).run P w = .ok (.agg cs) w) (v : Value) (hq : tmps.getD q undef = v) :
    (results fn tmps).run P w = .ok (.tuple #[.agg cs, v]) w := by
  rw [Array.getD_eq_getD_getElem?] at hp hq
  simp only [results, h]
  simp [hp, hq, asAddr, hl]
set_option maxRecDepth 100000 in
set_option maxHeartbeats 8000000 in
theorem bnext_any {B : Nat} {w : World} {b r : Nat} {fp : Nat → Prop} {sv av ov : Value} {iv : Nat → Value} {s : BkS} (h : IsBk w b r fp sv av ov iv s) (hz : BkSize s) (hT : TabsOK B w) (hB : B ≤ w.heap.size) :
    Calls Tryz.prog 41 #[.pointer (some ⟨b, 0, none⟩)] w (NextPost w s) := by
  obtain ⟨hn, ha, ho⟩ := h.now
  obtain ⟨o3, c3, rfl⟩ := ho.form
  obtain ⟨o1, c1, rfl⟩ := hn.form
  obtain ⟨o2, c2, rfl⟩ := ha.form
  have hlen := ho.len
  have hmx := ho.le
  unfold maxLen at hmx
  have H := hid h
  have HZ := hid hz
  have HT := hid hT
  have HBB := hid hB
  clear h hz hn ha ho hT hB
  have HC1 := hid (al_chg w (.cells #[.pointer (some ⟨b, 0, none⟩)] 81))
  have HX1 := hid (heap_alloc_new' w (.cells #[.pointer (some ⟨b, 0, none⟩)] 81))
  have hs1 : (w.alloc (.cells #[.pointer (some ⟨b, 0, none⟩)] 81)).heap.size = w.heap.size + 1 := by simp
  have HS1 := hid hs1
  clear hs1
  by_cases hst : s.st = 1
  · have hst' : ((s.st : Int) != 1) = false := by rw [bne_eq_false_iff_eq]; omega
    have HN := hid (next_is hst)
    clear hst
    go_enter Tryz.func41, Tryz.ntmps41
    go_upto_region 4 with (first | (guard_target =~ wpList _ _ _ (Oper.mk (some 2) _ _ _ _ _ :: _) _ _; refine wpList_alloc0 rfl 85 rfl noJob (allocJob _) ?_; intro w2 hk2 hs2 hc2; rw [HS1.out] at hk2 hs2; have HX2 := hid (hc2.obj HX1.out (fun h => h)); have HJ2 := hid hk2; have HC2 := hid (HC1.out.trans hc2 (fun _ _ h => h)); have HS2 := hid hs2; clear hk2 hs2 hc2; have x0 := cell_of HX2.out 0; simp at x0) | (go_at_call 42; refine (bstate_any (H.out.same HC2.out)).mono ?_; rintro e w3 ⟨rfl, rfl⟩))
    obtain ⟨xb, hxb⟩ : ∃ xb, xb = w.heap.size := ⟨_, rfl⟩
    obtain ⟨jb, hjb⟩ : ∃ jb, jb = w.heap.size + 1 := ⟨_, rfl⟩
    rw [← hjb] at HJ2 ⊢
    rw [← hxb] at HX2 x0 ⊢
    have HSZ : Hid (xb < w2.heap.size ∧ jb < w2.heap.size ∧ xb ≠ jb ∧ w.heap.size ≤ xb ∧ w.heap.size ≤ jb) := hid ⟨heap_lt HX2.out, heap_lt HJ2.out, by omega, by omega, by omega⟩
    clear hxb hjb hst' HS1 HX1 HC1 HS2
    have q3 := cell_of (HC2.out.obj H.out.blk (fun h => h)) 3
    simp at q3
    go_upto_region 5 with fail
    clear x0 q3
    go_loopw [21] (fun i wr => ∃ k : Nat, k ≤ s.ord.length ∧ i = .int .i64 k ∧ Chg (fun _ => False) w2 wr ∧ ∀ j (h : j < s.ord.length), j < k → readyT s.g s.t s.ord[j] = false) (fun i _ => s.ord.length - (intOf i).toNat)
    case atStart => exact ⟨0, Nat.zero_le _, rfl, Chg.refl _ _, fun j _ h => absurd h (Nat.not_lt_zero _)⟩
    case round =>
      obtain ⟨k, hk, rfl, hch, hall⟩ := hrel
      have HCH := hid hch
      have HALL := hid hall
      have HB := hid (H.out.same (HC2.out.trans hch (fun _ _ h => h)))
      have b1 := cell_of HB.out.blk 1
      have x0 := cell_of (hch.obj HX2.out (fun h => h)) 0
      simp at b1 x0
      obtain ⟨hn, ha, ho⟩ := HB.out.now
      clear hch hall hn
      by_cases hkn : k < s.ord.length
      · have hkn' : (k : Int) < s.ord.length := by omega
        obtain ⟨bb0, oo0, hix0, hc0, hl0⟩ := ho.ix k hkn
        have hin := HZ.out.ord _ (List.getElem_mem hkn)
        have HNX : Hid (∀ (_ : readyT s.g s.t s.ord[k] = true), s.next = some s.ord[k]) := hid (fun hr => by rw [HN.out]; exact find_at hkn HALL.out hr)
        have HNN : Hid (∀ (_ : readyT s.g s.t s.ord[k] = false), ∀ j (h : j < s.ord.length), j < k + 1 → readyT s.g s.t s.ord[j] = false) := hid (fun hr j hj hjk => by
          by_cases e : j = k
          · subst e; exact hr
          · exact HALL.out j hj (by omega))
        clear ho
        generalize s.ord[k] = i at *
        obtain ⟨bb, oo, hix, hlt, e0, e1, e2, hns, hw1, hw2⟩ := ha.at i hin
        obtain ⟨oi, ci, hiv⟩ := hns.form
        rw [hiv] at e1 hns
        have hin' : (i : Int) < s.g.acts.length := by omega
        have HNA : Hid (nameAt s.g i = s.g.acts[i].name) := nameAt_lt s.g i hin
        have HCD : Hid (codeAt s.g i = s.g.acts[i].code) := codeAt_lt s.g i hin
        have HIS : Hid (insT2 s.g s.t i = s.g.acts[i].ins.map (valT s.t)) := hid (by unfold insT2; rw [insAt_lt s.g i hin])
        have HRD : Hid (readyT s.g s.t i = (!isT s.t s.g.acts[i].name && s.g.acts[i].ins.all (isT s.t))) := hid (by unfold readyT; rw [nameAt_lt s.g i hin, insAt_lt s.g i hin])
        have HSM := hid (HZ.out.act _ (List.getElem_mem hin))
        have HIN := hid hin
        generalize hnm : s.g.acts[i].name = nm at *
        generalize hcd : s.g.acts[i].code = cd at *
        generalize hins : s.g.acts[i].ins = ins at *
        have hal := (al_chg wr (.cells #[.string (bs nm), .slice oi ins.length ci, .string (bs cd)] 43))
        have HK5 := hid (heap_alloc_new' wr (.cells #[.string (bs nm), .slice oi ins.length ci, .string (bs cd)] 43))
        have HB5 := hid (HB.out.same hal)
        have HNS5 := hid (hns.chg hal (fun _ _ h => h))
        have HC5 := hid (HCH.out.trans hal (fun _ _ h => h))
        have x5 := cell_alloc' x0 (.cells #[.string (bs nm), .slice oi ins.length ci, .string (bs cd)] 43)
        clear hiv hns hw1 hw2 hal hnm hcd hins ha
        go_upto_region 8 with fail
        generalize wr.alloc (.cells #[.string (bs nm), .slice oi ins.length ci, .string (bs cd)] 43) = W5 at *
        clear hix hix0 hc0 e0 e1 e2 b1 x0 hin' hlt hl0
        obtain ⟨ba, hba⟩ : ∃ ba, ba = wr.heap.size := ⟨_, rfl⟩
        rw [← hba] at HK5 ⊢
        have HBA : Hid (ba = wr.heap.size) := hid hba
        clear hba
        have a0 := cell_of HK5.out 0
        have a1 := cell_of HK5.out 1
        simp at a0 a1
        have HHS := hid (bhas_any HB5.out nm)
        have hex : ins.any (fun n => !isT s.t n) = !ins.all (isT s.t) := by
          rw [Bool.eq_iff_iff]
          simp [List.any_eq_true]
        have HLK : Hid (∀ W, Chg (fun _ => False) W5 W → Calls Tryz.prog 57 #[.slice oi ins.length ci, .func (.func 80) #[] #[.pointer (some ⟨xb, 0, none⟩)]] W (Rets (.bool (!ins.all (isT s.t))) (Chg (fun _ => False) W))) := hid (fun W hW => by
          rw [← hex]
          exact cfs_lacks (some ⟨xb, 0, none⟩) (fun n => !isT s.t n) (.slice oi ins.length ci) ins W (HNS5.out.chg hW (fun _ _ h => h)) (fun n _ W2 hW2 => blacks_any (HB5.out.same (hW.trans hW2 (fun _ _ h => h))) ((hW.trans hW2 (fun _ _ h => h)).cell x5 (fun h => h)) n))
        clear hex
        cases hB1 : isT s.t nm with
        | true =>
          rw [hB1] at HHS HRD
          clear hB1
          go_wp2_with (go_at_call 81; refine HHS.out.mono ?_; rintro e w6 ⟨rfl, hc6⟩; have HC6 := hid (HC5.out.trans hc6 (fun _ _ h => h)); clear hc6 a0 a1 x5)
          go_roundw
          case rel => exact ⟨k + 1, by omega, by go_num, HC6.out, HNN.out (by rw [HRD.out]; rfl)⟩
          case measure => simp [intOf]; omega
        | false =>
          rw [hB1] at HHS HRD
          clear hB1
          cases hB2 : ins.all (isT s.t) with
          | false =>
            rw [hB2] at HLK HRD
            clear hB2
            go_wp2_with (first | (go_at_call 81; refine HHS.out.mono ?_; rintro e w6 ⟨rfl, hc6⟩; have HC6 := hid hc6; have a1 := cell_of (hc6.obj HK5.out (fun h => h)) 1; simp at a1; clear hc6 a0 x5) | (go_at_call 57; refine (HLK.out _ HC6.out).mono ?_; rintro e w7 ⟨rfl, hc7⟩; have HC7 := hid ((HC5.out.trans HC6.out (fun _ _ h => h)).trans hc7 (fun _ _ h => h)); clear hc7 a1))
            go_roundw
            case rel => exact ⟨k + 1, by omega, by go_num, HC7.out, HNN.out (by rw [HRD.out]; rfl)⟩
            case measure => simp [intOf]; omega
          | true =>
            rw [hB2] at HLK HRD
            clear hB2
            have HNXT := hid (HNX.out (by rw [HRD.out]; rfl))
            clear HNX HNN HALL
            go_upto_region 9 with (first | (go_at_call 81; refine HHS.out.mono ?_; rintro e w6 ⟨rfl, hc6⟩; have HC6 := hid hc6; have a1 := cell_of (hc6.obj HK5.out (fun h => h)) 1; simp at a1; clear hc6 a0 x5) | (go_at_call 57; refine (HLK.out _ HC6.out).mono ?_; rintro e w7 ⟨rfl, hc7⟩; have HC7 := hid ((HC5.out.trans HC6.out (fun _ _ h => h)).trans hc7 (fun _ _ h => h)); have HK7 := hid ((HC6.out.trans hc7 (fun _ _ h => h)).obj HK5.out (fun h => h)); have HCA := hid (HC6.out.trans hc7 (fun _ _ h => h)); clear hc7 a1))
            have HCW7 := hid (HC2.out.trans HC7.out (fun _ _ h => h))
            have HX7 := hid (HC7.out.obj HX2.out (fun h => h))
            have HJ7 := hid (HC7.out.obj HJ2.out (fun h => h))
            have HNS7 := hid (HNS5.out.chg HCA.out (fun _ _ h => h))
            have HS7 : Hid (w2.heap.size ≤ w7.heap.size) := hid HC7.out.size
            clear HB HB5 HNS5 HC5 HHS HLK HC6 HK5 HCA HBA HCH HRD HX2 HJ2
            clear a1
            have z0 := cell_of HK7.out 0
            have z1 := cell_of HK7.out 1
            have z2 := cell_of HK7.out 2
            simp at z0 z1 z2
            go_wp2_with (first | (guard_target =~ wpList _ _ _ (Oper.mk (some 49) _ _ _ _ _ :: _) _ _; refine wpList_build3 rfl 85 0 1 2 _ _ _ rfl (.agg #[.string (bs nm)]) (.int .i64 i) (.string (bs cd)) rfl rfl rfl _ (buildJob _ _ _ _) ?_) | (guard_target =~ wpList _ _ _ (Oper.mk (some 8) _ _ _ _ _ :: _) _ _; refine wpList_alloc0 rfl 85 rfl noJob (allocJob _) ?_; intro w8 hk8 hs8 hc8; have HK8 := hid hk8; have HC8 := hid hc8; have HS8 := hid hs8; clear hk8 hc8 hs8) | (guard_target =~ wpList _ _ _ (Oper.mk none _ _ _ _ _ :: _) _ _; refine wpList_store0 rfl 85 _ _ rfl w7.heap.size noJob (jobA (bs nm) i (bs cd) (.slice none 0 0) zeroF) rfl rfl HK8.out (by rw [jobA_size]; exact sizeJob) (by unfold noJob; rw [jobA_size, jobA_size]) (jobA_one _ _ _ _ rfl _) ?_; intro w9 hk9 hs9 hc9; have HK9 := hid hk9; have HC9 := hid (HC8.out.trans hc9 (fun j hj h => by omega)); have HS9 : Hid (w9.heap.size = w7.heap.size + 1) := hid (by rw [hs9, HS8.out]); clear hk9 hs9 hc9; have z1' := cell_of (HC9.out.obj HK7.out (fun h => h)) 1; simp at z1'))
            obtain ⟨jn, hjn⟩ : ∃ jn, jn = w7.heap.size := ⟨_, rfl⟩
            have HLM : Hid (jn < w9.heap.size ∧ b < jn ∧ r < jn ∧ xb < jn ∧ jb < jn ∧ ba < jn ∧ w.heap.size ≤ jn) := hid (by
              have h1 := HS9.out
              have h2 := heap_lt H.out.blk
              have h3 := H.out.map.lt
              have h4 := HCW7.out.size
              have h5 := HSZ.out
              have h6 := HS7.out
              have h7 := heap_lt HK7.out
              omega)
            have HNF : Hid (∀ k, k < w7.heap.size → ¬ k = jn) := hid (fun k hk => by omega)
            rw [← hjn] at HK9 HS9 ⊢
            clear hjn z0 z1 z2 z1' HK8 HC8 HS8
            have HCW9 := hid (HCW7.out.trans HC9.out (fun _ _ h => h))
            have HX9 := hid (HC9.out.obj HX7.out (fun h => h))
            have HJ9 := hid (HC9.out.obj HJ7.out (fun h => h))
            have HB9 := hid (H.out.same HCW9.out)
            clear HK7 HX7 HJ7 HCW7 HS7 HC7
            go_loopw [53] (fun v53 wx => ∃ (q : Nat) (x : Value), q ≤ ins.length ∧ v53 = .int .i64 q ∧ wx.heap[jn]? = some (.cells (jobA (bs nm) i (bs cd) x zeroF) 85 (0, 0)) ∧ wx.ownsRow 0 47 2 x q (((ins.take q).map (valT s.t)).flatMap resL) ∧ (∀ z, x.ownBlock = some z → jn + 1 ≤ z) ∧ Chg (fun z => z = jn) w9 wx) (fun v53 _ => ins.length - (intOf v53).toNat)
            case atStart => exact ⟨0, _, Nat.zero_le _, rfl, HK9.out, World.ownsRow_nil _ _ _ _, (fun z h => by cases h), Chg.refl _ _⟩
            case round =>
              obtain ⟨q, x, hq, rfl, hjk, hown, hbl, hcx⟩ := hrel
              have HJK := hid hjk
              have HOWN := hid hown
              have HBL := hid hbl
              have HCX := hid hcx
              have HBX := hid (HB9.out.keep hcx (by have := HLM.out; omega) (by have := HLM.out; omega) (fun z hz e => by have h1 := H.out.flt z hz; have h2 := HLM.out; omega))
              have HXX := hid (hcx.obj HX9.out (by have := HLM.out; omega))
              clear hjk hown hbl hcx
              by_cases hqn : q < ins.length
              · have hqn' : (q : Int) < ins.length := by omega
                obtain ⟨ad3, hix3, hadc3, hadb3⟩ := (HNS7.out.chg ((HC9.out.mono (G := fun z => z = jn) (fun _ _ h => h.elim)).trans HCX.out (fun _ _ h => h)) HNF.out).ix q hqn
                have HTK : Hid (((ins.take (q + 1)).map (valT s.t)).flatMap resL = ((ins.take q).map (valT s.t)).flatMap resL ++ resL (valT s.t ins[q])) := hid (by
                  rw [List.take_succ_eq_append_getElem hqn, List.map_append, List.flatMap_append]
                  simp)
                generalize hs3 : ins[q] = s3 at *
                obtain ⟨rc, hrc⟩ : ∃ rc, rc = (valT s.t s3).1 := ⟨_, rfl⟩
                obtain ⟨rb, hrb⟩ : ∃ rb, rb = (valT s.t s3).2 := ⟨_, rfl⟩
                have hlk : ∀ n, (Instr.lookup 110 (.map (some r)) (.string (bs s3)) false).run Tryz.prog (wr.drewN n) = .ok (.agg #[.int .i64 rc, .string rb]) (wr.drewN n) := fun n => MapL.run_lookup HBX.out.map keyNm Tryz.underlying110 zeroR s3 _ (by rw [valT_getD]; unfold resW; rw [hrc, hrb]) n
                have hlk0 : (Instr.lookup 110 (.map (some r)) (.string (bs s3)) false).run Tryz.prog wr = .ok (.agg #[.int .i64 rc, .string rb]) wr := hlk 0
                have hlk1 : (Instr.lookup 110 (.map (some r)) (.string (bs s3)) false).run Tryz.prog wr.drew = .ok (.agg #[.int .i64 rc, .string rb]) wr.drew := hlk 1
                have HVL : Hid (resL (valT s.t s3) = [.int .i64 rc, .string rb]) := hid (by unfold resL; rw [hrc, hrb])
                clear hs3 hrc hrb
                have hi32 := HSM.out.2
                go_wp2_with fail
                clear hix3 hadc3 hadb3
                have y3 := (job_cells HJK.out).2.2.2
                have x0 := cell_of HXX.out 0
                have m4 := cell_of HBX.out.blk 4
                simp at x0 m4
                have y3a := cell_alloc' y3 (.cells #[.int .i64 rc, .string rb] 47)
                go_region_law (refine step_append_new rfl _ _ 58 rfl elRes HOWN.out rfl #[.int .i64 rc, .string rb] 1 1 rfl rfl rfl (by unfold maxLen; omega) (by omega) (by decide) ?_; intro g6 cap6 w6 hown6 hch6 hg6; have hjk6 := hch6.obj HJK.out (fun e => by have := HBL.out _ e; omega); have y6 := (job_cells hjk6).2.2.2; have f6 := frozen_of hjk6 3)
                all_goals go_wp2_with fail
                all_goals (refine ⟨⟨q + 1, .slice (some ⟨g6, 0, none⟩) (q + 1) cap6, by omega, by go_num, ?_, ?_, fun z hz => ?_, ?_⟩, by simp [intOf]; omega⟩)
                all_goals (have hne6 : g6 ≠ jn := hg6.elim (fun e => by have := HBL.out _ e; omega) (fun e => by have := HCX.out.size; have := HLM.out; omega))
                all_goals first
                  | (have hsn := heap_set_same hjk6 3 (.slice (some ⟨g6, 0, none⟩) (q + 1) cap6); rw [jobA_in] at hsn; exact hsn)
                  | (rw [HTK.out, HVL.out]; exact ((Chg.refl (fun z => z = jn) w6).setCell (p := ⟨jn, 3, none⟩) (fun _ => rfl) _).owns hown6 (fun z hz e => hne6 (by obtain rfl := own_eq hz; exact e)))
                  | (obtain rfl := own_eq hz; exact hg6.elim (fun e => HBL.out _ e) (fun e => by have := HCX.out.size; have := HLM.out; omega))
                  | exact (HCX.out.trans hch6 (fun z hz e => by have := HBL.out z e; have := HS9.out; omega)).setCell (p := ⟨jn, 3, none⟩) (fun _ => rfl) _
              · obtain rfl : q = ins.length := by omega
                have hown2 := HOWN.out
                rw [List.take_length] at hown2
                have HHI : Hid (∀ W, Chg (fun z => z = jn ∨ z = jb) wr W → ResAt W x (insT2 s.g s.t i)) := hid (fun W hW => by
                  rw [HIS.out]
                  refine ResAt.of_owns (n := ins.length) (by simp) (hW.owns hown2 (fun z hz e => by have := HBL.out z hz; have := HLM.out; omega)) (by have := HSM.out; simp; omega) (fun r0 hr0 => ?_)
                  obtain ⟨n0, _, rfl⟩ := List.mem_map.1 hr0
                  exact (HZ.out.val n0).1)
                have hCW : Chg (fun _ => False) w wr := HCW9.out.trans HCX.out (fun z hz e => by have := HLM.out; omega)
                have HKEY := hid (key_any (bs cd) (by rw [bs_size]; exact HSM.out.1) (insT2 s.g s.t i) (by rw [HIS.out]; simp; exact HSM.out.2) (fun r0 hr0 => by rw [HIS.out] at hr0; obtain ⟨n0, _, rfl⟩ := List.mem_map.1 hr0; exact (HZ.out.val n0).1) (fun r0 hr0 => by rw [HIS.out] at hr0; obtain ⟨n0, _, rfl⟩ := List.mem_map.1 hr0; exact (HZ.out.val n0).2) x wr (HHI.out wr (Chg.refl _ _)) (HT.out.keep hCW) (Nat.le_trans HBB.out hCW.size))
                have HCW := hid hCW
                have HJB := hid (HCX.out.obj HJ9.out (by have := HLM.out; omega))
                have HFI := hid (show s.next = some i ∧ i < s.g.acts.length ∧ bs (nameAt s.g i) = bs nm ∧ bs (codeAt s.g i) = bs cd from ⟨HNXT.out, HIN.out, by rw [HNA.out], by rw [HCD.out]⟩)
                obtain ⟨xo, xc, rfl⟩ := (HHI.out wr (Chg.refl _ _)).form
                clear hown2 hCW HOWN HBL HIS HNA HCD
                obtain ⟨K, hK⟩ : ∃ K, K = keyF (bs cd) (insT2 s.g s.t i) := ⟨_, rfl⟩
                rw [← hK] at HKEY
                have HKK := hid hK
                clear hK
                generalize (insT2 s.g s.t i).length = nl at *
                obtain ⟨y0, y1, y2, y3⟩ := job_cells HJK.out
                go_wp2_with (first | (go_at_call 29; refine HKEY.out.mono ?_; rintro e w8 ⟨rfl, hc8⟩; have HK8 := hid (hc8.obj HJK.out (fun h => h)); have HJ8 := hid (hc8.obj HJB.out (fun h => h)); have HC8 := hid hc8; clear hc8 y0 y1 y2 y3) | (guard_target =~ wpList _ _ _ (Oper.mk none (Op.store _ (Operand.tmp 74) _) _ _ _ _ :: _) _ _; refine wpList_storeO rfl 57 _ _ rfl jn 4 85 _ (rowB 32 K) (jobA (bs nm) i (bs cd) (.slice xo nl xc) K) rfl rfl HK8.out (by rw [rowB_size]; exact size37) (by rw [rowB_size, jobA_size]; decide) (rowB_one _ _) (jobA_put _ _ _ _ _ _) ?_; intro w10 hk10 hs10 hc10; have HK10 := hid hk10; have HJ10 := hid (hc10.obj HJ8.out (by have := HLM.out; omega)); have HC10 := hid ((HC8.out.mono (G := fun z => z = jn ∨ z = jb) (fun _ _ h => h.elim)).trans hc10 (fun _ _ h => .inl h)); clear hk10 hs10 hc10) | (guard_target =~ wpList _ _ _ (Oper.mk (some 75) _ _ _ _ _ :: _) _ _; refine wpList_load0 rfl 85 _ rfl jn (jobA (bs nm) i (bs cd) (.slice xo nl xc) K) (.struct _) rfl HK10.out Tryz.underlying85 rfl (by rw [jobA_size]; kernel_rfl) ?_) | (guard_target =~ wpList _ _ _ (Oper.mk none (Op.store _ (Operand.tmp 2) _) _ _ _ _ :: _) _ _; refine wpList_store0 rfl 85 _ _ rfl jb noJob (jobA (bs nm) i (bs cd) (.slice xo nl xc) K) rfl rfl HJ10.out (by rw [jobA_size]; exact sizeJob) (by unfold noJob; rw [jobA_size, jobA_size]) (jobA_one _ _ _ _ rfl _) ?_; intro w11 hk11 hs11 hc11))
                refine bodyPost_ret (v := .tuple #[.agg (jobA (bs nm) i (bs cd) (.slice xo nl xc) K), .bool true]) (results_cell2 Tryz.results41 _ _ jb rfl _ (load_job hk11) _ rfl) rfl ⟨?_, .inr ⟨i, .slice xo nl xc, HFI.out.1, HFI.out.2.1, ?_, ?_⟩⟩
                · exact HCW.out.trans (HC10.out.trans hc11 (fun _ _ h => .inr h)) (fun z hz e => by have := HLM.out; have := HSZ.out; omega)
                · rw [HFI.out.2.2.1, HFI.out.2.2.2, HKK.out]
                · exact HHI.out w11 (HC10.out.trans hc11 (fun _ _ h => .inr h))
      · obtain rfl : k = s.ord.length := by omega
        have HJW := hid (HCH.out.obj HJ2.out (fun h => h))
        have HNO := hid (HN.out.trans (find_none_take (fun j hj => HALL.out j hj hj)))
        clear ha ho
        go_wp2_with (first | (guard_target =~ wpList _ _ _ (Oper.mk (some 77) _ _ _ _ _ :: _) _ _; refine wpList_build0 rfl 85 rfl _ (buildJob0 _) ?_) | (guard_target =~ wpList _ _ _ (Oper.mk none _ _ _ _ _ :: _) _ _; refine wpList_store0 rfl 85 _ _ rfl jb noJob noJob rfl rfl HJW.out (by unfold noJob; rw [jobA_size]; exact sizeJob) rfl (jobA_one _ _ _ _ rfl _) ?_; intro w6 hk6 hs6 hc6))
        refine bodyPost_ret (v := .tuple #[.agg noJob, .bool false]) (results_cell2 Tryz.results41 _ _ jb rfl _ (load_job hk6) _ rfl) rfl (NextPost.none HNO.out rfl ((HC2.out.trans HCH.out (fun _ _ h => h)).trans hc6 (fun i hi h => by have := HSZ.out; omega)))
  · have hst' : ((s.st : Int) != 1) = true := by rw [bne_iff_ne]; omega
    have HN := hid (next_not hst)
    clear hst
    go_enter Tryz.func41, Tryz.ntmps41
    go_wp2_with (first | (guard_target =~ wpList _ _ _ (Oper.mk (some 2) _ _ _ _ _ :: _) _ _; refine wpList_alloc0 rfl 85 rfl noJob (allocJob _) ?_; intro w2 hk2 hs2 hc2; rw [HS1.out] at hk2 hs2; have HX2 := hid (hc2.obj HX1.out (fun h => h)); have HJ2 := hid hk2; have HC2 := hid (HC1.out.trans hc2 (fun _ _ h => h)); have HS2 := hid hs2; clear hk2 hs2 hc2; have x0 := cell_of HX2.out 0; simp at x0) | (go_at_call 42; refine (bstate_any (H.out.same HC2.out)).mono ?_; rintro e w3 ⟨rfl, rfl⟩) | (guard_target =~ wpList _ _ _ (Oper.mk (some 14) _ _ _ _ _ :: _) _ _; refine wpList_build0 rfl 85 rfl _ (buildJob0 _) ?_) | (guard_target =~ wpList _ _ _ (Oper.mk none _ _ _ _ _ :: _) _ _; refine wpList_store0 rfl 85 _ _ rfl (w.heap.size + 1) noJob noJob rfl rfl HJ2.out (by unfold noJob; rw [jobA_size]; exact sizeJob) rfl (jobA_one _ _ _ _ rfl _) ?_; intro w6 hk6 hs6 hc6))
    refine bodyPost_ret (v := .tuple #[.agg noJob, .bool false]) (results_cell2 Tryz.results41 _ _ (w.heap.size + 1) rfl _ (load_job hk6) _ rfl) rfl (NextPost.none HN.out rfl (HC2.out.trans hc6 (fun i hi h => by omega)))
end Go.Proofs.YthglfmacjoecgaaGreatDoor
namespace Go.Proofs.YthglfmacjoecgaaGreatDoor
open Go.RowKit

def GivePost (w : World) (b r : Nat) (fp : Nat → Prop) (sv av ov : Value) (iv : Nat → Value) (s : BkS) (place : Int) (x : ResR) (e : Ending) (w' : World) : Prop :=
  e = .returned (.int .i64 (s.give place x).1) ∧ BkTurn w b r fp sv av ov iv (s.give place x).2 w' ∧ ((s.give place x).1 ≠ 0 → Chg (fun _ => False) w w')
theorem next_some_any {B : Nat} {w : World} {b r : Nat} {fp : Nat → Prop} {sv av ov : Value} {iv : Nat → Value} {s : BkS} (h : IsBk w b r fp sv av ov iv s) (hz : BkSize s) (hT : TabsOK B w) (hB : B ≤ w.heap.size) {i : Nat} (hi : s.next = some i) :
    Calls Tryz.prog 41 #[.pointer (some ⟨b, 0, none⟩)] w (fun e w' => Chg (fun _ => False) w w' ∧ ∃ inV K, e = .returned (.tuple #[.agg (jobA (bs (nameAt s.g i)) i (bs (codeAt s.g i)) inV K), .bool true]) ∧ ResAt w' inV (insT2 s.g s.t i) ∧ K = keyF (bs (codeAt s.g i)) (insT2 s.g s.t i) ∧ i < s.g.acts.length) :=
  (bnext_any h hz hT hB).mono (fun e w' ⟨h1, h2⟩ => ⟨h1, by
    rcases h2 with ⟨h2, _⟩ | ⟨j, inV, h2, h3, h4, h5⟩
    · rw [hi] at h2; cases h2
    · rw [hi] at h2
      obtain rfl := Option.some.inj h2
      exact ⟨inV, _, h4, h5, rfl, h3⟩⟩)
theorem next_none_any {B : Nat} {w : World} {b r : Nat} {fp : Nat → Prop} {sv av ov : Value} {iv : Nat → Value} {s : BkS} (h : IsBk w b r fp sv av ov iv s) (hz : BkSize s) (hT : TabsOK B w) (hB : B ≤ w.heap.size) (hi : s.next = none) :
    Calls Tryz.prog 41 #[.pointer (some ⟨b, 0, none⟩)] w (Rets (.tuple #[.agg noJob, .bool false]) (Chg (fun _ => False) w)) :=
  (bnext_any h hz hT hB).mono (fun e w' ⟨h1, h2⟩ => by
    rcases h2 with ⟨_, h3⟩ | ⟨j, inV, h2, _⟩
    · exact ⟨h3, h1⟩
    · rw [hi] at h2; cases h2)
theorem give_none {s : BkS} {place : Int} {x : ResR} (h : s.next = none) : s.give place x = (12, s) := by unfold BkS.give; rw [h]
theorem give_other {s : BkS} {place : Int} {x : ResR} {i : Nat} (h : s.next = some i) (hp : ¬ (i : Int) = place) : s.give place x = (12, s) := by unfold BkS.give; rw [h]; simp only; rw [if_neg hp]
theorem give_bad {s : BkS} {place : Int} {x : ResR} {i : Nat} (h : s.next = some i) (hp : (i : Int) = place) (hx : resOK x = false) : s.give place x = (1, s) := by unfold BkS.give; rw [h]; simp only; rw [if_pos hp, hx]; rfl
theorem give_ok {s : BkS} {place : Int} {x : ResR} {i : Nat} (h : s.next = some i) (hp : (i : Int) = place) (hx : resOK x = true) : s.give place x = (0, s.put i x) := by unfold BkS.give; rw [h]; simp only; rw [if_pos hp, hx]; rfl
set_option maxRecDepth 100000 in
set_option maxHeartbeats 8000000 in
theorem bgive_any {B : Nat} {w : World} {b r : Nat} {fp : Nat → Prop} {sv av ov : Value} {iv : Nat → Value} {s : BkS} (h : IsBk w b r fp sv av ov iv s) (hz : BkSize s) (hT : TabsOK B w) (hB : B ≤ w.heap.size) (place : Int) (x : ResR) (hx : x.2.size ≤ maxLen) :
    Calls Tryz.prog 44 #[.pointer (some ⟨b, 0, none⟩), .int .i64 place, resW x] w (GivePost w b r fp sv av ov iv s place x) := by
  have HRS := hid (fun w => bresult_any x hx w)
  obtain ⟨xc, xb⟩ := x
  unfold resW at HRS ⊢
  simp only at HRS ⊢
  have H := hid h
  have HZ := hid hz
  have HT := hid hT
  have HBB := hid hB
  have HC1 := hid (al_chg w (.cells #[.int .i64 xc, .string xb] 47))
  have HX1 := hid (heap_alloc_new' w (.cells #[.int .i64 xc, .string xb] 47))
  have HS1 : Hid ((w.alloc (.cells #[.int .i64 xc, .string xb] 47)).heap.size = w.heap.size + 1) := hid (by simp)
  clear h hz hT hB hx
  cases hn : s.next with
  | none =>
    have HNX := hid (next_none_any (H.out.same HC1.out) HZ.out (HT.out.keep HC1.out) (Nat.le_trans HBB.out HC1.out.size) hn)
    have HG := hid (give_none (place := place) (x := (xc, xb)) hn)
    clear hn
    go_enter Tryz.func44, Tryz.ntmps44
    go_wp2_with (first | (go_at_call 41; refine HNX.out.mono ?_; rintro e w2 ⟨rfl, hc2⟩; have HC2 := hid hc2; clear hc2) | (guard_target =~ wpList _ _ _ (Oper.mk (some 7) _ _ _ _ _ :: _) _ _; refine wpList_alloc0 rfl 85 rfl noJob (allocJob _) ?_; intro w3 hk3 hs3 hc3; have HK3 := hid hk3; have HC3 := hid hc3; clear hk3 hc3 hs3) | (guard_target =~ wpList _ _ _ (Oper.mk none (Op.store _ (Operand.tmp 7) _) _ _ _ _ :: _) _ _; refine wpList_store0 rfl 85 _ _ rfl w2.heap.size noJob noJob rfl rfl HK3.out (by unfold noJob; rw [jobA_size]; exact sizeJob) rfl (jobA_one _ _ _ _ rfl _) ?_; intro w4 hk4 hs4 hc4; have HC4 := hid (((HC1.out.trans HC2.out (fun _ _ h => h)).trans HC3.out (fun _ _ h => h)).trans hc4 (fun z hz e => by have h1 := HC1.out.size; have h2 := HC2.out.size; omega)); clear hk4 hs4 hc4))
    go_ret
    unfold GivePost
    rw [HG.out]
    exact ⟨rfl, ⟨HC4.out.mono (fun _ _ h => h.elim), H.out.same HC4.out⟩, fun _ => HC4.out⟩
  | some i =>
    have HNX := hid (next_some_any (H.out.same HC1.out) HZ.out (HT.out.keep HC1.out) (Nat.le_trans HBB.out HC1.out.size) hn)
    have HNM : Hid (∃ nm, nm = nameAt s.g i) := hid ⟨_, rfl⟩
    by_cases hp : (i : Int) = place
    · have HG1 := hid (give_bad (x := (xc, xb)) hn hp)
      have HG2 := hid (give_ok (x := (xc, xb)) hn hp)
      have hpb : ((i : Int) != place) = false := by rw [bne_eq_false_iff_eq]; exact hp
      have HPT : Hid (s.put i (xc, xb) = BkS.settle ⟨s.g, s.st, s.ord, lput (nameAt s.g i) (xc, xb) s.t⟩) := hid rfl
      clear hn hp HNM
      generalize nameAt s.g i = nm at *
      generalize codeAt s.g i = cd at *
      cases hro : resOK (xc, xb) with
      | false =>
        rw [hro] at HRS
        have HGB := hid (HG1.out hro)
        clear hro HG1 HG2
        go_enter Tryz.func44, Tryz.ntmps44
        go_wp2_with (first | (go_at_call 41; refine HNX.out.mono ?_; rintro e w2 ⟨hc2, inV, K, rfl, hin2, hK, hil⟩; have HC2 := hid hc2; have HIF := hid hin2.form; clear hc2 hin2 hK hil) | (guard_target =~ wpList _ _ _ (Oper.mk (some 7) _ _ _ _ _ :: _) _ _; refine wpList_alloc0 rfl 85 rfl noJob (allocJob _) ?_; intro w3 hk3 hs3 hc3; have HK3 := hid hk3; have HC3 := hid hc3; clear hk3 hc3 hs3) | (guard_target =~ wpList _ _ _ (Oper.mk none (Op.store _ (Operand.tmp 7) _) _ _ _ _ :: _) _ _; refine wpList_store0 rfl 85 _ _ rfl w2.heap.size noJob (jobA (bs nm) i (bs cd) inV K) rfl rfl HK3.out (by rw [jobA_size]; exact sizeJob) (by unfold noJob; rw [jobA_size, jobA_size]) (jobA_one _ _ _ _ (by obtain ⟨x1, x2, x3⟩ := HIF.out; rw [x3]; rfl) _) ?_; intro w4 hk4 hs4 hc4; have HK4 := hid hk4; have HC4 := hid (((HC1.out.trans HC2.out (fun _ _ h => h)).trans HC3.out (fun _ _ h => h)).trans hc4 (fun z hz e => by have h1 := HC1.out.size; have h2 := HC2.out.size; omega)); have HX4 : Hid (w4.heap[w.heap.size]? = some (.cells #[.int .i64 xc, .string xb] 47 (0, 0))) := hid (((HC2.out.trans HC3.out (fun _ _ h => h)).trans hc4 (F := fun _ => False) (fun z hz e => by have h1 := HC2.out.size; omega)).obj HX1.out (fun h => h)); have HSW : Hid (w.heap.size < w2.heap.size) := hid (by have h1 := HC2.out.size; have h2 := HS1.out; omega); clear hk4 hs4 hc4; have j1 := (job_cells HK4.out).2.1; have x0 := cell_of HX4.out 0; have x1 := cell_of HX4.out 1; simp at x0 x1) | (go_at_call 82; refine (HRS.out _).mono ?_; rintro e w5 ⟨rfl, hc5⟩; have HC5 := hid (HC4.out.trans hc5 (fun _ _ h => h)); clear hc5))
        go_ret
        unfold GivePost
        rw [HGB.out]
        exact ⟨rfl, ⟨HC5.out.mono (fun _ _ h => h.elim), H.out.same HC5.out⟩, fun _ => HC5.out⟩
      | true =>
        rw [hro] at HRS
        have HGB := hid (HG2.out hro)
        clear hro HG1 HG2
        go_enter Tryz.func44, Tryz.ntmps44
        go_upto_region 8 with (first | (go_at_call 41; refine HNX.out.mono ?_; rintro e w2 ⟨hc2, inV, K, rfl, hin2, hK, hil⟩; have HC2 := hid hc2; have HIF := hid hin2.form; clear hc2 hin2 hK hil) | (guard_target =~ wpList _ _ _ (Oper.mk (some 7) _ _ _ _ _ :: _) _ _; refine wpList_alloc0 rfl 85 rfl noJob (allocJob _) ?_; intro w3 hk3 hs3 hc3; have HK3 := hid hk3; have HC3 := hid hc3; clear hk3 hc3 hs3) | (guard_target =~ wpList _ _ _ (Oper.mk none (Op.store _ (Operand.tmp 7) _) _ _ _ _ :: _) _ _; refine wpList_store0 rfl 85 _ _ rfl w2.heap.size noJob (jobA (bs nm) i (bs cd) inV K) rfl rfl HK3.out (by rw [jobA_size]; exact sizeJob) (by unfold noJob; rw [jobA_size, jobA_size]) (jobA_one _ _ _ _ (by obtain ⟨x1, x2, x3⟩ := HIF.out; rw [x3]; rfl) _) ?_; intro w4 hk4 hs4 hc4; have HK4 := hid hk4; have HC4 := hid (((HC1.out.trans HC2.out (fun _ _ h => h)).trans HC3.out (fun _ _ h => h)).trans hc4 (fun z hz e => by have h1 := HC1.out.size; have h2 := HC2.out.size; omega)); have HX4 : Hid (w4.heap[w.heap.size]? = some (.cells #[.int .i64 xc, .string xb] 47 (0, 0))) := hid (((HC2.out.trans HC3.out (fun _ _ h => h)).trans hc4 (F := fun _ => False) (fun z hz e => by have h1 := HC2.out.size; omega)).obj HX1.out (fun h => h)); have HSW : Hid (w.heap.size < w2.heap.size) := hid (by have h1 := HC2.out.size; have h2 := HS1.out; omega); clear hk4 hs4 hc4; have j1 := (job_cells HK4.out).2.1; have x0 := cell_of HX4.out 0; have x1 := cell_of HX4.out 1; simp at x0 x1) | (go_at_call 82; refine (HRS.out _).mono ?_; rintro e w5 ⟨rfl, hc5⟩; have HC5 := hid (HC4.out.trans hc5 (fun _ _ h => h)); have HK5 := hid (hc5.obj HK4.out (fun h => h)); have HX5 := hid (hc5.obj HX4.out (fun h => h)); clear hc5 j1 x0 x1))
        have j0 := (job_cells HK5.out).1
        have x0 := cell_of HX5.out 0
        have x1 := cell_of HX5.out 1
        simp at x0 x1
        have HB5 := hid (H.out.same HC5.out)
        have q4 := cell_of HB5.out.blk 4
        simp at q4
        go_still_tail 8, (by kernel_rfl)
        change wpList _ _ _ _ _ w5.drew
        refine wpList_mapUpdate_l rfl _ _ _ 110 rfl keyNm Tryz.underlying110 (show MapL w5.drew r nmV resW _ from HB5.out.map) rfl nm rfl (xc, xb) rfl ?_
        intro w8 hm8 hc8
        have hc58 : Chg (fun z => z = r) w5 w8 := ((Chg.refl (fun z => z = r) w5).drew).trans hc8 (fun _ _ h => h)
        have hb8 := hc58.obj HB5.out.blk (fun e => HB5.out.ne e)
        have HB8 := hid (HB5.out.turn (hc58.mono (fun _ _ h => .inr h)) hb8 hm8)
        have HC8 : Hid (Chg (fun k => k = b ∨ k = r) w w8) := hid ((HC5.out.mono (G := fun k => k = b ∨ k = r) (fun _ _ h => h.elim)).trans (hc58.mono (G := fun k => k = b ∨ k = r) (fun _ _ h => .inr h)) (fun _ _ h => h))
        have HST := hid (bsettle_any HB8.out HZ.out.ord HZ.out.n1 HZ.out.n2)
        clear hm8 hc8 hc58 hb8 q4 x0 x1 j0
        go_wp2_with (go_at_call 79; refine HST.out.mono ?_; rintro e w9 ⟨rfl, hc9, hb9⟩)
        go_ret
        unfold GivePost
        rw [HGB.out, HPT.out]
        exact ⟨rfl, ⟨HC8.out.trans hc9 (fun _ _ h => h), hb9⟩, fun h => absurd rfl h⟩
    · have hpb : ((i : Int) != place) = true := by rw [bne_iff_ne]; exact hp
      have HG := hid (give_other (x := (xc, xb)) hn hp)
      clear hn hp HNM
      generalize nameAt s.g i = nm at *
      generalize codeAt s.g i = cd at *
      go_enter Tryz.func44, Tryz.ntmps44
      go_wp2_with (first | (go_at_call 41; refine HNX.out.mono ?_; rintro e w2 ⟨hc2, inV, K, rfl, hin2, hK, hil⟩; have HC2 := hid hc2; have HIF := hid hin2.form; clear hc2 hin2 hK hil) | (guard_target =~ wpList _ _ _ (Oper.mk (some 7) _ _ _ _ _ :: _) _ _; refine wpList_alloc0 rfl 85 rfl noJob (allocJob _) ?_; intro w3 hk3 hs3 hc3; have HK3 := hid hk3; have HC3 := hid hc3; clear hk3 hc3 hs3) | (guard_target =~ wpList _ _ _ (Oper.mk none (Op.store _ (Operand.tmp 7) _) _ _ _ _ :: _) _ _; refine wpList_store0 rfl 85 _ _ rfl w2.heap.size noJob (jobA (bs nm) i (bs cd) inV K) rfl rfl HK3.out (by rw [jobA_size]; exact sizeJob) (by unfold noJob; rw [jobA_size, jobA_size]) (jobA_one _ _ _ _ (by obtain ⟨x1, x2, x3⟩ := HIF.out; rw [x3]; rfl) _) ?_; intro w4 hk4 hs4 hc4; have HK4 := hid hk4; have HC4 := hid (((HC1.out.trans HC2.out (fun _ _ h => h)).trans HC3.out (fun _ _ h => h)).trans hc4 (fun z hz e => by have h1 := HC1.out.size; have h2 := HC2.out.size; omega)); have HX4 : Hid (w4.heap[w.heap.size]? = some (.cells #[.int .i64 xc, .string xb] 47 (0, 0))) := hid (((HC2.out.trans HC3.out (fun _ _ h => h)).trans hc4 (F := fun _ => False) (fun z hz e => by have h1 := HC2.out.size; omega)).obj HX1.out (fun h => h)); have HSW : Hid (w.heap.size < w2.heap.size) := hid (by have h1 := HC2.out.size; have h2 := HS1.out; omega); clear hk4 hs4 hc4; have j1 := (job_cells HK4.out).2.1; have x0 := cell_of HX4.out 0; have x1 := cell_of HX4.out 1; simp at x0 x1))
      go_ret
      unfold GivePost
      rw [HG.out]
      exact ⟨rfl, ⟨HC4.out.mono (fun _ _ h => h.elim), H.out.same HC4.out⟩, fun _ => HC4.out⟩
set_option maxRecDepth 100000 in
theorem bstop_any {w : World} {b r : Nat} {fp : Nat → Prop} {sv av ov : Value} {iv : Nat → Value} {s : BkS} (h : IsBk w b r fp sv av ov iv s) :
    Calls Tryz.prog 48 #[.pointer (some ⟨b, 0, none⟩)] w (Rets (.tuple #[]) (BkTurn w b r fp sv av ov iv s.stop)) := by
  have b2 := cell_of h.blk 2
  have f2 := frozen_of h.blk 2
  simp at b2
  have H := hid h
  clear h
  by_cases hst : s.st = 1
  · have hst' : ((s.st : Int) == 1) = true := by rw [beq_iff_eq]; omega
    have HSS : Hid (s.stop = ⟨s.g, 3, s.ord, s.t⟩) := hid (by unfold BkS.stop; rw [if_pos hst])
    clear hst
    go_enter Tryz.func48, Tryz.ntmps48
    go_wp2_with (go_at_call 42; refine (bstate_any H.out).mono ?_; rintro e w3 ⟨rfl, rfl⟩)
    go_end0
    have hcd : Chg (fun k => k = b ∨ k = r) w (w.setCell ⟨b, 2, none⟩ (.int .i64 3)) := (Chg.refl (fun k => k = b ∨ k = r) w).setCell (p := ⟨b, 2, none⟩) (fun _ => .inl rfl) _
    refine ⟨rfl, hcd, ?_⟩
    rw [HSS.out]
    have hb2 := heap_set_same H.out.blk 2 (.int .i64 3)
    exact H.out.turn hcd (by simpa using hb2) (H.out.map.chg (F := fun k => k = b) ((Chg.refl (fun k => k = b) w).setCell (p := ⟨b, 2, none⟩) (fun _ => rfl) _) (fun e => H.out.ne e.symm))
  · have hst' : ((s.st : Int) == 1) = false := by rw [beq_eq_false_iff_ne]; omega
    have HSS : Hid (s.stop = s) := hid (by unfold BkS.stop; rw [if_neg hst])
    clear hst
    go_enter Tryz.func48, Tryz.ntmps48
    go_wp2_with (go_at_call 42; refine (bstate_any H.out).mono ?_; rintro e w3 ⟨rfl, rfl⟩)
    go_end0
    refine ⟨rfl, Chg.refl _ _, ?_⟩
    rw [HSS.out]
    exact H.out
end Go.Proofs.YthglfmacjoecgaaGreatDoor
