/- recipe.Same walked. -/
import Derived.Test.YtbaipdhgjalgoaaDoorReN
namespace Go.Proofs.YtbaipdhgjalgoaaDoor
open Go.RowKit

def Ans (P : Prop) (w : World) (e : Ending) (w' : World) : Prop := ∃ B : Bool, e = .returned (.bool B) ∧ (B = true ↔ P) ∧ Chg (fun _ => False) w w'
theorem bs_eq (a b : List UInt8) : ((bs a).toList == (bs b).toList) = decide (a = b) := by
  rw [Lib.toList_data, Lib.toList_data, bs_data, bs_data]
  exact beq_dec a b

set_option maxRecDepth 100000 in
set_option maxHeartbeats 2000000 in
theorem equal_any (v u : Value) (ss ts : List (List UInt8)) (w : World) (hv : NamesAt w v ss) (hu : NamesAt w u ts) :
    Calls Tryd.prog 32 #[v, u] w (Ans (ss = ts) w) := by
  have hl1 := hv.len
  have hl2 := hu.len
  have hm1 := hv.le
  unfold maxLen at hm1
  have HV := hid hv
  have HU := hid hu
  clear hv hu
  by_cases hl : ss.length = ts.length
  · have hl' : (ss.length : Int) = ts.length := by omega
    rw [← hl] at hl2
    go_enter Tryd.func32, Tryd.ntmps32
    go_wp2_with fail
    go_loopw [13] (fun i wr => ∃ k : Nat, k ≤ ss.length ∧ i = .int .i64 k ∧ Chg (fun _ => False) w wr ∧ ss.take k = ts.take k) (fun i _ => ss.length - (intOf i).toNat)
    case atStart => exact ⟨0, Nat.zero_le _, rfl, Chg.refl _ _, rfl⟩
    case round =>
      obtain ⟨k, hk, rfl, hch, htk⟩ := hrel
      have HC := hid hch
      have HT := hid htk
      have S1 := HV.out.chg hch (fun _ _ h => h)
      have S2 := HU.out.chg hch (fun _ _ h => h)
      clear hch htk
      by_cases hkn : k < ss.length
      · have hkn' : (k : Int) < ss.length := by omega
        obtain ⟨ad, hix, hadc, hadb⟩ := S1.ix k hkn
        obtain ⟨ad2, hix2, hadc2, hadb2⟩ := S2.ix k (by omega)
        clear S1 S2
        by_cases he : ss[k] = ts[k]'(by omega)
        · rw [← he] at hadc2
          have hst : ss.take (k + 1) = ts.take (k + 1) := by rw [List.take_succ_eq_append_getElem hkn, List.take_succ_eq_append_getElem (by omega), HT.out, he]
          have HST := hid hst
          clear hst he
          generalize bs ss[k] = x at *
          go_wp2_with fail
          go_quiet (fail)
          go_wp2_with fail
          go_roundw
          case rel => exact ⟨k + 1, by omega, by go_num, HC.out.drewN _, HST.out⟩
          case measure => simp [intOf]; omega
        · have hne := bs_eq ss[k] (ts[k]'(by omega))
          rw [decide_eq_false he] at hne
          have HE := hid he
          clear he
          generalize bs ss[k] = x at *
          generalize bs (ts[k]'(by omega)) = y at *
          go_wp2_with fail
          go_quiet (fail)
          go_wp2_with fail
          go_ret
          refine ⟨false, rfl, ⟨fun h => (Bool.false_ne_true h).elim, fun h => ?_⟩, HC.out.drewN _⟩
          subst h
          exact absurd rfl HE.out
      · obtain rfl : k = ss.length := by omega
        clear S1 S2
        go_wp2_with fail
        go_ret
        refine ⟨true, rfl, ⟨fun _ => ?_, fun _ => rfl⟩, HC.out⟩
        have := HT.out
        rw [List.take_length, hl, List.take_length] at this
        exact this
  · have hl' : ¬ (ss.length : Int) = ts.length := by omega
    go_enter Tryd.func32, Tryd.ntmps32
    go_wp2_with fail
    go_ret
    exact ⟨false, rfl, ⟨fun h => (Bool.false_ne_true h).elim, fun h => absurd (congrArg List.length h) hl⟩, Chg.refl _ _⟩

theorem eqNamed (a b : ByteArray) (w : World) : (Op.equal 40 (.agg #[.string a]) (.agg #[.string b])).run Tryd.prog w = .ok (a.toList == b.toList) w := by
  have hs : Tryd.prog.stoodInHeld 40 = false := by kernel_rfl
  unfold Op.equal Op.maxDepth
  show (Op.equalIn (9998 + 1 + 1) 40 (.agg #[.string a]) (.agg #[.string b])).run Tryd.prog w = _
  simp [go_sem, hs]
  by_cases h : a.toList = b.toList <;> simp [h]

set_option maxRecDepth 100000 in
set_option maxHeartbeats 2000000 in
theorem sameAction_any (a b : ActR) (iv ju : Value) (w : World) (hi : NamesAt w iv a.ins) (hj : NamesAt w ju b.ins) :
    Calls Tryd.prog 34 #[actV a iv, actV b ju] w (Ans (a = b) w) := by
  obtain ⟨an, ai, ac⟩ := a
  obtain ⟨bn, bi, bc⟩ := b
  have hC : Chg (fun _ => False) w ((w.alloc (.cells #[.string (bs an), iv, .string (bs ac)] 42)).alloc (.cells #[.string (bs bn), ju, .string (bs bc)] 42)) := ((Chg.refl _ w).alloc _).alloc _
  have he := equal_any iv ju ai bi _ (hi.chg hC (fun _ _ h => h)) (hj.chg hC (fun _ _ h => h))
  have h1 := bs_eq an bn
  have h2 := bs_eq ac bc
  have hE := fun w => eqNamed (bs an) (bs bn) w
  have HC := hid hC
  unfold actV
  clear hi hj hC
  by_cases e1 : an = bn
  · rw [decide_eq_true e1] at h1
    by_cases e2 : ac = bc
    · rw [decide_eq_true e2] at h2
      have HE : Hid (ai = bi → (⟨an, ai, ac⟩ : ActR) = ⟨bn, bi, bc⟩) := fun h => by rw [e1, e2, h]
      clear e1 e2
      rw [h1] at hE
      generalize bs an = x1 at *
      generalize bs bn = x2 at *
      generalize bs ac = x3 at *
      generalize bs bc = x4 at *
      go_enter Tryd.func34, Tryd.ntmps34
      go_wp2_with (go_at_call 32; refine he.mono ?_; rintro e w' ⟨B, rfl, hB, hc⟩)
      go_ret
      exact ⟨B, rfl, ⟨fun h => HE.out (hB.1 h), fun h => hB.2 (by cases h; rfl)⟩, HC.out.trans hc (fun _ _ h => h)⟩
    · rw [decide_eq_false e2] at h2
      have HE : Hid (¬ (⟨an, ai, ac⟩ : ActR) = ⟨bn, bi, bc⟩) := fun h => e2 (by cases h; rfl)
      clear e1 e2 he
      rw [h1] at hE
      generalize bs an = x1 at *
      generalize bs bn = x2 at *
      generalize bs ac = x3 at *
      generalize bs bc = x4 at *
      go_enter Tryd.func34, Tryd.ntmps34
      go_wp2_with fail
      go_ret
      exact ⟨false, rfl, ⟨fun h => (Bool.false_ne_true h).elim, fun h => absurd h HE.out⟩, HC.out⟩
  · rw [decide_eq_false e1] at h1
    have HE : Hid (¬ (⟨an, ai, ac⟩ : ActR) = ⟨bn, bi, bc⟩) := fun h => e1 (by cases h; rfl)
    clear e1 he
    rw [h1] at hE
    generalize bs an = x1 at *
    generalize bs bn = x2 at *
    generalize bs ac = x3 at *
    generalize bs bc = x4 at *
    go_enter Tryd.func34, Tryd.ntmps34
    go_wp2_with fail
    go_ret
    exact ⟨false, rfl, ⟨fun h => (Bool.false_ne_true h).elim, fun h => absurd h HE.out⟩, HC.out⟩

set_option maxRecDepth 100000 in
set_option maxHeartbeats 2000000 in
theorem equalActs_any (v u : Value) (xs ys : List ActR) (iv ju : Nat → Value) (w : World) (hv : ActsAt w v xs iv) (hu : ActsAt w u ys ju) :
    Calls Tryd.prog 33 #[v, u, .func (.func 34) #[] #[]] w (Ans (xs = ys) w) := by
  have hl1 := hv.len
  have hl2 := hu.len
  have hm1 := hv.rows.le
  unfold maxLen at hm1
  have HV := hid hv
  have HU := hid hu
  clear hv hu
  by_cases hl : xs.length = ys.length
  · have hl' : (xs.length : Int) = ys.length := by omega
    rw [← hl] at hl2
    go_enter Tryd.func33, Tryd.ntmps33
    go_wp2_with fail
    go_loopw [17] (fun i wr => ∃ k : Nat, k ≤ xs.length ∧ i = .int .i64 k ∧ Chg (fun _ => False) w wr ∧ xs.take k = ys.take k) (fun i _ => xs.length - (intOf i).toNat)
    case atStart => exact ⟨0, Nat.zero_le _, rfl, Chg.refl _ _, rfl⟩
    case round =>
      obtain ⟨k, hk, rfl, hch, htk⟩ := hrel
      have HC := hid hch
      have HT := hid htk
      have S1 := HV.out.chg hch (fun _ _ h => h)
      have S2 := HU.out.chg hch (fun _ _ h => h)
      clear hch htk
      by_cases hkn : k < xs.length
      · have hkn' : (k : Int) < xs.length := by omega
        obtain ⟨bb, oo, hix, hlt, e0, e1, e2, hns, hw1, hw2⟩ := S1.at k hkn
        obtain ⟨cc, pp, hix2, hlt2, f0, f1, f2, hns2, _, _⟩ := S2.at k (by omega)
        obtain ⟨oa, ca, hiv⟩ : ∃ oa ca, iv k = .slice oa xs[k].ins.length ca := by
          rcases hns.1 with ⟨h1, h2⟩ | ⟨a, cap, h1, _⟩
          · exact ⟨none, 0, by rw [h1, show xs[k].ins.length = 0 by simpa using congrArg List.length h2]⟩
          · exact ⟨some a, cap, by rw [h1]; simp⟩
        obtain ⟨ob, cb, hjv⟩ : ∃ ob cb, ju k = .slice ob (ys[k]'(by omega)).ins.length cb := by
          rcases hns2.1 with ⟨h1, h2⟩ | ⟨a, cap, h1, _⟩
          · exact ⟨none, 0, by rw [h1, show (ys[k]'(by omega)).ins.length = 0 by simpa using congrArg List.length h2]⟩
          · exact ⟨some a, cap, by rw [h1]; simp⟩
        have hsa : ∀ W, Chg (fun _ => False) wr W → Calls Tryd.prog 34 #[actV xs[k] (iv k), actV (ys[k]'(by omega)) (ju k)] W (Ans (xs[k] = ys[k]'(by omega)) W) := fun W hW => sameAction_any _ _ _ _ W (hns.chg hW (fun _ _ h => h)) (hns2.chg hW (fun _ _ h => h))
        unfold actV at hsa
        rw [hiv] at hsa e1
        rw [hjv] at hsa f1
        have hc1 : Chg (fun _ => False) wr ((wr.alloc (.cells #[.string (bs xs[k].name), .slice oa xs[k].ins.length ca, .string (bs xs[k].code)] 42)).alloc (.cells #[.string (bs (ys[k]'(by omega)).name), .slice ob (ys[k]'(by omega)).ins.length cb, .string (bs (ys[k]'(by omega)).code)] 42)) := ((Chg.refl _ wr).alloc _).alloc _
        have hs1 := hsa _ hc1
        have g0 := cell_alloc' f0 (.cells #[.string (bs xs[k].name), .slice oa xs[k].ins.length ca, .string (bs xs[k].code)] 42)
        have g1 := cell_alloc' f1 (.cells #[.string (bs xs[k].name), .slice oa xs[k].ins.length ca, .string (bs xs[k].code)] 42)
        have g2 := cell_alloc' f2 (.cells #[.string (bs xs[k].name), .slice oa xs[k].ins.length ca, .string (bs xs[k].code)] 42)
        have HTK : Hid (xs[k] = ys[k]'(by omega) → xs.take (k + 1) = ys.take (k + 1)) := fun h => by
          rw [List.take_succ_eq_append_getElem hkn, List.take_succ_eq_append_getElem (by omega), HT.out, h]
        have HNE : Hid (xs = ys → xs[k] = ys[k]'(by omega)) := fun h => by subst h; rfl
        have HC1 := hid hc1
        clear S1 S2 hsa hns hns2 hw1 hw2 hiv hjv hc1
        generalize bs xs[k].name = x1 at *
        generalize bs (ys[k]'(by omega)).name = x2 at *
        generalize bs xs[k].code = x3 at *
        generalize bs (ys[k]'(by omega)).code = x4 at *
        generalize xs[k].ins.length = n1 at *
        generalize (ys[k]'(by omega)).ins.length = n2 at *
        go_wp2_with (go_at_call 34; refine hs1.mono ?_; rintro e w' ⟨B, rfl, hB, hc⟩; have HBB := hid hB; clear hB; cases B)
        · go_wp2_with fail
          go_ret
          exact ⟨false, rfl, ⟨fun h => (Bool.false_ne_true h).elim, fun h => absurd (HBB.out.2 (HNE.out h)) Bool.false_ne_true⟩, (HC.out.trans HC1.out (fun _ _ h => h)).trans hc (fun _ _ h => h)⟩
        · go_wp2_with fail
          go_roundw
          case rel => exact ⟨k + 1, by omega, by go_num, (HC.out.trans HC1.out (fun _ _ h => h)).trans hc (fun _ _ h => h), HTK.out (HBB.out.1 (by first | exact rfl | trivial))⟩
          case measure => simp [intOf]; omega
      · obtain rfl : k = xs.length := by omega
        clear S1 S2
        go_wp2_with fail
        go_ret
        refine ⟨true, rfl, ⟨fun _ => ?_, fun _ => rfl⟩, HC.out⟩
        have := HT.out
        rw [List.take_length, hl, List.take_length] at this
        exact this
  · have hl' : ¬ (xs.length : Int) = ys.length := by omega
    go_enter Tryd.func33, Tryd.ntmps33
    go_wp2_with fail
    go_ret
    exact ⟨false, rfl, ⟨fun h => (Bool.false_ne_true h).elim, fun h => absurd (congrArg List.length h) hl⟩, Chg.refl _ _⟩

set_option maxRecDepth 100000 in
set_option maxHeartbeats 2000000 in
theorem same_any (g h : GrR) (v u : Value) (w : World) (hv : GrAt w v g) (hu : GrAt w u h) : Calls Tryd.prog 17 #[v, u] w (Ans (g = h) w) := by
  obtain ⟨sv, av, iv, rfl, h1, h2⟩ := hv
  obtain ⟨su, au, ju, rfl, h3, h4⟩ := hu
  have hC : Chg (fun _ => False) w ((w.alloc (.cells #[sv, av] 26)).alloc (.cells #[su, au] 26)) := ((Chg.refl _ w).alloc _).alloc _
  have he := equal_any sv su g.srcs h.srcs _ (h1.chg hC (fun _ _ h => h)) (h3.chg hC (fun _ _ h => h))
  have hA : ∀ W, Chg (fun _ => False) ((w.alloc (.cells #[sv, av] 26)).alloc (.cells #[su, au] 26)) W → Calls Tryd.prog 33 #[av, au, .func (.func 34) #[] #[]] W (Ans (g.acts = h.acts) W) := fun W hW =>
    equalActs_any av au g.acts h.acts iv ju W (h2.chg (hC.trans hW (fun _ _ h => h)) (fun _ _ h => h)) (h4.chg (hC.trans hW (fun _ _ h => h)) (fun _ _ h => h))
  have k1 : ((w.alloc (.cells #[sv, av] 26)).alloc (.cells #[su, au] 26)).heap[w.heap.size]? = some (.cells #[sv, av] 26 (0, 0)) := heap_alloc_old' (heap_alloc_new' w _) _
  have k2 : ((w.alloc (.cells #[sv, av] 26)).alloc (.cells #[su, au] 26)).heap[w.heap.size + 1]? = some (.cells #[su, au] 26 (0, 0)) := by
    have := heap_alloc_new' (w.alloc (.cells #[sv, av] 26)) (.cells #[su, au] 26)
    simpa using this
  have HC := hid hC
  have HA := hid hA
  have K1 := hid k1
  have K2 := hid k2
  have HE : Hid (g.srcs = h.srcs → g.acts = h.acts → g = h) := fun e1 e2 => by cases g; cases h; simp_all
  clear h1 h2 h3 h4 hC hA k1 k2
  go_enter Tryd.func17, Tryd.ntmps17
  go_wp2_with (go_at_call 32; refine he.mono ?_; rintro e w' ⟨B, rfl, hB, hc⟩; have HB := hid hB; have q1 := cell_of (hc.obj K1.out (fun h => h)) 1; have q2 := cell_of (hc.obj K2.out (fun h => h)) 1; simp at q1 q2; clear hB; cases B)
  · go_wp2_with fail
    go_ret
    exact ⟨false, rfl, ⟨fun h => (Bool.false_ne_true h).elim, fun h => HB.out.2 (by rw [h])⟩, HC.out.trans hc (fun _ _ h => h)⟩
  · go_wp2_with (go_at_call 33; refine (HA.out _ hc).mono ?_; rintro e w3 ⟨B2, rfl, hB2, hc2⟩; have HB2 := hid hB2; clear hB2)
    go_ret
    exact ⟨B2, rfl, ⟨fun h => HE.out (HB.out.1 (by first | exact rfl | trivial)) (HB2.out.1 h), fun h => HB2.out.2 (by rw [h])⟩, (HC.out.trans hc (fun _ _ h => h)).trans hc2 (fun _ _ h => h)⟩
end Go.Proofs.YtbaipdhgjalgoaaDoor
