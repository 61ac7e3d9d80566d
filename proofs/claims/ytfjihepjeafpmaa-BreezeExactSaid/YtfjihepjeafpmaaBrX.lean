/- BreezeExact: the walk. -/
import Derived.Test.YtfjihepjeafpmaaBrW
import Derived.Test.YtfjihepjeafpmaaBrF
import Derived.BigQuiet
import Derived.Deep.RegionHeld3
namespace Go.Proofs.Ytfjihepjeafpmaa
open Go.RowKit

section
variable {P : Program} {w : World} {ops : Array Oper} {rest : List Oper} {o : Oper} {a : Act} {Q : Exit → Act → World → Prop}
theorem wpList_box0 (hg : o.guard = none) (t : TypeId) (x : Operand) (hop : o.op = Op.box t x) (zc : Array Value) (hx : a.eval x = .agg zc) (hr : (Instr.box t (.agg zc)).run P w = .ok (.pointer (some ⟨w.heap.size, 0, none⟩)) (w.alloc (.cells zc t)))
    (h : ∀ w', w'.heap[w.heap.size]? = some (.cells zc t (0, 0)) → w'.heap.size = w.heap.size + 1 → Chg (fun _ => False) w w' → wpList P ops Q rest (a.put o.dst (.pointer (some ⟨w.heap.size, 0, none⟩))) w') : wpList P ops Q (o :: rest) a w := by
  refine wpList_plain hg fun K' hK' => ?_
  unfold Oper.wp
  simp only [execOp, hop, Sem.run_bind, hx, hr, Result.andThen, Sem.run_pure, Oper.upon]
  exact hK' _ _ (h _ (heap_alloc_new w _) (by simp) ((Chg.refl _ w).alloc _))
end
def zc44 : Array Value := (Value.slice none 0 0 :: (List.replicate 49 false).map Value.bool).toArray
def z44 : Value := .agg zc44
theorem build44 (w : World) : (Instr.build 44 #[]).run Try.prog w = .ok z44 w := by kernel_rfl
theorem box44 (w : World) : (Instr.box 44 (.agg zc44)).run Try.prog w = .ok (.pointer (some ⟨w.heap.size, 0, none⟩)) (w.alloc (.cells zc44 44)) := by kernel_rfl

set_option maxRecDepth 100000 in
set_option maxHeartbeats 8000000 in
theorem exact_walk (w : World) (v : Value) (xs : List Deed) (hS : ActsAt w v xs) :
    Calls Try.prog 5 #[v] w (Rets (.bool true) (fun w' => Chg (fun _ => False) w w')) := by
  have hlen := hS.1.len (P := Try.prog) Try.underlying37
  by_cases hgr : greatB xs 250 = true
  · go_enter Try.func5, Try.ntmps5
    go_wp2_with (first | (go_at_call 8; refine (awake_any _).mono ?_; rintro e w1 ⟨rfl, hc1⟩) | (go_at_call 14; refine (great_any _ _ xs ⟨hS.1.chg hc1 (fun _ _ h => h), hS.2⟩).mono ?_; rintro e w1' ⟨rfl, rfl⟩))
    go_ret
    exact ⟨rfl, hc1⟩
  · have hgr' : greatB xs 250 = false := by simpa using hgr
    clear hgr
    go_enter Try.func5, Try.ntmps5
    go_wp2_with (first | (go_at_call 8; refine (awake_any _).mono ?_; rintro e w1 ⟨rfl, hc1⟩) | (go_at_call 14; refine (great_any _ _ xs ⟨hS.1.chg hc1 (fun _ _ h => h), hS.2⟩).mono ?_; rintro e w1' ⟨rfl, rfl⟩) | (go_at_call 9; refine (new_in _).mono ?_; rintro e w2 ⟨rfl, hB2, hc2⟩) | (refine wpList_build0 rfl 44 rfl z44 (build44 _) ?_) | (refine wpList_box0 rfl 44 _ rfl zc44 rfl (box44 _) ?_; intro w3 ha3 hs3 hc3))
    have hst : Ex w1.heap.size (w1.heap.size + 1) w1.heap.size w2.heap.size [] w1 w3 [] [] (List.replicate 49 false) [] := by
      obtain ⟨v2, g1, g2, g3, g4, g5⟩ := hB2
      have hlt := heap_lt g1.blk
      refine ⟨v2, .slice none 0 0, g1.chg hc3 (fun h => h) (fun h => h) (fun _ _ h => h), ⟨ha3, World.ownsRow_nil _ _ _ _, by simp [Value.ownBlock], by simp, by simp⟩, fun k hk => ⟨g4 k hk, ?_, by simp [Value.ownBlock]⟩, by simp [Value.ownBlock], by simp, (hc2.mono (fun _ _ h => h.elim)).trans hc3 (fun _ _ h => h.elim), by omega, by omega, by omega, by omega, by omega⟩
      have := (g1.own.lt k hk).2
      omega
    clear hB2 hc2 ha3 hc3 hs3
    go_loopw [5] (fun i wr => ∃ k : Nat, k ≤ xs.length ∧ i = .int .i64 k ∧ ∃ ls A l, Ex w1.heap.size (w1.heap.size + 1) w1.heap.size w2.heap.size [] w1 wr ls ls A l ∧ Tab2 A l ∧ Narrow ls) (fun i _ => xs.length - (intOf i).toNat)
    case atStart => exact ⟨0, Nat.zero_le _, rfl, _, _, _, hst, tab20, fun x hx => by simp at hx⟩
    case round =>
      obtain ⟨k, hk, rfl, ls, A, l, hI, hT, hN⟩ := hrel
      have hIc : Chg (fun k => w1.heap.size ≤ k) w1 wr := by obtain ⟨_, _, h⟩ := hI; exact h.ch
      by_cases hkn : k < xs.length ∧ k < 250
      · obtain ⟨hkn, hk250⟩ := hkn
        have hkn' : (k : Int) < xs.length := by omega
        have hk250' : (k : Int) < 250 := by omega
        obtain ⟨bb, oo, hix, hcs, hlt, hok⟩ := hS.at k hkn
        generalize xs[k] = d at *
        have hs1 := hc1.size
        have cAt : ∀ j u, d.cells[j]? = some u → wr.cell? ⟨bb, oo + j, none⟩ = some u := by
          intro j u hu
          exact hIc.cell (hc1.cell (hcs j u hu) (fun h => h)) (by simp; omega)
        have c0 := cAt 0 _ rfl
        have c1 := cAt 1 _ rfl
        have c2 := cAt 2 _ rfl
        have c3 := cAt 3 _ rfl
        have c4 := cAt 4 _ rfl
        have c5 := cAt 5 _ rfl
        have c6 := cAt 6 _ rfl
        have hbl := hok.1
        clear hcs cAt hok
        obtain ⟨kd, fr, to, by_, at_, pl, ms⟩ := d
        simp only at c0 c1 c2 c3 c4 c5 c6 hbl
        simp only [Nat.add_zero] at c0
        have hbl' : by_.size ≤ 9223372036854775807 := by unfold maxLen at hbl; omega
        have hE := hI.al #[.int .i64 kd, .int .i64 fr, .int .i64 to, .string by_, .int .i64 at_, .int .i64 pl, .int .i64 ms] 46
        have x0 := (hE.cell 0).trans rfl
        have x1 := (hE.cell 1).trans rfl
        have x2 := (hE.cell 2).trans rfl
        have x3 := (hE.cell 3).trans rfl
        have x4 := (hE.cell 4).trans rfl
        have x5 := (hE.cell 5).trans rfl
        have x6 := (hE.cell 6).trans rfl
        have HE := hid hE
        have HT := hid hT
        have HN := hid hN
        clear hI hE hT hN hIc
        by_cases k1 : kd = 1
        · subst k1
          go_wp2_with fail
          go_region_held3 (fun W => W.cell? ⟨wr.heap.size, 0, none⟩ = some (.int .i64 1) ∧ W.cell? ⟨wr.heap.size, 1, none⟩ = some (.int .i64 fr) ∧ W.cell? ⟨wr.heap.size, 2, none⟩ = some (.int .i64 to) ∧ W.cell? ⟨wr.heap.size, 3, none⟩ = some (.string by_) ∧ W.cell? ⟨wr.heap.size, 4, none⟩ = some (.int .i64 at_) ∧ W.cell? ⟨wr.heap.size, 5, none⟩ = some (.int .i64 pl) ∧ W.cell? ⟨wr.heap.size, 6, none⟩ = some (.int .i64 ms)) (first | exact ⟨x0, x1, x2, x3, x4, x5, x6⟩ | exact ⟨y0, y1, y2, y3, y4, y5, y6⟩ | exact ⟨z0, z1, z2, z3, z4, z5, z6⟩) (first | (go_at_call 10; refine (put_ex (HE.out.chg ((Chg.refl _ _).drewN _)) fr to by_ hbl').mono ?_; rintro e w5 ⟨rfl, h5⟩; have HI := hid h5; have y0 := (HI.out.cell 0).trans rfl; have y1 := (HI.out.cell 1).trans rfl; have y2 := (HI.out.cell 2).trans rfl; have y3 := (HI.out.cell 3).trans rfl; have y4 := (HI.out.cell 4).trans rfl; have y5 := (HI.out.cell 5).trans rfl; have y6 := (HI.out.cell 6).trans rfl; clear h5) | (go_at_call 15; refine (rput_ex HI.out fr to by_ hbl').mono ?_; rintro e w6 ⟨rfl, h6⟩; have HQ := hid h6; have z0 := (HQ.out.cell 0).trans rfl; have z1 := (HQ.out.cell 1).trans rfl; have z2 := (HQ.out.cell 2).trans rfl; have z3 := (HQ.out.cell 3).trans rfl; have z4 := (HQ.out.cell 4).trans rfl; have z5 := (HQ.out.cell 5).trans rfl; have z6 := (HQ.out.cell 6).trans rfl; clear h6))
          all_goals
            have HT2 := HT
            have HN2 := hid (HN.out.put fr to by_)
            go_wp2_with fail
            obtain ⟨vq, vuq, hq⟩ := HQ.out
            have u0 := hq.rf.c0
            have hlu := rlen_any hq.rf
            have r1 := (HQ.out.cell 1).trans rfl
            have r2 := (HQ.out.cell 2).trans rfl
            clear hq
            go_quiet (first | (go_at_call 22; refine Calls.quiet_of_same ((len_ex (HQ.out.chg ((Chg.refl _ _).drewN _))).mono (fun _ _ h => ⟨h.1, h.2.symm⟩))) | (go_at_call 23; refine Calls.quiet_of_same ((apart_ex (HQ.out.chg ((Chg.refl _ _).drewN _)) HT2.out _ _).mono (fun _ _ h => ⟨h.1, h.2.symm⟩))) | (go_at_call 24; refine Calls.quiet_of_same ((rapart_ex (HQ.out.chg ((Chg.refl _ _).drewN _)) _ _).mono (fun _ _ h => ⟨h.1, h.2.symm⟩))))
            go_wp2_with fail
            go_roundw
            case rel => exact ⟨k + 1, by omega, by go_num, _, _, _, (HQ.out.chg ((Chg.refl _ _).drewN _)).tail, HT2.out, HN2.out⟩
            case measure => simp [intOf]; omega
        · have b1 : (kd == 1) = false := by simpa using k1
          by_cases k2 : kd = 2
          · subst k2
            have ht1 : ∀ bl W, Ex w1.heap.size (w1.heap.size + 1) w1.heap.size w2.heap.size bl w1 W ls ls A l → Calls Try.prog 11 #[.pointer (some ⟨w1.heap.size + 1, 0, none⟩), .int .i64 at_] W (Rets (.tuple #[.agg #[.int .i64 (takeLd ls at_).fr, .int .i64 (takeLd ls at_).to, .string (takeLd ls at_).by_, .bool (takeLd ls at_).fl], .bool (isB ls at_)]) (fun w' => Ex w1.heap.size (w1.heap.size + 1) w1.heap.size w2.heap.size bl w1 w' (takeLs ls at_) ls A l)) := fun bl W h => take_ex h at_
            have ht2 : ∀ bl W, Ex w1.heap.size (w1.heap.size + 1) w1.heap.size w2.heap.size bl w1 W (takeLs ls at_) ls A l → Calls Try.prog 16 #[.pointer (some ⟨w2.heap.size, 0, none⟩), .int .i64 at_] W (Rets (.tuple #[.agg #[.int .i64 (takeLd ls at_).fr, .int .i64 (takeLd ls at_).to, .string (takeLd ls at_).by_, .bool (takeLd ls at_).fl], .bool (isB ls at_)]) (fun w' => Ex w1.heap.size (w1.heap.size + 1) w1.heap.size w2.heap.size bl w1 w' (takeLs ls at_) (takeLs ls at_) A l)) := fun bl W h => rtake_ex h at_
            generalize takeLd ls at_ = T at ht1 ht2
            generalize isB ls at_ = IB at ht1 ht2
            obtain ⟨tf, tt, tb, tl⟩ := T
            simp only at ht1 ht2
            go_wp2_with (first | (go_at_call 11; refine (ht1 _ _ HE.out).mono ?_; rintro e w5 ⟨rfl, h5⟩; have HI := hid (h5.al #[.int .i64 tf, .int .i64 tt, .string tb, .bool tl] 29); have y0 := (HI.out.tail.cell 0).trans rfl; have y1 := (HI.out.tail.cell 1).trans rfl; have y2 := (HI.out.tail.cell 2).trans rfl; have y3 := (HI.out.tail.cell 3).trans rfl; have y4 := (HI.out.tail.cell 4).trans rfl; have y5 := (HI.out.tail.cell 5).trans rfl; have y6 := (HI.out.tail.cell 6).trans rfl; clear h5) | (go_at_call 16; refine (ht2 _ _ HI.out).mono ?_; rintro e w6 ⟨rfl, h6⟩; have HJ := hid (h6.al #[.int .i64 tf, .int .i64 tt, .string tb, .bool tl] 47); have p0 := (HJ.out.cell 0).trans rfl; have p1 := (HJ.out.cell 1).trans rfl; have p2 := (HJ.out.cell 2).trans rfl; have p3 := (HJ.out.cell 3).trans rfl; have q0 := (HJ.out.tail.cell 0).trans rfl; have q1 := (HJ.out.tail.cell 1).trans rfl; have q2 := (HJ.out.tail.cell 2).trans rfl; have q3 := (HJ.out.tail.cell 3).trans rfl; clear h6))
            have HQ := hid HJ.out.tail.tail
            have HT2 := HT
            have HN2 := hid (HN.out.take at_)
            obtain ⟨vq, vuq, hq⟩ := HQ.out
            have u0 := hq.rf.c0
            have hlu := rlen_any hq.rf
            have r1 := (HQ.out.cell 1).trans rfl
            have r2 := (HQ.out.cell 2).trans rfl
            clear hq
            go_quiet (first | (go_at_call 22; refine Calls.quiet_of_same ((len_ex (HQ.out.chg ((Chg.refl _ _).drewN _))).mono (fun _ _ h => ⟨h.1, h.2.symm⟩))) | (go_at_call 23; refine Calls.quiet_of_same ((apart_ex (HQ.out.chg ((Chg.refl _ _).drewN _)) HT2.out _ _).mono (fun _ _ h => ⟨h.1, h.2.symm⟩))) | (go_at_call 24; refine Calls.quiet_of_same ((rapart_ex (HQ.out.chg ((Chg.refl _ _).drewN _)) _ _).mono (fun _ _ h => ⟨h.1, h.2.symm⟩))))
            go_wp2_with fail
            go_roundw
            case rel => exact ⟨k + 1, by omega, by go_num, _, _, _, (HQ.out.chg ((Chg.refl _ _).drewN _)).tail, HT2.out, HN2.out⟩
            case measure => simp [intOf]; omega
          · have b2 : (kd == 2) = false := by simpa using k2
            by_cases k3 : kd = 3
            · subst k3
              go_wp2_with fail
              go_region_held3 (fun W => W.cell? ⟨wr.heap.size, 0, none⟩ = some (.int .i64 3) ∧ W.cell? ⟨wr.heap.size, 1, none⟩ = some (.int .i64 fr) ∧ W.cell? ⟨wr.heap.size, 2, none⟩ = some (.int .i64 to) ∧ W.cell? ⟨wr.heap.size, 3, none⟩ = some (.string by_) ∧ W.cell? ⟨wr.heap.size, 4, none⟩ = some (.int .i64 at_) ∧ W.cell? ⟨wr.heap.size, 5, none⟩ = some (.int .i64 pl) ∧ W.cell? ⟨wr.heap.size, 6, none⟩ = some (.int .i64 ms)) (first | exact ⟨x0, x1, x2, x3, x4, x5, x6⟩ | exact ⟨y0, y1, y2, y3, y4, y5, y6⟩ | exact ⟨z0, z1, z2, z3, z4, z5, z6⟩) (first | (go_at_call 12; refine (copy_ex (HE.out.chg ((Chg.refl _ _).drewN _)) at_).mono ?_; rintro e w5 ⟨rfl, h5⟩; have HI := hid h5; have y0 := (HI.out.cell 0).trans rfl; have y1 := (HI.out.cell 1).trans rfl; have y2 := (HI.out.cell 2).trans rfl; have y3 := (HI.out.cell 3).trans rfl; have y4 := (HI.out.cell 4).trans rfl; have y5 := (HI.out.cell 5).trans rfl; have y6 := (HI.out.cell 6).trans rfl; clear h5) | (go_at_call 17; refine (rcopy_ex HI.out at_).mono ?_; rintro e w6 ⟨rfl, h6⟩; have HQ := hid h6; have z0 := (HQ.out.cell 0).trans rfl; have z1 := (HQ.out.cell 1).trans rfl; have z2 := (HQ.out.cell 2).trans rfl; have z3 := (HQ.out.cell 3).trans rfl; have z4 := (HQ.out.cell 4).trans rfl; have z5 := (HQ.out.cell 5).trans rfl; have z6 := (HQ.out.cell 6).trans rfl; clear h6))
              all_goals
                have HT2 := HT
                have HN2 := hid (HN.out.copy at_)
                go_wp2_with fail
                obtain ⟨vq, vuq, hq⟩ := HQ.out
                have u0 := hq.rf.c0
                have hlu := rlen_any hq.rf
                have r1 := (HQ.out.cell 1).trans rfl
                have r2 := (HQ.out.cell 2).trans rfl
                clear hq
                go_quiet (first | (go_at_call 22; refine Calls.quiet_of_same ((len_ex (HQ.out.chg ((Chg.refl _ _).drewN _))).mono (fun _ _ h => ⟨h.1, h.2.symm⟩))) | (go_at_call 23; refine Calls.quiet_of_same ((apart_ex (HQ.out.chg ((Chg.refl _ _).drewN _)) HT2.out _ _).mono (fun _ _ h => ⟨h.1, h.2.symm⟩))) | (go_at_call 24; refine Calls.quiet_of_same ((rapart_ex (HQ.out.chg ((Chg.refl _ _).drewN _)) _ _).mono (fun _ _ h => ⟨h.1, h.2.symm⟩))))
                go_wp2_with fail
                go_roundw
                case rel => exact ⟨k + 1, by omega, by go_num, _, _, _, (HQ.out.chg ((Chg.refl _ _).drewN _)).tail, HT2.out, HN2.out⟩
                case measure => simp [intOf]; omega
            · have b3 : (kd == 3) = false := by simpa using k3
              by_cases k4 : kd = 4
              · subst k4
                go_wp2_with fail
                go_region_held3 (fun W => W.cell? ⟨wr.heap.size, 0, none⟩ = some (.int .i64 4) ∧ W.cell? ⟨wr.heap.size, 1, none⟩ = some (.int .i64 fr) ∧ W.cell? ⟨wr.heap.size, 2, none⟩ = some (.int .i64 to) ∧ W.cell? ⟨wr.heap.size, 3, none⟩ = some (.string by_) ∧ W.cell? ⟨wr.heap.size, 4, none⟩ = some (.int .i64 at_) ∧ W.cell? ⟨wr.heap.size, 5, none⟩ = some (.int .i64 pl) ∧ W.cell? ⟨wr.heap.size, 6, none⟩ = some (.int .i64 ms)) (first | exact ⟨x0, x1, x2, x3, x4, x5, x6⟩ | exact ⟨y0, y1, y2, y3, y4, y5, y6⟩ | exact ⟨z0, z1, z2, z3, z4, z5, z6⟩) (first | (go_at_call 13; refine (flip_ex (HE.out.chg ((Chg.refl _ _).drewN _)) at_ pl ms).mono ?_; rintro e w5 ⟨rfl, h5⟩; have HI := hid h5; have y0 := (HI.out.cell 0).trans rfl; have y1 := (HI.out.cell 1).trans rfl; have y2 := (HI.out.cell 2).trans rfl; have y3 := (HI.out.cell 3).trans rfl; have y4 := (HI.out.cell 4).trans rfl; have y5 := (HI.out.cell 5).trans rfl; have y6 := (HI.out.cell 6).trans rfl; clear h5) | (go_at_call 18; refine (rflip_ex HI.out HN.out at_ pl ms).mono ?_; rintro e w6 ⟨rfl, h6⟩; have HQ := hid h6; have z0 := (HQ.out.cell 0).trans rfl; have z1 := (HQ.out.cell 1).trans rfl; have z2 := (HQ.out.cell 2).trans rfl; have z3 := (HQ.out.cell 3).trans rfl; have z4 := (HQ.out.cell 4).trans rfl; have z5 := (HQ.out.cell 5).trans rfl; have z6 := (HQ.out.cell 6).trans rfl; clear h6))
                all_goals
                  have HT2 := HT
                  have HN2 := hid (HN.out.flip at_ pl ms)
                  go_wp2_with fail
                  obtain ⟨vq, vuq, hq⟩ := HQ.out
                  have u0 := hq.rf.c0
                  have hlu := rlen_any hq.rf
                  have r1 := (HQ.out.cell 1).trans rfl
                  have r2 := (HQ.out.cell 2).trans rfl
                  clear hq
                  go_quiet (first | (go_at_call 22; refine Calls.quiet_of_same ((len_ex (HQ.out.chg ((Chg.refl _ _).drewN _))).mono (fun _ _ h => ⟨h.1, h.2.symm⟩))) | (go_at_call 23; refine Calls.quiet_of_same ((apart_ex (HQ.out.chg ((Chg.refl _ _).drewN _)) HT2.out _ _).mono (fun _ _ h => ⟨h.1, h.2.symm⟩))) | (go_at_call 24; refine Calls.quiet_of_same ((rapart_ex (HQ.out.chg ((Chg.refl _ _).drewN _)) _ _).mono (fun _ _ h => ⟨h.1, h.2.symm⟩))))
                  go_wp2_with fail
                  go_roundw
                  case rel => exact ⟨k + 1, by omega, by go_num, _, _, _, (HQ.out.chg ((Chg.refl _ _).drewN _)).tail, HT2.out, HN2.out⟩
                  case measure => simp [intOf]; omega
              · have b4 : (kd == 4) = false := by simpa using k4
                by_cases k5 : kd = 5
                · subst k5
                  go_wp2_with (first | (go_at_call 19; refine (cut_ex HE.out fr to).mono ?_; rintro e w5 ⟨rfl, h5⟩; have HI := hid h5; have y0 := (HI.out.cell 0).trans rfl; have y1 := (HI.out.cell 1).trans rfl; have y2 := (HI.out.cell 2).trans rfl; have y3 := (HI.out.cell 3).trans rfl; have y4 := (HI.out.cell 4).trans rfl; have y5 := (HI.out.cell 5).trans rfl; have y6 := (HI.out.cell 6).trans rfl; clear h5) | (go_at_call 20; refine (rset_ex HI.out fr to true).mono ?_; rintro e w6 ⟨rfl, h6⟩; have HQ := hid h6; clear h6))
                  have HT2 := hid (HT.out.cut fr to)
                  have HN2 := HN
                  obtain ⟨vq, vuq, hq⟩ := HQ.out
                  have u0 := hq.rf.c0
                  have hlu := rlen_any hq.rf
                  have r1 := (HQ.out.cell 1).trans rfl
                  have r2 := (HQ.out.cell 2).trans rfl
                  clear hq
                  go_quiet (first | (go_at_call 22; refine Calls.quiet_of_same ((len_ex (HQ.out.chg ((Chg.refl _ _).drewN _))).mono (fun _ _ h => ⟨h.1, h.2.symm⟩))) | (go_at_call 23; refine Calls.quiet_of_same ((apart_ex (HQ.out.chg ((Chg.refl _ _).drewN _)) HT2.out _ _).mono (fun _ _ h => ⟨h.1, h.2.symm⟩))) | (go_at_call 24; refine Calls.quiet_of_same ((rapart_ex (HQ.out.chg ((Chg.refl _ _).drewN _)) _ _).mono (fun _ _ h => ⟨h.1, h.2.symm⟩))))
                  go_wp2_with fail
                  go_roundw
                  case rel => exact ⟨k + 1, by omega, by go_num, _, _, _, (HQ.out.chg ((Chg.refl _ _).drewN _)).tail, HT2.out, HN2.out⟩
                  case measure => simp [intOf]; omega
                · have b5 : (kd == 5) = false := by simpa using k5
                  by_cases k6 : kd = 6
                  · subst k6
                    go_wp2_with (first | (go_at_call 21; refine (heal_ex HE.out fr to).mono ?_; rintro e w5 ⟨rfl, h5⟩; have HI := hid h5; have y0 := (HI.out.cell 0).trans rfl; have y1 := (HI.out.cell 1).trans rfl; have y2 := (HI.out.cell 2).trans rfl; have y3 := (HI.out.cell 3).trans rfl; have y4 := (HI.out.cell 4).trans rfl; have y5 := (HI.out.cell 5).trans rfl; have y6 := (HI.out.cell 6).trans rfl; clear h5) | (go_at_call 20; refine (rset_ex HI.out fr to false).mono ?_; rintro e w6 ⟨rfl, h6⟩; have HQ := hid h6; clear h6))
                    have HT2 := hid (HT.out.heal fr to)
                    have HN2 := HN
                    obtain ⟨vq, vuq, hq⟩ := HQ.out
                    have u0 := hq.rf.c0
                    have hlu := rlen_any hq.rf
                    have r1 := (HQ.out.cell 1).trans rfl
                    have r2 := (HQ.out.cell 2).trans rfl
                    clear hq
                    go_quiet (first | (go_at_call 22; refine Calls.quiet_of_same ((len_ex (HQ.out.chg ((Chg.refl _ _).drewN _))).mono (fun _ _ h => ⟨h.1, h.2.symm⟩))) | (go_at_call 23; refine Calls.quiet_of_same ((apart_ex (HQ.out.chg ((Chg.refl _ _).drewN _)) HT2.out _ _).mono (fun _ _ h => ⟨h.1, h.2.symm⟩))) | (go_at_call 24; refine Calls.quiet_of_same ((rapart_ex (HQ.out.chg ((Chg.refl _ _).drewN _)) _ _).mono (fun _ _ h => ⟨h.1, h.2.symm⟩))))
                    go_wp2_with fail
                    go_roundw
                    case rel => exact ⟨k + 1, by omega, by go_num, _, _, _, (HQ.out.chg ((Chg.refl _ _).drewN _)).tail, HT2.out, HN2.out⟩
                    case measure => simp [intOf]; omega
                  · have b6 : (kd == 6) = false := by simpa using k6
                    have HQ := HE
                    have HT2 := HT
                    have HN2 := HN
                    clear k1 k2 k3 k4 k5 k6
                    go_wp2_with fail
                    obtain ⟨vq, vuq, hq⟩ := HQ.out
                    have u0 := hq.rf.c0
                    have hlu := rlen_any hq.rf
                    have r1 := (HQ.out.cell 1).trans rfl
                    have r2 := (HQ.out.cell 2).trans rfl
                    clear hq
                    go_quiet (first | (go_at_call 22; refine Calls.quiet_of_same ((len_ex (HQ.out.chg ((Chg.refl _ _).drewN _))).mono (fun _ _ h => ⟨h.1, h.2.symm⟩))) | (go_at_call 23; refine Calls.quiet_of_same ((apart_ex (HQ.out.chg ((Chg.refl _ _).drewN _)) HT2.out _ _).mono (fun _ _ h => ⟨h.1, h.2.symm⟩))) | (go_at_call 24; refine Calls.quiet_of_same ((rapart_ex (HQ.out.chg ((Chg.refl _ _).drewN _)) _ _).mono (fun _ _ h => ⟨h.1, h.2.symm⟩))))
                    go_wp2_with fail
                    go_roundw
                    case rel => exact ⟨k + 1, by omega, by go_num, _, _, _, (HQ.out.chg ((Chg.refl _ _).drewN _)).tail, HT2.out, HN2.out⟩
                    case measure => simp [intOf]; omega
      · have hor : (k : Int) < xs.length → 250 ≤ (k : Int) := by omega
        have HC := hid (hc1.trans hIc (fun i hi h => by have := hc1.size; omega))
        clear hI hT hN hIc
        go_wp2_with fail
        all_goals first | (exfalso; omega) | skip
        all_goals go_ret
        all_goals exact ⟨rfl, HC.out⟩
end Go.Proofs.Ytfjihepjeafpmaa
