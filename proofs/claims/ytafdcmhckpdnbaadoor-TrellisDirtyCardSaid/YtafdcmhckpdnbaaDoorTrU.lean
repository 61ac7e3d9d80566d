/- TrellisDirty walked: it returns true. -/
import Derived.Test.YtafdcmhckpdnbaaDoorTrQ
import Derived.Test.YtafdcmhckpdnbaaDoorTrR
import Derived.Deep.DeepCutAuto
namespace Go.Proofs.YtafdcmhckpdnbaaDoor
open Go.RowKit

/-- What needs' answer says, in the law's words. -/
structure NeedFacts (g : GrR) (i : Nat) (n : List Nm) : Prop where
  rise : ∀ q (h : q < n.length), 0 < q → n[q - 1]'(by omega) < n[q]
  from_ : ∀ s ∈ n, s ∈ insAt g i ∨ ∃ t ∈ insAt g i, s ∈ needsOf g t
  ins : ∀ s ∈ insAt g i, s ∈ n
  self : nameAt g i ∉ n
  le8 : ∀ s ∈ n, s.length ≤ 8
  le20 : n.length ≤ 20
theorem rise_nodup : ∀ {l : List Nm}, Rise l → l.Nodup := fun h => h.imp (fun hlt e => by subst e; exact List.lt_irrefl _ hlt)
theorem Can.needFacts {g : GrR} (hc : Can g) {i : Nat} (hi : i < g.acts.length) : NeedFacts g i (needsR g i) := by
  refine ⟨fun q h hq => ?_, fun s hs => ?_, fun s hs => ?_, fun h => hc.irrefl hi ((hc.mem_needs hi).1 h), fun s hs => name_le hc.w (((hc.mem_needs hi).1 hs).names hc.w hi), ?_⟩
  · exact (List.pairwise_iff_getElem.1 (needsR_rise g i)) (q - 1) q (by omega) h (by omega)
  · rcases ((hc.mem_needs hi).1 hs).front with h | ⟨t, ht, j, hj, h⟩
    · exact .inl h
    · refine .inr ⟨t, ht, ?_⟩
      unfold needsOf
      rw [if_pos (can_iff.2 hc), hj]
      exact (hc.mem_needs (placeOf_some hj).1).2 h
  · exact (hc.mem_needs hi).2 (.base hs)
  · have h1 := sub_length (needsR g i) (namesL g) (rise_nodup (needsR_rise g i)) (fun s hs => ((hc.mem_needs hi).1 hs).names hc.w hi)
    have h2 := hc.w.srcs8
    have h3 := hc.w.acts12
    unfold namesL at h1
    simp at h1
    omega
theorem needsOf_at {g : GrR} (hc : Can g) {i : Nat} (hi : i < g.acts.length) : needsOf g (nameAt g i) = needsR g i := by
  unfold needsOf
  rw [if_pos (can_iff.2 hc), hc.w.place hi]
theorem any_or_take (n names : List Nm) (B : Bool) (q : Nat) (h : q < n.length) : (B || (n.take (q + 1)).any names.contains) = ((B || (n.take q).any names.contains) || names.contains n[q]) := by
  rw [List.take_succ_eq_append_getElem h, List.any_append]
  simp [Bool.or_assoc]
theorem dirtyB_words (g : GrR) (names : List Nm) (i : Nat) : (names.contains (nameAt g i) || (needsR g i).any names.contains) = dirtyB g names i := by
  rw [Bool.eq_iff_iff, dirtyB_iff]
  simp [List.any_eq_true]
/-- What has been found of the places from which a name is needed. -/
def fromB (g : GrR) (ins : List Nm) (s : Nm) (r : Nat) : Bool := ins.contains s || (ins.take r).any (fun t => (needsOf g t).contains s)
theorem fromB_succ (g : GrR) (ins : List Nm) (s : Nm) (r : Nat) (h : r < ins.length) : fromB g ins s (r + 1) = (fromB g ins s r || (needsOf g ins[r]).contains s) := by
  unfold fromB
  rw [List.take_succ_eq_append_getElem h, List.any_append]
  simp [Bool.or_assoc]
theorem fromB_full {g : GrR} {i : Nat} {n : List Nm} (hf : NeedFacts g i n) {s : Nm} (hs : s ∈ n) : fromB g (insAt g i) s (insAt g i).length = true := by
  unfold fromB
  rw [List.take_length]
  rcases hf.from_ s hs with h | ⟨t, ht, h⟩
  · simp [h]
  · have : (insAt g i).any (fun t => (needsOf g t).contains s) = true := by
      rw [List.any_eq_true]
      exact ⟨t, ht, by simpa using h⟩
    rw [this, Bool.or_true]
theorem less_bs {a b : Nm} (h : a < b) : Op.bytesLess (bs a).toList (bs b).toList = true := by
  rw [Lib.toList_data, Lib.toList_data, bs_data, bs_data, bytesLess_eq]
  simpa using h
theorem names_own {w : World} {v : Value} {l : List Nm} (h : w.ownsRow 0 9 1 v l.length (l.map nmV)) (h1 : l.length ≤ 100) (h2 : ∀ s ∈ l, s.length ≤ 1000) : NamesAt w v l :=
  NamesAt.of_owns h (by unfold maxLen; omega) (fun s hs => by have := h2 s hs; unfold maxLen; omega)

theorem needsOf_small {g : GrR} (hc : Can g) (t : Nm) : (needsOf g t).length ≤ 20 ∧ ∀ s ∈ needsOf g t, s.length ≤ 8 := by
  unfold needsOf
  rw [if_pos (can_iff.2 hc)]
  cases hp : placeOf g t with
  | none => simp
  | some i => exact ⟨(hc.needFacts (placeOf_some hp).1).le20, (hc.needFacts (placeOf_some hp).1).le8⟩

set_option maxRecDepth 100000 in
set_option maxHeartbeats 8000000 in
theorem dirtylaw_any (g : GrR) (names : List Nm) (v nv : Value) (w : World) (hg : GrAt w v g) (hns0 : NamesAt w nv names) : Calls Tryd.prog 5 #[v, nv] w (Rets (.bool true) (Chg (fun _ => False) w)) := by
  obtain ⟨oa, c, ob, d, iv, rfl, hs, ha⟩ := hg.form
  have hC1 : Chg (fun _ => False) w (w.alloc (.cells #[.slice oa g.srcs.length c, .slice ob g.acts.length d] 25)) := (Chg.refl _ w).alloc _
  have hgb : (w.alloc (.cells #[.slice oa g.srcs.length c, .slice ob g.acts.length d] 25)).heap[w.heap.size]? = some (.cells #[.slice oa g.srcs.length c, .slice ob g.acts.length d] 25 (0, 0)) := heap_alloc_new' w _
  have HG := hid (hg.chg hC1 (fun _ _ h => h))
  have HS := hid hs
  have HA := hid (ha.chg hC1 (fun _ _ h => h))
  have HNM := hid (hns0.chg hC1 (fun _ _ h => h))
  have HC1 := hid hC1
  have HGB := hid hgb
  clear hg hs ha hC1 hgb hns0
  go_enter Tryd.func5, Tryd.ntmps5
  go_wp2_with fail
  refine (awake_any _).mono ?_
  rintro e w1 ⟨rfl, hc1⟩
  generalize w.alloc (.cells #[.slice oa g.srcs.length c, .slice ob g.acts.length d] 25) = W0 at *
  have a0 := cell_of (hc1.obj HGB.out (fun h => h)) 0
  have a1 := cell_of (hc1.obj HGB.out (fun h => h)) 1
  simp at a0 a1
  have C := hid hc1
  clear hc1
  go_wp2_with fail
  refine (great_any g names _ _ _ (HG.out.chg C.out (fun _ _ h => h)) (HNM.out.chg C.out (fun _ _ h => h))).mono ?_
  rintro e w2 ⟨B, rfl, hc2, hB⟩
  have C2 := hid (C.out.trans hc2 (fun _ _ h => h))
  have a0 := cell_of (C2.out.obj HGB.out (fun h => h)) 0
  have a1 := cell_of (C2.out.obj HGB.out (fun h => h)) 1
  simp at a0 a1
  clear hc2 C hB
  cases B with
  | true =>
    go_wp2_with fail
    go_ret
    exact ⟨rfl, HC1.out.trans C2.out (fun _ _ h => h)⟩
  | false =>
    go_wp2_with fail
    refine (tcheck_any g _ _ (HG.out.chg C2.out (fun _ _ h => h))).mono ?_
    rintro e w4 ⟨rfl, hc4⟩
    have C4 := hid (C2.out.trans hc4 (fun _ _ h => h))
    have a0 := cell_of (C4.out.obj HGB.out (fun h => h)) 0
    have a1 := cell_of (C4.out.obj HGB.out (fun h => h)) 1
    simp at a0 a1
    clear hc4 C2
    by_cases hz : checkR g = 0
    · have hcan := can_iff.1 hz
      have hr : dirtyOf g names = dirtyR g names := by unfold dirtyOf; rw [if_pos hz]
      rw [hz]
      have hn12 := hcan.w.acts12
      have HCAN := hid hcan
      have hlA := HA.out.len
      have HR := hid hr
      clear hcan hz hr
      go_wp2_with fail
      refine (tdirty_any g names _ _ _ (HG.out.chg C4.out (fun _ _ h => h)) (HNM.out.chg C4.out (fun _ _ h => h))).mono ?_
      rintro e w5 ⟨hc5, v5, rfl, ho5⟩
      rw [HR.out] at ho5
      have hI := IntsAt.of_owns ho5
      obtain ⟨o5, c5, rfl⟩ := hI.form
      have HI := hid hI
      have HC5 := hid (C4.out.trans hc5 (fun _ _ h => h))
      have hdl : (dirtyR g names).length ≤ 12 := by
        have := List.length_filter_le (dirtyB g names) (List.range g.acts.length)
        unfold dirtyR
        simp at this ⊢
        omega
      clear hc5 ho5 hI C4 a0 a1
      generalize hD : dirtyR g names = D at *
      have HD := hid hD
      clear hD HR
      go_wp2_with fail
      generalize w.heap.size = gb at *
      go_loopw [6, 7] (fun at_ i wr => ∃ k : Nat, k ≤ g.acts.length ∧ i = .int .i64 k ∧ at_ = .int .i64 ((List.range k).filter (dirtyB g names)).length ∧ Chg (fun _ => False) w5 wr) (fun _ i _ => g.acts.length - (intOf i).toNat)
      case atStart => exact ⟨0, Nat.zero_le _, rfl, rfl, Chg.refl _ _⟩
      case round =>
        obtain ⟨k, hk, rfl, rfl, hch⟩ := hrel
        have HC := hid (HC5.out.trans hch (fun _ _ h => h))
        have HCK := hid hch
        have a0 := cell_of (HC.out.obj HGB.out (fun h => h)) 0
        have a1 := cell_of (HC.out.obj HGB.out (fun h => h)) 1
        simp at a0 a1
        clear hch
        by_cases hkn : k < g.acts.length
        · have hkn' : (k : Int) < g.acts.length := by omega
          obtain ⟨bb, oo, hix, hlt, e0, e1, e2, hns, hw1, hw2⟩ := (HA.out.chg HC.out (fun _ _ h => h)).at k hkn
          obtain ⟨oi, ci, hiv⟩ := hns.form
          rw [hiv] at e1 hns
          have hda := dirty_at g names k hkn
          rw [HD.out] at hda
          have HDA := hid hda
          clear hda
          have HSN := hid (range_snoc g names k)
          have HDW := hid (dirtyB_words g names k)
          have hnf := HCAN.out.needFacts hkn
          have hno := needsOf_at HCAN.out hkn
          have hnmk := nameAt_lt g k hkn
          have hins := insAt_lt g k hkn
          have HNF := hid hnf
          have HNO := hid hno
          have hli := hns.le
          unfold maxLen at hli
          have hA7 : Chg (fun _ => False) wr (wr.alloc (.cells #[.string (bs g.acts[k].name), .slice oi g.acts[k].ins.length ci, .string (bs g.acts[k].code)] 41)) := al_chg wr _
          have kA7 := heap_alloc_new' wr (.cells #[.string (bs g.acts[k].name), .slice oi g.acts[k].ins.length ci, .string (bs g.acts[k].code)] 41)
          have b0 := cell_alloc' a0 (.cells #[.string (bs g.acts[k].name), .slice oi g.acts[k].ins.length ci, .string (bs g.acts[k].code)] 41)
          have b1 := cell_alloc' a1 (.cells #[.string (bs g.acts[k].name), .slice oi g.acts[k].ins.length ci, .string (bs g.acts[k].code)] 41)
          have HN7 := hid (hns.chg hA7 (fun _ _ h => h))
          have HK7 := hid kA7
          have HA7 := hid hA7
          rw [hnmk] at HNO HDW
          have HNMK := hid hnmk
          have HINS := hid hins
          clear hnf hno hnmk hins hns hA7 kA7 hw1 hw2 hiv hlt
          generalize g.acts[k].ins = ins at *
          generalize g.acts[k].name = nm at *
          generalize bs g.acts[k].code = cd at *
          generalize needsR g k = n at *
          obtain ⟨cnt, hcnt⟩ : ∃ cnt, cnt = ((List.range k).filter (dirtyB g names)).length := ⟨_, rfl⟩
          rw [← hcnt] at HDA ⊢
          have HCNT := hid hcnt.symm
          clear hcnt
          go_wp2_with fail
          generalize wr.alloc (.cells #[.string (bs nm), .slice oi ins.length ci, .string cd] 41) = W7 at *
          obtain ⟨ba, hba⟩ : ∃ ba, ba = wr.heap.size := ⟨_, rfl⟩
          rw [← hba] at HK7 ⊢
          clear hba
          refine (tneeds_any g nm _ W7 (HG.out.chg (HC.out.trans HA7.out (fun _ _ h => h)) (fun _ _ h => h))).mono ?_
          rintro e w8 ⟨hc8, v8, rfl, ho8⟩
          rw [HNO.out] at ho8
          have hN8 := names_own ho8 (by have := HNF.out.le20; omega) (fun s hs => by have := HNF.out.le8 s hs; omega)
          obtain ⟨o8, c8, rfl⟩ := hN8.form
          have HN8 := hid hN8
          have HC8 := hid ((HC.out.trans HA7.out (fun _ _ h => h)).trans hc8 (fun _ _ h => h))
          have HCK8 := hid ((HCK.out.trans HA7.out (fun _ _ h => h)).trans hc8 (fun _ _ h => h))
          have HK8 := hid (hc8.obj HK7.out (fun h => h))
          have d0 := cell_of HK8.out 0
          simp at d0
          have HNI8 := hid (HN7.out.chg hc8 (fun _ _ h => h))
          have hnl : n.length ≤ 20 := HNF.out.le20
          clear hN8 ho8 hc8 HK7 HN7 HA7 HCK HC a0 a1 b0 b1 e0 e1 e2
          go_wp2_with fail
          refine (in_any nv names nm w8 (HNM.out.chg HC8.out (fun _ _ h => h))).mono ?_
          rintro e w' ⟨rfl, rfl⟩
          generalize names.contains nm = B0 at *
          clear d0
          go_wp2_with fail
          go_loopw [10, 11] (fun is_ i wr => ∃ q : Nat, q ≤ n.length ∧ i = .int .i64 q ∧ is_ = .bool (B0 || (n.take q).any names.contains) ∧ Chg (fun _ => False) w8 wr) (fun _ i _ => n.length - (intOf i).toNat)
          case atStart => exact ⟨0, Nat.zero_le _, rfl, by simp, Chg.refl _ _⟩
          case round =>
            obtain ⟨q, hq, rfl, rfl, hch⟩ := hrel
            have HCQ := hid (HC8.out.trans hch (fun _ _ h => h))
            have HWQ := hid hch
            have d0 := cell_of (hch.obj HK8.out (fun h => h)) 0
            have d1 := cell_of (hch.obj HK8.out (fun h => h)) 1
            simp at d0 d1
            by_cases hqn : q < n.length
            · have hqn' : (q : Int) < n.length := by omega
              obtain ⟨ad, hixq, hadc, hadb⟩ := (HN8.out.chg hch (fun _ _ h => h)).ix q hqn
              have hstep := any_or_take n names B0 q hqn
              have HNIQ := hid (HNI8.out.chg hch (fun _ _ h => h))
              have HNMQ := hid (HNM.out.chg HCQ.out (fun _ _ h => h))
              have HMEM : Hid (n[q] ∈ n) := hid (List.getElem_mem hqn)
              have HLESS : Hid (∀ h : 0 < q, Op.bytesLess (bs (n[q - 1]'(by omega))).toList (bs n[q]).toList = true) := hid (fun h => less_bs (HNF.out.rise q hqn h))
              have HPREV : Hid (∀ h : 0 < q, ∃ a2 : Addr, (∀ w, (Instr.indexAt 22 (.slice o8 n.length c8) (.int .i64 ((q : Int) - 1))).run Tryd.prog w = .ok (.pointer (some a2)) w) ∧ wr.cell? a2 = some (.string (bs (n[q - 1]'(by omega))))) := hid (fun h => by
                obtain ⟨a2, h1, h2, _⟩ := (HN8.out.chg hch (fun _ _ h => h)).ix (q - 1) (by omega)
                refine ⟨a2, fun w => ?_, h2⟩
                have := h1 w
                rwa [show ((q - 1 : Nat) : Int) = (q : Int) - 1 by omega] at this)
              generalize (B0 || (n.take q).any names.contains) = bv at hstep
              clear hch
              generalize hnq : n[q] = s at *
              have HSTEP := hid hstep
              clear hstep hnq
              go_upto_region 16 with fail
              go_cut [10] from 57 to 65 (fun s10 wx => s10 = .bool (bv || names.contains s) ∧ wr = wx)
              case first =>
                cases bv with
                | true =>
                  go_wp2_with fail
                  go_meet
                  exact ⟨by simp, rfl⟩
                | false =>
                  go_wp2_with (go_at_call 21; refine (in_any nv names s wr HNMQ.out).mono ?_; rintro e w' ⟨rfl, rfl⟩)
                  go_meet
                  exact ⟨by simp, rfl⟩
              case rest =>
                obtain ⟨rfl, rfl⟩ := hcut
                generalize (bv || names.contains s) = bw at *
                go_upto_region 17 with fail
                go_cut [79] from 66 to 79 (fun s79 wx => s79 = .bool false ∧ Chg (fun _ => False) wr wx)
                case first =>
                  by_cases hq0 : 0 < q
                  · obtain ⟨a2, hix2, hc2⟩ := HPREV.out hq0
                    have hls := HLESS.out hq0
                    have hqd : decide (0 < q) = true := by simpa using hq0
                    have hw1 : IntKind.i64.wrap ((q : Int) - 1) = (q : Int) - 1 := by rw [IntKind.wrap_i64]; omega
                    generalize bs (n[q - 1]'(by omega)) = px at *
                    go_quiet (fail)
                    go_wp2_with fail
                    go_meet
                    exact ⟨by simp [hls], (Chg.refl (fun _ => False) wr).drewN nq⟩
                  · have hq0' : decide (0 < q) = false := by simpa using hq0
                    go_quiet (fail)
                    go_wp2_with fail
                    go_meet
                    exact ⟨by simp [hq0'], (Chg.refl (fun _ => False) wr).drewN nq⟩
                case rest =>
                  obtain ⟨rfl, hc9⟩ := hcut
                  have HC9 := hid hc9
                  clear hc9 HLESS HPREV
                  obtain ⟨W9, hW9⟩ : ∃ W9, W9 = wc := ⟨_, rfl⟩
                  rw [← hW9] at HC9 ⊢
                  clear hW9
                  go_wp2_with fail
                  have HN9 := hid (HNIQ.out.chg HC9.out (fun _ _ h => h))
                  have f1 := HC9.out.cell d1 (fun h => h)
                  have f2 := HC9.out.cell hadc (fun h => h)
                  go_quiet ((go_at_call 21; exact quietR (in_any _ ins s _ (show NamesAt (W9.drewN _) _ _ from HN9.out))))
                  have HC10 := hid (HC9.out.drewN nq)
                  clear f1 f2 HC9 HN9
                  generalize W9.drewN nq = W10 at *
                  generalize hbi : ins.contains s = BI at *
                  have HBI := hid hbi
                  clear hbi
                  go_wp2_with fail
                  go_loopw [12, 13] (fun fr i wr => ∃ r : Nat, r ≤ ins.length ∧ i = .int .i64 r ∧ fr = .bool (fromB g ins s r) ∧ Chg (fun _ => False) W10 wr) (fun _ i _ => ins.length - (intOf i).toNat)
                  case atStart => exact ⟨0, Nat.zero_le _, rfl, by rw [← HBI.out]; simp [fromB], Chg.refl _ _⟩
                  case round =>
                    obtain ⟨r, hr, rfl, rfl, hch⟩ := hrel
                    have HCJ := hid (HC10.out.trans hch (fun _ _ h => h))
                    have HWJ := hid hch
                    have f0 := HCJ.out.cell d1 (fun h => h)
                    clear hch
                    by_cases hrn : r < ins.length
                    · have hrn' : (r : Int) < ins.length := by omega
                      obtain ⟨ad3, hix3, hadc3, hadb3⟩ := (HNIQ.out.chg HCJ.out (fun _ _ h => h)).ix r hrn
                      have HFS := hid (fromB_succ g ins s r hrn)
                      generalize ins[r] = u at *
                      cases hfb : fromB g ins s r with
                      | true =>
                        rw [hfb] at HFS
                        clear hfb
                        go_wp2_with fail
                        go_region
                        go_wp2_with fail
                        go_roundw
                        case rel => exact ⟨r + 1, by omega, by go_num, by rw [HFS.out]; simp, HWJ.out.drew⟩
                        case measure => simp [intOf]; omega
                      | false =>
                        rw [hfb] at HFS
                        have g0 := cell_of ((HCQ.out.trans HCJ.out (fun _ _ h => h)).obj HGB.out (fun h => h)) 0
                        have g1 := cell_of ((HCQ.out.trans HCJ.out (fun _ _ h => h)).obj HGB.out (fun h => h)) 1
                        have g2 := HCJ.out.cell hadc (fun h => h)
                        simp at g0 g1
                        have HNO2 := hid (needsOf_small HCAN.out u)
                        obtain ⟨B9, hB9⟩ : ∃ B9, B9 = (needsOf g u).contains s := ⟨_, rfl⟩
                        rw [← hB9] at HFS
                        have HB9 := hid hB9
                        clear hB9
                        have HGJ := hid (HG.out.chg (HCQ.out.trans HCJ.out (fun _ _ h => h)) (fun _ _ h => h))
                        have HK0 := hid (And.intro g0 (And.intro g1 (And.intro g2 (And.intro f0 hadc3))))
                        clear hfb
                        go_wp2_with fail
                        go_region_held3 (fun W => W.cell? ⟨gb, 0, none⟩ = some (.slice oa g.srcs.length c) ∧ W.cell? ⟨gb, 1, none⟩ = some (.slice ob g.acts.length d) ∧ W.cell? ad = some (.string (bs s)) ∧ W.cell? ⟨ba, 1, none⟩ = some (.slice oi ins.length ci) ∧ W.cell? ad3 = some (.string (bs u))) (first | exact HK0.out | exact ⟨hc9.cell g0 (fun h => h), hc9.cell g1 (fun h => h), hc9.cell g2 (fun h => h), hc9.cell f0 (fun h => h), hc9.cell hadc3 (fun h => h)⟩ | go_keep) (first | (go_at_call 17; refine (tneeds_any g u _ _ (HGJ.out.chg ((Chg.refl (fun _ => False) wr).drew) (fun _ _ h => h))).mono ?_; rintro e w9 ⟨hc9, v9, rfl, ho9⟩; have hN9 := names_own ho9 (by have := HNO2.out.1; omega) (fun t ht => by have := HNO2.out.2 t ht; omega); obtain ⟨o9, c9, rfl⟩ := hN9.form; have HN9 := hid hN9; have HC9 := hid hc9) | (go_at_call 21; refine (in_any _ (needsOf g u) s _ HN9.out).mono ?_; rintro e w' ⟨he, rfl⟩; rw [← HB9.out] at he; subst he))
                        go_wp2_with fail
                        go_roundw
                        case rel => exact ⟨r + 1, by omega, by go_num, by rw [HFS.out]; simp, (HWJ.out.drew).trans HC9.out (fun _ _ h => h)⟩
                        case measure => simp [intOf]; omega
                    · obtain rfl : r = ins.length := by omega
                      have hfull : fromB g ins s ins.length = true := by
                        have := fromB_full HNF.out HMEM.out
                        rwa [HINS.out] at this
                      rw [hfull]
                      clear hfull
                      go_wp2_with fail
                      go_roundw
                      case rel => exact ⟨q + 1, by omega, by go_num, by rw [HSTEP.out], HWQ.out.trans HCJ.out (fun _ _ h => h)⟩
                      case measure => simp [intOf]; omega
            · obtain rfl : q = n.length := by omega
              have hall : (B0 || (n.take n.length).any names.contains) = dirtyB g names k := by rw [List.take_length]; exact HDW.out
              rw [hall]
              have HWC := hid (HCK8.out.trans hch (fun _ _ h => h))
              have HNIQ := hid (HNI8.out.chg hch (fun _ _ h => h))
              have HNQ := hid (HN8.out.chg hch (fun _ _ h => h))
              clear hall hch
              go_wp2_with fail
              obtain ⟨wo, hwo⟩ : ∃ wo, wo = wr := ⟨_, rfl⟩
              rw [← hwo] at HCQ HWQ HNIQ HNQ HWC d0 d1 ⊢
              clear hwo
              go_loopw [14] (fun i wr => ∃ r : Nat, r ≤ ins.length ∧ i = .int .i64 r ∧ wr = wo) (fun i _ => ins.length - (intOf i).toNat)
              case atStart => exact ⟨0, Nat.zero_le _, rfl, rfl⟩
              case round =>
                obtain ⟨r, hr, rfl, rfl⟩ := hrel
                by_cases hrn : r < ins.length
                · have hrn' : (r : Int) < ins.length := by omega
                  obtain ⟨ad3, hix3, hadc3, hadb3⟩ := HNIQ.out.ix r hrn
                  have hct : n.contains ins[r] = true := by
                    have := HNF.out.ins ins[r] (by rw [HINS.out]; exact List.getElem_mem hrn)
                    simpa using this
                  generalize ins[r] = u at *
                  have HCT := hid hct
                  clear hct
                  go_wp2_with (go_at_call 21; refine (in_any _ n u _ HNQ.out).mono ?_; rintro e w' ⟨he, rfl⟩; rw [HCT.out] at he; subst he)
                  go_roundw
                  case rel => exact ⟨r + 1, by omega, by go_num, by first | rfl | trivial⟩
                  case measure => simp [intOf]; omega
                · obtain rfl : r = ins.length := by omega
                  have hself : n.contains nm = false := by
                    have h1 := HNF.out.self
                    have h2 := nameAt_lt g k hkn
                    rw [HNMK.out] at h1
                    simpa using h1
                  have HSELF := hid hself
                  clear hself
                  have HIW := HI.out.chg HWC.out (fun _ _ h => h)
                  cases hdb : dirtyB g names k with
                  | true =>
                    have hat := HDA.out.2 hdb
                    obtain ⟨hcl, hat2⟩ := List.getElem?_eq_some_iff.1 hat
                    obtain ⟨b5, o6, hix5, hc5, _⟩ := HIW.ix cnt hcl
                    rw [hat2] at hc5
                    have hcl' : (cnt : Int) < D.length := by omega
                    have hcld : decide (cnt < D.length) = true := by simpa using hcl
                    have HSN2 : Hid (((List.range (k + 1)).filter (dirtyB g names)).length = cnt + 1) := hid (by
                      rw [HSN.out, hdb]; simp [HCNT.out])
                    clear hat hat2 hdb HIW
                    go_wp2_with (go_at_call 21; refine (in_any _ n nm _ HNQ.out).mono ?_; rintro e w' ⟨he, rfl⟩; rw [HSELF.out] at he; subst he)
                    go_roundw
                    case rel => exact ⟨k + 1, by omega, by go_num, by rw [HSN2.out]; go_num, HWC.out⟩
                    case measure => simp [intOf]; omega
                  | false =>
                    have HSN2 : Hid (((List.range (k + 1)).filter (dirtyB g names)).length = cnt) := hid (by
                      rw [HSN.out, hdb]; simp [HCNT.out])
                    by_cases hcl : cnt < D.length
                    · obtain ⟨b5, o6, hix5, hc5, _⟩ := HIW.ix cnt hcl
                      have hne : ¬ D[cnt] = k := fun e => by
                        have := HDA.out.1 (by rw [List.getElem?_eq_getElem hcl, e])
                        rw [hdb] at this; cases this
                      have hne3 : ¬ ((D[cnt] : Nat) : Int) = (k : Int) := by omega
                      have hcl' : (cnt : Int) < D.length := by omega
                      have hcld : decide (cnt < D.length) = true := by simpa using hcl
                      generalize D[cnt] = x at *
                      clear hdb HIW
                      go_wp2_with (go_at_call 21; refine (in_any _ n nm _ HNQ.out).mono ?_; rintro e w' ⟨he, rfl⟩; rw [HSELF.out] at he; subst he)
                      go_roundw
                      case rel => exact ⟨k + 1, by omega, by go_num, by rw [HSN2.out], HWC.out⟩
                      case measure => simp [intOf]; omega
                    · have hcl' : ¬ (cnt : Int) < D.length := by omega
                      have hcld : decide (cnt < D.length) = false := by simpa using hcl
                      clear hdb HIW
                      go_wp2_with (go_at_call 21; refine (in_any _ n nm _ HNQ.out).mono ?_; rintro e w' ⟨he, rfl⟩; rw [HSELF.out] at he; subst he)
                      go_roundw
                      case rel => exact ⟨k + 1, by omega, by go_num, by rw [HSN2.out], HWC.out⟩
                      case measure => simp [intOf]; omega
        · obtain rfl : k = g.acts.length := by omega
          have hfin : ((List.range g.acts.length).filter (dirtyB g names)).length = D.length := by rw [← HD.out]; rfl
          rw [hfin]
          clear hfin
          go_wp2_with fail
          go_ret
          exact ⟨rfl, HC1.out.trans HC.out (fun _ _ h => h)⟩
    · have hne : ((checkR g : Int) == 0) = false := by simp; omega
      have hne2 : ¬ (checkR g : Int) = 0 := by omega
      generalize checkR g = n at *
      go_wp2_with fail
      go_ret
      exact ⟨rfl, HC1.out.trans C4.out (fun _ _ h => h)⟩
end Go.Proofs.YtafdcmhckpdnbaaDoor
