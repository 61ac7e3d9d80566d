/- apiaryref08.needs walked. -/
import Derived.Test.YtafdcmhckpdnbaaDoorTfF
namespace Go.Proofs.YtafdcmhckpdnbaaDoor
open Go.RowKit

/-- A rising list of names of the build. -/
structure NSub (g : GrR) (o : List Nm) : Prop where
  rise : Rise o
  mem : ∀ s ∈ o, s ∈ namesL g
theorem NSub.nil (g : GrR) : NSub g [] := ⟨List.Pairwise.nil, by simp⟩
theorem NSub.ins {g : GrR} {o : List Nm} (h : NSub g o) {s : Nm} (hs : s ∈ namesL g) : NSub g (insL s o) :=
  ⟨insL_rise s o h.rise, fun x hx => by
    rcases (mem_insL s o x).1 hx with e | e
    · subst e; exact hs
    · exact h.mem x e⟩
theorem NSub.all {g : GrR} : ∀ {ss o : List Nm}, NSub g o → (∀ s ∈ ss, s ∈ namesL g) → NSub g (insAll o ss)
  | [], _, h, _ => h
  | s :: ss, o, h, hs => NSub.all (ss := ss) (o := insL s o) (h.ins (hs s (by simp))) (fun t ht => hs t (by simp [ht]))
theorem NSub.small {g : GrR} (hw : Wov g) {o : List Nm} (h : NSub g o) : o.length ≤ 100 ∧ ∀ s ∈ o, s.length ≤ 1000 := by
  have h1 := sub_length o (namesL g) (rise_nodup h.rise) h.mem
  have h2 := hw.srcs8
  have h3 := hw.acts12
  refine ⟨?_, fun s hs => ?_⟩
  · unfold namesL at h1
    simp at h1
    omega
  · have := name_le hw (h.mem s hs)
    omega
theorem insAll_snoc (o l : List Nm) (s : Nm) : insAll o (l ++ [s]) = insL s (insAll o l) := by unfold insAll; rw [List.foldl_append]; rfl

set_option maxRecDepth 100000 in
set_option maxHeartbeats 2000000 in
theorem rneeds_any (g : GrR) (i : Nat) (hi : i < g.acts.length) (hc : Can g) (v : Value) (w : World) (hg : GrAt w v g) :
    Calls Tryd.prog 32 #[v, .int .i64 i] w (InsPost w (needsR g i)) := by
  obtain ⟨oa, c, ob, d, iv, rfl, hs, ha⟩ := hg.form
  have hmx := ha.rows.le
  unfold maxLen at hmx
  have hlen := ha.len
  have hC1 : Chg (fun _ => False) w (w.alloc (.cells #[.slice oa g.srcs.length c, .slice ob g.acts.length d] 25)) := (Chg.refl _ w).alloc _
  have hgb := heap_alloc_new' w (.cells #[.slice oa g.srcs.length c, .slice ob g.acts.length d] 25)
  have HA := hid (ha.chg hC1 (fun _ _ h => h))
  have HS := hid (hs.chg hC1 (fun _ _ h => h))
  have HC1 := hid hC1
  have HGB := hid hgb
  have HCAN := hid hc
  clear hg hs ha hC1 hgb hc
  go_enter Tryd.func32, Tryd.ntmps32
  have hsz : (w.alloc (.cells #[.slice oa g.srcs.length c, .slice ob g.acts.length d] 25)).heap.size = w.heap.size + 1 := by simp
  go_wp2_with fail
  generalize w.alloc (.cells #[.slice oa g.srcs.length c, .slice ob g.acts.length d] 25) = W0 at *
  generalize hgs : w.heap.size = gb at *
  have HGS := hid hgs
  clear hgs
  have HSZ := hid hsz
  clear hsz
  go_loopw [5, 6] (fun o kk wr => ∃ (k : Nat) (x : Value), x = o ∧ k ≤ (insAt g i).length ∧ kk = .int .i64 k ∧ QRow wr 9 x ((insAll [] ((insAt g i).take k)).map nmV) ∧ (∀ q, x.ownBlock = some q → gb + 1 ≤ q) ∧ Chg (fun _ => False) W0 wr) (fun _ kk _ => (insAt g i).length - (intOf kk).toNat)
  case atStart => exact ⟨0, _, rfl, Nat.zero_le _, rfl, by have := QRow.empty W0; rw [HSZ.out] at this; exact this, fun q h => by simp [Value.ownBlock] at h; omega, al_chg W0 _⟩
  case round =>
    obtain ⟨k, v5, hv, hk, rfl, hq, hbl, hch⟩ := hrel
    subst hv
    have HQ := hid hq
    have HBL := hid hbl
    have HC := hid hch
    have a1 := cell_of (hch.obj HGB.out (fun h => h)) 1
    simp at a1
    clear hq hbl hch
    obtain ⟨bb, oo, hix, hlt, e0, e1, e2, hns, hw1, hw2⟩ := (HA.out.chg HC.out (fun _ _ h => h)).at i hi
    have hln := hns.len
    rw [← insAt_lt g i hi] at hln
    have hib := hns.le
    rw [← insAt_lt g i hi] at hib
    unfold maxLen at hib
    by_cases hkn : k < (insAt g i).length
    · have hkn' : (k : Int) < (insAt g i).length := by omega
      obtain ⟨ad, hix2, hadc, hadb⟩ := hns.ix k (by rw [← insAt_lt g i hi]; exact hkn)
      have hmem : ∀ t ∈ insAt g i, t ∈ namesL g := fun t ht => HCAN.out.w.insAt hi ht
      have HN0 : Hid (NSub g (insAll [] ((insAt g i).take k))) := hid ((NSub.nil g).all (fun t ht => hmem t (List.mem_of_mem_take ht)))
      have HST : Hid (insAll [] ((insAt g i).take (k + 1)) = insL (insAt g i)[k] (insAll [] ((insAt g i).take k))) := hid (by rw [List.take_succ_eq_append_getElem hkn, insAll_snoc])
      have hx8 : (insAt g i)[k].length ≤ 1000 := by have := name_le HCAN.out.w (hmem _ (List.getElem_mem hkn)); omega
      have HX8 := hid hx8
      have hge : g.acts[i].ins[k]'(by rw [← insAt_lt g i hi]; exact hkn) = (insAt g i)[k] := by simp [insAt_lt g i hi]
      rw [hge] at hadc
      clear hx8 hge hmem
      generalize insAll [] ((insAt g i).take k) = o at *
      generalize (insAt g i)[k] = x at *
      go_wp2_with (go_at_call 45; refine (insert_any o x v5 wr (HQ.out.names (HN0.out.small HCAN.out.w).2) (HN0.out.small HCAN.out.w).1 HX8.out (HN0.out.small HCAN.out.w).2).mono ?_; rintro e w2 ⟨v2, rfl, hq2, hc2, hb2⟩)
      go_roundw
      case rel =>
        refine ⟨k + 1, _, rfl, by omega, by go_num, by rw [HST.out]; exact hq2, fun q hq => ?_, HC.out.trans hc2 (fun _ _ h => h)⟩
        have h1 := hb2 q hq
        have h2 := HC.out.size
        have h3 := HSZ.out
        omega
      case measure => simp [intOf]; omega
    · obtain rfl : k = (insAt g i).length := by omega
      go_wp2_with fail
      have hK0 : insAll [] ((insAt g i).take (insAt g i).length) = needsK g i 0 := by rw [List.take_length]; rfl
      rw [hK0] at HQ
      clear hK0
      go_loopw [5, 7] (fun o rr wx => ∃ (r : Nat) (x : Value), x = o ∧ r ≤ g.acts.length ∧ rr = .int .i64 r ∧ QRow wx 9 x ((needsK g i r).map nmV) ∧ (∀ q, x.ownBlock = some q → gb + 1 ≤ q) ∧ Chg (fun _ => False) W0 wx) (fun _ rr _ => g.acts.length - (intOf rr).toNat)
      case atStart => exact ⟨0, _, rfl, Nat.zero_le _, rfl, HQ.out, HBL.out, HC.out⟩
      case round =>
        obtain ⟨r, v6, hv, hr, rfl, hq, hbl, hch⟩ := hrel
        subst hv
        clear HQ HBL HC a1 e0 e1 e2 hns hw1 hw2 hix hlt hln hib
        have HQ := hid hq
        have HBL := hid hbl
        have HC := hid hch
        have a0 := cell_of (hch.obj HGB.out (fun h => h)) 0
        have a1 := cell_of (hch.obj HGB.out (fun h => h)) 1
        simp at a0 a1
        clear hq hbl hch
        by_cases hrn : r < g.acts.length
        · have hrn' : (r : Int) < g.acts.length := by omega
          go_wp2_with fail
          have HRI : Hid (NSub g (needsK g i r)) := hid ⟨needsK_rise g i r, fun s hs => (needsK_needs g i r s hs).names HCAN.out.w hi⟩
          have hgr : needsK g i (r + 1) = growR g (needsK g i r) (needsK g i r) := rfl
          have HGR := hid hgr
          clear hgr
          have hN6 := HQ.out.names (HRI.out.small HCAN.out.w).2
          have hl6 := hN6.len
          have hl100 := (HRI.out.small HCAN.out.w).1
          have HN6 := hid hN6
          clear hN6
          generalize needsK g i r = l at *
          go_loopw [5, 9] (fun o nn wx => ∃ (n : Nat) (x : Value), x = o ∧ n ≤ l.length ∧ nn = .int .i64 n ∧ NSub g (growR g l (l.take n)) ∧ QRow wx 9 x ((growR g l (l.take n)).map nmV) ∧ (∀ q, x.ownBlock = some q → gb + 1 ≤ q) ∧ Chg (fun _ => False) wr wx) (fun _ nn _ => l.length - (intOf nn).toNat)
          case atStart => exact ⟨0, _, rfl, Nat.zero_le _, rfl, HRI.out, HQ.out, HBL.out, Chg.refl _ _⟩
          case round =>
            obtain ⟨n, v7, hv, hn, rfl, hns7, hq, hbl, hch⟩ := hrel
            subst hv
            have HW1 := hid (HC.out.trans hch (fun _ _ h => h))
            clear a0 a1
            have HQ7 := hid hq
            have HBL7 := hid hbl
            have HC7 := hid hch
            have HNS7 := hid hns7
            have a0 := cell_of (HW1.out.obj HGB.out (fun h => h)) 0
            have a1 := cell_of (HW1.out.obj HGB.out (fun h => h)) 1
            simp at a0 a1
            clear hq hbl hch hns7
            by_cases hnn : n < l.length
            · have hnn' : (n : Int) < l.length := by omega
              obtain ⟨ad, hix2, hadc, hadb⟩ := (HN6.out.chg HC7.out (fun _ _ h => h)).ix n hnn
              have HX8 := hid ((HRI.out.small HCAN.out.w).2 _ (List.getElem_mem hnn))
              have HST : Hid (growR g l (l.take (n + 1)) = insAll (growR g l (l.take n)) (actIns g l[n])) := hid (by rw [List.take_succ_eq_append_getElem hnn]; unfold growR; rw [List.foldl_append]; rfl)
              generalize growR g l (l.take n) = o at *
              generalize l[n] = t at *
              go_upto_region 13 with fail
              go_still_tail 5, (by kernel_rfl)
              change wpList _ _ _ _ _ wr.drew
              have HSD := hid (HS.out.chg HW1.out.drew (fun _ _ h => h))
              have HAD := hid (HA.out.chg HW1.out.drew (fun _ _ h => h))
              go_wp2_with (go_at_call 31; refine (rat_any g t _ wr.drew ⟨_, _, iv, rfl, HSD.out, HAD.out⟩).mono ?_; rintro e w2 ⟨rfl, hc2⟩)
              have HC2 := hid ((HW1.out.drew).trans hc2 (fun _ _ h => h))
              have HQ2 := hid (QRow.chg (show QRow wr.drew 9 v7 (o.map nmV) from HQ7.out) hc2 (fun _ _ h => h))
              have HC72 := hid ((HC7.out.drew).trans hc2 (fun _ _ h => h))
              clear HQ7 HC7 HW1 HSD HAD hc2 a0 a1 hadc hadb hix2
              go_loopw [5, 11] (fun oo kk wx => ∃ (m : Nat) (x : Value), x = oo ∧ m ≤ (actIns g t).length ∧ kk = .int .i64 m ∧ NSub g (insAll o ((actIns g t).take m)) ∧ QRow wx 9 x ((insAll o ((actIns g t).take m)).map nmV) ∧ (∀ q, x.ownBlock = some q → gb + 1 ≤ q) ∧ Chg (fun _ => False) w2 wx) (fun _ kk _ => (actIns g t).length - (intOf kk).toNat)
              case atStart => exact ⟨0, _, rfl, Nat.zero_le _, rfl, HNS7.out, HQ2.out, HBL7.out, Chg.refl _ _⟩
              case round =>
                obtain ⟨m, v8, hv, hm, rfl, hns8, hq, hbl, hch⟩ := hrel
                subst hv
                have HW2 := hid (HC2.out.trans hch (fun _ _ h => h))
                have HQ8 := hid hq
                have HBL8 := hid hbl
                have HC8 := hid hch
                have HNS8 := hid hns8
                have a1 := cell_of (HW2.out.obj HGB.out (fun h => h)) 1
                simp at a1
                clear hq hbl hch hns8
                cases hp : placeOf g t with
                | none =>
                  have hz : placeZ g t = -1 := by unfold placeZ; rw [hp]
                  have hai : actIns g t = [] := by unfold actIns; rw [hp]
                  rw [hai] at hm
                  obtain rfl : m = 0 := by simpa using hm
                  have HAI : Hid (insAll o (actIns g t) = insAll o ((actIns g t).take 0)) := hid (by rw [hai]; rfl)
                  clear hp hai hm
                  rw [hz]
                  clear hz
                  go_wp2_with fail
                  go_roundw
                  case rel =>
                    refine ⟨n + 1, _, rfl, by omega, by go_num, ?_, ?_, HBL8.out, HC72.out.trans HC8.out (fun _ _ h => h)⟩
                    · rw [HST.out, HAI.out]; exact HNS8.out
                    · rw [HST.out, HAI.out]; exact HQ8.out
                  case measure => simp [intOf]; omega
                | some j =>
                  have hz : placeZ g t = j := by unfold placeZ; rw [hp]
                  have hai : actIns g t = insAt g j := by unfold actIns; rw [hp]
                  have hj := (placeOf_some hp).1
                  rw [hz]
                  clear hz hp
                  rw [hai] at hm
                  obtain ⟨bb, oo, hix, hlt, e0, e1, e2, hns, hw1, hw2⟩ := (HA.out.chg HW2.out (fun _ _ h => h)).at j hj
                  have hln := hns.len
                  rw [← insAt_lt g j hj] at hln
                  have hib := hns.le
                  rw [← insAt_lt g j hj] at hib
                  unfold maxLen at hib
                  have hj0 : (0 : Int) ≤ (j : Int) := by omega
                  by_cases hmn : m < (insAt g j).length
                  · have hmn' : (m : Int) < (insAt g j).length := by omega
                    obtain ⟨ad, hix2, hadc, hadb⟩ := hns.ix m (by rw [← insAt_lt g j hj]; exact hmn)
                    have hmem := HCAN.out.w.insAt hj (List.getElem_mem hmn)
                    have HXM := hid hmem
                    have HX9 : Hid ((insAt g j)[m].length ≤ 1000) := hid (by have := name_le HCAN.out.w hmem; omega)
                    have HS9 : Hid (insAll o ((actIns g t).take (m + 1)) = insL (insAt g j)[m] (insAll o ((actIns g t).take m))) := hid (by rw [hai, List.take_succ_eq_append_getElem hmn, insAll_snoc])
                    have hge : g.acts[j].ins[m]'(by rw [← insAt_lt g j hj]; exact hmn) = (insAt g j)[m] := by simp [insAt_lt g j hj]
                    rw [hge] at hadc
                    have HLE : Hid (m + 1 ≤ (actIns g t).length ∧ (actIns g t).length = (insAt g j).length) := hid (by rw [hai]; exact ⟨hmn, rfl⟩)
                    clear hge hmem hai
                    generalize insAll o ((actIns g t).take m) = o9 at *
                    generalize (insAt g j)[m] = x9 at *
                    go_wp2_with (go_at_call 45; refine (insert_any o9 x9 v8 wr (HQ8.out.names (HNS8.out.small HCAN.out.w).2) (HNS8.out.small HCAN.out.w).1 HX9.out (HNS8.out.small HCAN.out.w).2).mono ?_; rintro e w3 ⟨v3, rfl, hq3, hc3, hb3⟩)
                    go_roundw
                    case rel =>
                      refine ⟨m + 1, _, rfl, HLE.out.1, by go_num, by rw [HS9.out]; exact HNS8.out.ins HXM.out, by rw [HS9.out]; exact hq3, fun q hq => ?_, HC8.out.trans hc3 (fun _ _ h => h)⟩
                      have h1 := hb3 q hq
                      have h2 := HW2.out.size
                      have h3 := HSZ.out
                      omega
                    case measure => have := HLE.out; simp [intOf]; omega
                  · obtain rfl : m = (insAt g j).length := by omega
                    have HAI : Hid (insAll o (actIns g t) = insAll o ((actIns g t).take (insAt g j).length)) := hid (by rw [hai, List.take_length])
                    clear hai
                    go_wp2_with fail
                    go_roundw
                    case rel =>
                      refine ⟨n + 1, _, rfl, by omega, by go_num, ?_, ?_, HBL8.out, HC72.out.trans HC8.out (fun _ _ h => h)⟩
                      · rw [HST.out, HAI.out]; exact HNS8.out
                      · rw [HST.out, HAI.out]; exact HQ8.out
                    case measure => simp [intOf]; omega
            · obtain rfl : n = l.length := by omega
              rw [List.take_length] at *
              go_wp2_with fail
              go_roundw
              case rel => exact ⟨r + 1, _, rfl, by omega, by go_num, by rw [HGR.out]; exact HQ7.out, HBL7.out, HW1.out⟩
              case measure => simp [intOf]; omega
        · obtain rfl : r = g.acts.length := by omega
          go_wp2_with fail
          go_ret
          exact ⟨v6, rfl, HQ.out, HC1.out.trans HC.out (fun _ _ h => h), fun q hq => by have := HBL.out q hq; have := HGS.out; omega⟩
end Go.Proofs.YtafdcmhckpdnbaaDoor
