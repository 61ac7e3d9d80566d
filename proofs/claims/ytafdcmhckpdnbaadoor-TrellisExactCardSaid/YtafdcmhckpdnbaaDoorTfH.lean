/- apiaryref08.order walked. -/
import Derived.Test.YtafdcmhckpdnbaaDoorTfG
namespace Go.Proofs.YtafdcmhckpdnbaaDoor
open Go.RowKit

theorem owns_empty (W : World) (e : TypeId) : (W.alloc (.cells #[] e)).ownsRow 0 e 1 (.slice (some ⟨W.heap.size, 0, none⟩) 0 0) 0 [] :=
  ⟨rfl, .inr ⟨W.heap.size, 0, #[], rfl, Nat.zero_le _, heap_alloc_new' W _, Nat.le_refl _, Nat.zero_le _, rfl, rfl⟩⟩

set_option maxRecDepth 100000 in
set_option maxHeartbeats 2000000 in
theorem rorder_any (g : GrR) (hw : Wov g) (v : Value) (w : World) (hg : GrAt w v g) :
    Calls Tryd.prog 26 #[v] w (IntsPost w (orderR g)) := by
  obtain ⟨oa, c, ob, d, iv, rfl, hs, ha⟩ := hg.form
  have hmx := ha.rows.le
  unfold maxLen at hmx
  have hlen := ha.len
  have hC1 : Chg (fun _ => False) w (w.alloc (.cells #[.slice oa g.srcs.length c, .slice ob g.acts.length d] 25)) := (Chg.refl _ w).alloc _
  have hgb := heap_alloc_new' w (.cells #[.slice oa g.srcs.length c, .slice ob g.acts.length d] 25)
  have HA := hid (ha.chg hC1 (fun _ _ h => h))
  have HS := hid (hs.chg hC1 (fun _ _ h => h))
  have HC1 := hid hC1
  have HGB := hid hgb
  have HW := hid hw
  have hsz : (w.alloc (.cells #[.slice oa g.srcs.length c, .slice ob g.acts.length d] 25)).heap.size = w.heap.size + 1 := by simp
  clear hg hs ha hC1 hw
  go_enter Tryd.func26, Tryd.ntmps26
  have hAl : ∀ W, Chg (fun _ => False) W (W.alloc (.cells #[] 9)) := fun W => al_chg W _
  have hQ0 := QRow.empty ((w.alloc (.cells #[.slice oa g.srcs.length c, .slice ob g.acts.length d] 25)).alloc (.cells #[] 3))
  have HQ0 : Hid (QRow (((w.alloc (.cells #[.slice oa g.srcs.length c, .slice ob g.acts.length d] 25)).alloc (.cells #[] 3)).alloc (.cells #[] 9)) 9 (.slice (some ⟨w.heap.size + 1 + 1, 0, none⟩) 0 0) []) := hid (by simpa using hQ0)
  clear hQ0
  have hs3 : NamesAt (((w.alloc (.cells #[.slice oa g.srcs.length c, .slice ob g.acts.length d] 25)).alloc (.cells #[] 3)).alloc (.cells #[] 9)) (.slice oa g.srcs.length c) g.srcs := (HS.out.chg (al_chg _ _) (fun _ _ h => h)).chg (al_chg _ _) (fun _ _ h => h)
  have HS3 := hid hs3
  have hsl := HW.out.srcs8
  clear hs3 hAl
  go_wp2_with (at_builtin; refine wpList_append_q rfl _ _ 22 rfl elStr HQ0.out rfl rfl HS3.out (by unfold maxLen; simp; omega) (by simp; omega) ?_; intro v8 w8 hq8 hc8 hb8)
  have hC8 := ((al_chg (w.alloc (.cells #[.slice oa g.srcs.length c, .slice ob g.acts.length d] 25)) (.cells #[] 3)).trans (al_chg _ (.cells #[] 9)) (fun _ _ h => h)).trans hc8 (F := fun _ => False) (fun q hq h => by simp [Value.ownBlock] at h; simp at hq; omega)
  have hbd : ∀ q, v8.ownBlock = some q → w.heap.size + 1 + 1 ≤ q := fun q hq => by
    rcases hb8 q hq with h | h
    · simp [Value.ownBlock] at h; omega
    · simp at h; omega
  have ho8 := hc8.owns ((al_chg _ (.cells #[] 9)).owns (owns_empty (w.alloc (.cells #[.slice oa g.srcs.length c, .slice ob g.acts.length d] 25)) 3) (fun _ _ h => h)) (fun q hq h => by simp [Value.ownBlock] at h hq; omega)
  rw [show (w.alloc (.cells #[.slice oa g.srcs.length c, .slice ob g.acts.length d] 25)).heap.size = w.heap.size + 1 from hsz] at ho8
  generalize w.alloc (.cells #[.slice oa g.srcs.length c, .slice ob g.acts.length d] 25) = W0 at *
  generalize hgs : w.heap.size = gb at *
  have HGS := hid hgs
  have HSZ := hid hsz
  clear hgs hsz HQ0 HS3 hc8 hb8
  go_loopw [3, 4, 5] (fun o dd rr wr => ∃ (r : Nat) (l : List Nat) (x y : Value), x = o ∧ y = dd ∧ r ≤ g.acts.length ∧ rr = .int .i64 r ∧ Ordd g l ∧ orderR g = orderGo g (g.acts.length - r) l ∧ wr.ownsRow 0 3 1 x l.length (l.map natV) ∧ QRow wr 9 y ((g.srcs ++ l.map (nameAt g)).map nmV) ∧ (∀ q, x.ownBlock = some q → gb + 1 ≤ q) ∧ (∀ q, y.ownBlock = some q → gb + 1 ≤ q) ∧ (∀ q, x.ownBlock = some q → y.ownBlock = some q → False) ∧ Chg (fun _ => False) W0 wr) (fun _ _ rr _ => g.acts.length - (intOf rr).toNat)
  case atStart => exact ⟨0, [], _, _, rfl, rfl, Nat.zero_le _, rfl, Ordd.nil g, rfl, ho8, by simp at hq8 ⊢; exact hq8, (fun q h => by simp [Value.ownBlock] at h; omega), (fun q h => by have := hbd q h; omega), (fun q h h2 => by have := hbd q h2; simp [Value.ownBlock] at h; omega), hC8⟩
  case round =>
    obtain ⟨r, l, v3, v4, hv, hv2, hr, rfl, hod, hgo, ho, hq, hbo, hbd, hap, hch⟩ := hrel
    subst hv hv2
    have HOD := hid hod
    have HGO := hid hgo
    have HO := hid ho
    have HQ := hid hq
    have HBO := hid hbo
    have HBD := hid hbd
    have HAP := hid hap
    have HC := hid hch
    have a0 := cell_of (hch.obj hgb (fun h => h)) 0
    have a1 := cell_of (hch.obj hgb (fun h => h)) 1
    simp at a0 a1
    clear hod hgo ho hq hbo hbd hap hch ho8 hq8 hC8
    by_cases hrn : r < g.acts.length
    · have hrn' : (r : Int) < g.acts.length := by omega
      go_wp2_with fail
      clear a0 a1
      go_loopw [3, 4, 6] (fun o dd ii wx => ∃ i : Nat, v3 = o ∧ v4 = dd ∧ i ≤ g.acts.length ∧ ii = .int .i64 i ∧ (∀ j (h : j < g.acts.length), j < i → readyB g l g.acts[j] = false) ∧ Chg (fun _ => False) wr wx) (fun _ _ ii _ => g.acts.length - (intOf ii).toNat)
      case atStart => exact ⟨0, rfl, rfl, Nat.zero_le _, rfl, fun j _ h => absurd h (Nat.not_lt_zero _), Chg.refl _ _⟩
      case round =>
        obtain ⟨i, hv, hv2, hi, rfl, hall, hch⟩ := hrel
        subst hv hv2
        have HAL := hid hall
        have HW1 := hid (HC.out.trans hch (fun _ _ h => h))
        have HO1 := hid (hch.owns HO.out (fun _ _ h => h))
        have HQ1 := hid (HQ.out.chg hch (fun _ _ h => h))
        have HC1' := hid hch
        have a0 := cell_of (HW1.out.obj hgb (fun h => h)) 0
        have a1 := cell_of (HW1.out.obj hgb (fun h => h)) 1
        simp at a0 a1
        clear hall hch
        by_cases hin : i < g.acts.length
        · have hin' : (i : Int) < g.acts.length := by omega
          obtain ⟨bb, oo, hix, hlt, e0, e1, e2, hns, hw1, hw2⟩ := (HA.out.chg HW1.out (fun _ _ h => h)).at i hin
          have HNS := hid hns
          have HN1 : Hid (NamesAt wr v4 (g.srcs ++ l.map (nameAt g))) := hid (HQ1.out.names (fun s hs => by
            have : s ∈ namesL g := by
              rcases List.mem_append.1 hs with h | h
              · exact mem_names.2 (.inl h)
              · obtain ⟨j, hj, rfl⟩ := List.mem_map.1 h
                exact mem_names.2 (.inr ⟨j, HOD.out.lt j hj, rfl⟩)
            have := name_le HW.out this
            omega))
          obtain ⟨oi, ci, hfi⟩ := hns.form
          rw [hfi] at e1 HNS
          clear hns hw1 hw2 hfi
          have hA5 := al_chg wr (.cells #[.string (bs g.acts[i].name), .slice oi g.acts[i].ins.length ci, .string (bs g.acts[i].code)] 41)
          obtain ⟨D, hD⟩ : ∃ D, D = g.srcs ++ l.map (nameAt g) := ⟨_, rfl⟩
          have HN5 := hid (HN1.out.chg hA5 (fun _ _ h => h))
          rw [← hD] at HN5
          have HD := hid hD
          clear hD
          obtain ⟨b0, hb0⟩ : ∃ b0, D.contains g.acts[i].name = b0 := ⟨_, rfl⟩
          have HB0 := hid hb0
          clear hb0
          have HI5 := hid (HNS.out.chg hA5 (fun _ _ h => h))
          have HB5 := hid (heap_alloc_new' wr (.cells #[.string (bs g.acts[i].name), .slice oi g.acts[i].ins.length ci, .string (bs g.acts[i].code)] 41))
          have HA5 := hid hA5
          clear hA5
          go_wp2_with (go_at_call 25; refine (has_any v4 D g.acts[i].name _ HN5.out).mono ?_; rw [HB0.out]; rintro e w2 ⟨rfl, rfl⟩)
          go_loopw [8, 9] (fun rd kk wx => ∃ k : Nat, k ≤ g.acts[i].ins.length ∧ kk = .int .i64 k ∧ rd = .bool (!b0 && (g.acts[i].ins.take k).all (fun s => D.contains s)) ∧ wx = wr.alloc (.cells #[.string (bs g.acts[i].name), .slice oi g.acts[i].ins.length ci, .string (bs g.acts[i].code)] 41)) (fun _ kk _ => g.acts[i].ins.length - (intOf kk).toNat)
          case atStart => exact ⟨0, Nat.zero_le _, rfl, by simp, rfl⟩
          case round =>
            obtain ⟨k, hk, rfl, rfl, rfl⟩ := hrel
            have c1 := cell_of HB5.out 1
            simp at c1
            have hln := HI5.out.len
            have hib := HI5.out.le
            unfold maxLen at hib
            by_cases hkn : k < g.acts[i].ins.length
            · have hkn' : (k : Int) < g.acts[i].ins.length := by omega
              obtain ⟨ad, hix2, hadc, hadb⟩ := HI5.out.ix k hkn
              have hst : (g.acts[i].ins.take (k + 1)).all (fun s => D.contains s) = ((g.acts[i].ins.take k).all (fun s => D.contains s) && D.contains g.acts[i].ins[k]) := by rw [List.take_succ_eq_append_getElem hkn, List.all_append]; simp
              have HST := hid hst
              clear hst
              generalize g.acts[i].ins[k] = x at *
              generalize hb1 : (!b0 && (g.acts[i].ins.take k).all (fun s => D.contains s)) = b1 at *
              have HB1 := hid hb1
              clear hb1
              obtain ⟨b2, hb2⟩ : ∃ b2, D.contains x = b2 := ⟨_, rfl⟩
              have HB2 := hid hb2
              clear hb2
              cases b1 with
              | true =>
                go_wp2_with (go_at_call 25; refine (has_any v4 D x _ HN5.out).mono ?_; rw [HB2.out]; rintro e w2 ⟨rfl, rfl⟩)
                go_roundw
                case rel => exact ⟨k + 1, by omega, by go_num, by rw [HST.out, ← Bool.and_assoc, HB1.out, HB2.out]; rfl, by first | rfl | trivial⟩
                case measure => simp [intOf]; omega
              | false =>
                go_wp2_with fail
                go_roundw
                case rel => exact ⟨k + 1, by omega, by go_num, by rw [HST.out, ← Bool.and_assoc, HB1.out]; rfl, by first | rfl | trivial⟩
                case measure => simp [intOf]; omega
            · obtain rfl : k = g.acts[i].ins.length := by omega
              rw [List.take_length]
              have hrb : readyB g l g.acts[i] = (!b0 && g.acts[i].ins.all (fun s => D.contains s)) := by
                have hna : g.acts[i].name ∉ g.srcs := by rw [← nameAt_lt g i hin]; exact HW.out.apart hin
                rw [← HB0.out, HD.out]
                unfold readyB
                simp [hna]
              have HRB := hid hrb
              clear hrb
              generalize (!b0 && g.acts[i].ins.all (fun s => D.contains s)) = b3 at *
              cases b3 with
              | true =>
                have hsi : stepR g l = some i := by
                  unfold stepR
                  rw [List.findIdx?_eq_some_iff_getElem]
                  exact ⟨hin, HRB.out, fun j hj => by simp [HAL.out j (by omega) hj]⟩
                have hg2 : orderR g = orderGo g (g.acts.length - (r + 1)) (l ++ [i]) := by
                  have h1 := HGO.out
                  have h2 : g.acts.length - r = (g.acts.length - (r + 1)) + 1 := by omega
                  rw [h2] at h1
                  unfold orderGo at h1
                  rw [hsi] at h1
                  exact h1
                have HG2 := hid hg2
                have HOD2 := hid (HOD.out.snoc hsi)
                clear hsi hg2
                have hnm8 : g.acts[i].name.length ≤ 1000 := by
                  have := name_le HW.out (mem_names.2 (.inr ⟨i, hin, rfl⟩) : nameAt g i ∈ namesL g)
                  rw [nameAt_lt g i hin] at this
                  omega
                have HNM8 := hid hnm8
                clear hnm8
                have HNA := hid (nameAt_lt g i hin)
                have hl12 := HOD.out.le
                have hg12 := HW.out.acts12
                have ho5 := HA5.out.owns HO1.out (fun _ _ h => h)
                have HQ5 := hid (HQ1.out.chg HA5.out (fun _ _ h => h))
                have HSZ5 : Hid (W0.heap.size ≤ wr.heap.size) := hid HW1.out.size
                have HC5 := hid (HW1.out.trans HA5.out (fun _ _ h => h))
                generalize wr.alloc (.cells #[.string (bs g.acts[i].name), .slice oi g.acts[i].ins.length ci, .string (bs g.acts[i].code)] 41) = W5 at *
                have HLT3 := hid ((QRow.of_owns HO1.out).lt)
                have HLT4 := hid (HQ1.out.lt)
                have HN9 := HNM8
                have c1 := cell_of HB5.out 1
                have HGW : Hid (W0.heap.size = gb + 1) := HSZ
                simp at c1
                have HSW : Hid (wr.heap.size < W5.heap.size) := hid (Array.getElem?_eq_some_iff.1 HB5.out).1
                go_wp2_with (first | (at_builtin; refine wpList_append_new rfl _ _ 31 rfl elInt ho5 rfl _ 1 1 rfl rfl rfl (by unfold maxLen; omega) (by omega) (by decide) ?_; intro g6 cap6 w6 hown6 hch6 hg6; have HOW6 := hid hown6; have HCH6 := hid hch6; have hb6 := hch6.obj HB5.out (fun h => absurd (HLT3.out _ h) (by omega)); have d0 := cell_of hb6 0; simp at d0; have HQ6 := hid ((HQ5.out.chg hch6 (fun q h h2 => HAP.out q h2 h)).chg (al_chg w6 (.cells #[.string (bs g.acts[i].name)] 9)) (fun _ _ h => h)); have HN6 : Hid (StrsAt (w6.alloc (.cells #[.string (bs g.acts[i].name)] 9)) (.slice (some ⟨w6.heap.size, 0, none⟩) 1 1) [bs g.acts[i].name]) := hid (names_new w6 [g.acts[i].name] 1 rfl (by decide) (fun t ht => by simp at ht; subst ht; exact HNM8.out))) | (at_builtin; refine wpList_append_q rfl _ _ 22 rfl elStr HQ6.out rfl rfl HN6.out (by unfold maxLen; simp; omega) (by simp; omega) ?_; intro v9 w9 hq9 hc9 hb9))
                have hnd : ∀ q, q = g6 → v4.ownBlock = some q → False := fun q e h => by
                  subst e
                  rcases hg6 with h1 | h1
                  · exact HAP.out _ h1 h
                  · have h2 := HLT4.out _ h
                    have h3 := HSW.out
                    omega
                have ho9 := hc9.owns ((al_chg w6 (.cells #[.string (bs g.acts[i].name)] 9)).owns HOW6.out (fun _ _ h => h)) (fun q hq h => hnd q (by simp [Value.ownBlock] at hq; exact hq.symm) h)
                have hC9 := ((HC5.out.trans HCH6.out (fun q hq h => absurd (HBO.out q h) (by have := HGW.out; omega))).trans (al_chg w6 (.cells #[.string (bs g.acts[i].name)] 9)) (fun _ _ h => h)).trans hc9 (fun q hq h => absurd (HBD.out q h) (by have := HGW.out; omega))
                have hs6 := HC5.out.size
                have hs7 := HCH6.out.size
                go_roundw
                case rel =>
                  refine ⟨r + 1, l ++ [i], _, _, rfl, rfl, by omega, by go_num, HOD2.out, HG2.out, ?_, ?_, fun q hq => ?_, fun q hq => ?_, fun q hq h => ?_, hC9⟩
                  · simpa using ho9
                  · have e : (g.srcs ++ (l ++ [i]).map (nameAt g)).map nmV = (g.srcs ++ l.map (nameAt g)).map nmV ++ [bs g.acts[i].name].map Value.string := by
                      simp [nmV, HNA.out]
                    rw [e]; exact hq9
                  · simp [Value.ownBlock] at hq
                    subst hq
                    rcases hg6 with h1 | h1
                    · exact HBO.out _ h1
                    · have := HGW.out; omega
                  · rcases hb9 q hq with h1 | h1
                    · exact HBD.out q h1
                    · have := HGW.out; simp at h1; omega
                  · simp [Value.ownBlock] at hq
                    rcases hb9 q h with h1 | h1
                    · exact hnd q hq.symm h1
                    · subst hq
                      have h2 : g6 < w6.heap.size := by
                        have := (QRow.of_owns HOW6.out).lt g6 (by simp [Value.ownBlock])
                        exact this
                      simp at h1; omega
                case measure => simp [intOf]; omega
              | false =>
                go_wp2_with fail
                go_roundw
                case rel =>
                  refine ⟨i + 1, rfl, rfl, by omega, by go_num, fun j hj hji => ?_, HC1'.out.trans HA5.out (fun _ _ h => h)⟩
                  by_cases e : j = i
                  · subst e; exact HRB.out
                  · exact HAL.out j hj (by omega)
                case measure => simp [intOf]; omega
        · obtain rfl : i = g.acts.length := by omega
          have hsn : stepR g l = none := by
            unfold stepR
            rw [List.findIdx?_eq_none_iff]
            intro a ha
            obtain ⟨j, hj, rfl⟩ := List.mem_iff_getElem.1 ha
            exact HAL.out j hj hj
          have hg2 : orderR g = orderGo g (g.acts.length - (r + 1)) l := by
            have h1 := HGO.out
            have h2 : g.acts.length - r = (g.acts.length - (r + 1)) + 1 := by omega
            rw [h2] at h1
            unfold orderGo at h1
            rw [hsn] at h1
            rw [h1]
            cases (g.acts.length - (r + 1)) with
            | zero => rfl
            | succ n => unfold orderGo; rw [hsn]
          have HG2 := hid hg2
          clear hsn hg2
          go_wp2_with fail
          go_roundw
          case rel => exact ⟨r + 1, l, _, _, rfl, rfl, by omega, by go_num, HOD.out, HG2.out, HO1.out, HQ1.out, HBO.out, HBD.out, HAP.out, HW1.out⟩
          case measure => simp [intOf]; omega
    · obtain rfl : r = g.acts.length := by omega
      go_wp2_with fail
      go_ret
      refine ⟨HC1.out.trans HC.out (fun _ _ h => h), v3, rfl, ?_⟩
      have h1 := HGO.out
      rw [Nat.sub_self] at h1
      rw [h1]
      exact HO.out
end Go.Proofs.YtafdcmhckpdnbaaDoor
