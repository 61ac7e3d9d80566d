/- slices.Clone at names, (*web).needs walked. -/
import Derived.Test.YtafdcmhckpdnbaaDoorTrI
import Derived.Lib.BufferMore
namespace Go.Proofs.YtafdcmhckpdnbaaDoor
open Go.RowKit

set_option maxRecDepth 100000 in
theorem clone_any (v : Value) (ss : List Nm) (w : World) (hin : NamesAt w v ss) (hl : ss.length ≤ 1000000) :
    Calls Tryd.prog 44 #[v] w fun e w' => ∃ v', e = .returned v' ∧ QRow w' 9 v' (ss.map nmV) ∧ Chg (fun _ => False) w w' ∧ ∀ k, v'.ownBlock = some k → w.heap.size ≤ k := by
  have hs : StrsAt w v (ss.map bs) := hin
  have hm : (ss.map bs).map Value.string = ss.map nmV := by rw [List.map_map]; rfl
  rcases hs.1 with ⟨rfl, h0⟩ | ⟨a, cap, rfl, hc⟩
  · have hss : ss = [] := by simpa using h0
    subst hss
    have heq := fun W => Lib.run_eql_slice_nil_nil (P := Tryd.prog) W 0 0 Tryd.underlying22
    clear hs hin h0 hm
    go_enter Tryd.func44, Tryd.ntmps44
    go_wp2_with fail
    go_ret
    exact ⟨_, rfl, .inl ⟨rfl, rfl⟩, Chg.refl _ _, fun k h => by cases h⟩
  · have heq := fun W n => Lib.run_eql_slice_some_nil (P := Tryd.prog) W a n cap Tryd.underlying22
    have hq : QRow (w.alloc (.cells #[] 9)) 9 (.slice (some ⟨w.heap.size, 0, none⟩) 0 0) [] := .inr ⟨w.heap.size, 0, 0, #[], rfl, heap_alloc_new' w _, Nat.zero_le _, Nat.zero_le _, Nat.zero_le _, rfl⟩
    have hA : Chg (fun _ => False) w (w.alloc (.cells #[] 9)) := (Chg.refl _ w).alloc _
    have hs2 := hs.chg hA (fun _ _ h => h)
    have HS := hid hs2
    have HQ := hid hq
    have HM := hid hm
    have HL : Hid ((ss.map bs).length ≤ 1000000) := by show (ss.map bs).length ≤ 1000000; simpa using hl
    have HA := hid hA
    clear hin hs hs2 hq hm hc hA hl
    generalize ss.map bs = ssb at *
    go_enter Tryd.func44, Tryd.ntmps44
    go_wp2_with (at_builtin; refine wpList_append_q rfl _ _ 22 rfl elStr HQ.out rfl rfl HS.out (by have := HL.out; unfold maxLen; simp; omega) (by have := HL.out; simp; omega) ?_; intro v1 w1 hq1 hc1 hb1)
    go_ret
    refine ⟨v1, rfl, by rw [← HM.out]; simpa using hq1, HA.out.trans hc1 (fun i hi h => by simp [Value.ownBlock] at h; omega), fun k hk => ?_⟩
    rcases hb1 k hk with h | h
    · simp [Value.ownBlock] at h; omega
    · simp at h; omega

theorem QRow.lenOf {w : World} {e : TypeId} {v : Value} {xs : List Value} (h : QRow w e v xs) : Go.Proofs.YtafdcmhckpdnbaaDoor.lenOf v = xs.length := by
  rcases h with ⟨rfl, rfl⟩ | ⟨g, o, cap, cur, rfl, _⟩ <;> rfl
/-- The state of the search: what has been taken up, what is still to be. -/
structure NSt (g : GrR) (i : Nat) (K todo : List Nm) : Prop where
  nd : K.Nodup
  a : ∀ s ∈ insAt g i, s ∈ K ∨ s ∈ todo
  b : ∀ t ∈ K, ∀ s ∈ actIns g t, s ∈ K ∨ s ∈ todo
  c : ∀ s, s ∈ K ∨ s ∈ todo → Needs g i s
theorem NSt.start (g : GrR) (i : Nat) : NSt g i [] (insAt g i) := ⟨List.nodup_nil, fun s h => .inr h, (fun t h => absurd h (by simp)), fun s h => by rcases h with h | h; exact absurd h (by simp); exact .base h⟩
theorem NSt.seen {g : GrR} {i : Nat} {K rest : List Nm} {s : Nm} (h : NSt g i K (s :: rest)) (hs : s ∈ K) : NSt g i K rest := by
  have key : ∀ u, u ∈ K ∨ u ∈ s :: rest → u ∈ K ∨ u ∈ rest := by
    intro u hu
    rcases hu with hu | hu
    · exact .inl hu
    · rcases List.mem_cons.1 hu with rfl | hu
      · exact .inl hs
      · exact .inr hu
  exact ⟨h.nd, fun u hu => key u (h.a u hu), fun t ht u hu => key u (h.b t ht u hu), fun u hu => h.c u (hu.imp id (List.mem_cons_of_mem _))⟩
theorem NSt.take {g : GrR} {i : Nat} {K rest : List Nm} {s : Nm} (h : NSt g i K (s :: rest)) (hs : s ∉ K) : NSt g i (K ++ [s]) (rest ++ actIns g s) := by
  have key : ∀ u, u ∈ K ∨ u ∈ s :: rest → u ∈ K ++ [s] ∨ u ∈ rest ++ actIns g s := by
    intro u hu
    rcases hu with hu | hu
    · exact .inl (List.mem_append_left _ hu)
    · rcases List.mem_cons.1 hu with rfl | hu
      · exact .inl (by simp)
      · exact .inr (List.mem_append_left _ hu)
  have hsn : Needs g i s := h.c s (.inr (by simp))
  refine ⟨?_, fun u hu => key u (h.a u hu), fun t ht u hu => ?_, fun u hu => ?_⟩
  · rw [List.nodup_append]
    exact ⟨h.nd, by simp, fun a ha b hb => by simp at hb; subst hb; intro e; exact hs (e ▸ ha)⟩
  · rcases List.mem_append.1 ht with ht | ht
    · exact key u (h.b t ht u hu)
    · simp at ht; subst ht
      exact .inr (List.mem_append_right _ hu)
  · rcases hu with hu | hu
    · rcases List.mem_append.1 hu with hu | hu
      · exact h.c u (.inl hu)
      · simp at hu; subst hu; exact hsn
    · rcases List.mem_append.1 hu with hu | hu
      · exact h.c u (.inr (List.mem_cons_of_mem _ hu))
      · exact .step hsn hu
theorem NSt.le {g : GrR} (hw : Wov g) {i : Nat} (hi : i < g.acts.length) {K todo : List Nm} (h : NSt g i K todo) : K.length ≤ 20 := by
  have h1 := sub_length K (namesL g) h.nd (fun s hs => (h.c s (.inl hs)).names hw hi)
  have h2 := hw.srcs8
  have h3 := hw.acts12
  unfold namesL at h1
  simp at h1
  omega
theorem NSt.done {g : GrR} {i : Nat} {K : List Nm} (h : NSt g i K []) (s : Nm) : s ∈ K ↔ Needs g i s :=
  needs_closed (fun s hs => (h.a s hs).resolve_right (by simp)) (fun t ht s hs => (h.b t ht s hs).resolve_right (by simp)) (fun s hs => h.c s (.inl hs)) s
theorem ins4_le {g : GrR} (hw : Wov g) (i : Nat) : (insAt g i).length ≤ 4 := by
  by_cases hi : i < g.acts.length
  · rw [insAt_lt g i hi]
    exact ((actOK_iff _).1 (((grOK_iff g).1 hw.ok).2.2.2 _ (List.getElem_mem hi))).2.2.1
  · rw [insAt_ge g i hi]; simp
def NeedsPost (g : GrR) (i : Nat) (w : World) (e : Ending) (w' : World) : Prop :=
  Chg (fun _ => False) w w' ∧ ∃ r K, e = .returned (.map (some r)) ∧ w.heap.size ≤ r ∧ SetAt w' r K ∧ K.Nodup ∧ K.length ≤ 20 ∧ ∀ s, s ∈ K ↔ Needs g i s

set_option maxRecDepth 100000 in
set_option maxHeartbeats 4000000 in
theorem needs_any (g : GrR) (hw : Wov g) (i : Nat) (hi : i < g.acts.length) (w : World) (b : Nat) (hb : IsWeb w b g) :
    Calls Tryd.prog 30 #[.pointer (some ⟨b, 0, none⟩), .int .i64 i] w (NeedsPost g i w) := by
  have hmm := @run_makeMap Tryd.prog
  obtain ⟨sv, av, iv, r, lm, hb⟩ := hb
  have hn12 := hw.acts12
  have hA : Chg (fun _ => False) w (w.alloc (.map #[] 0)) := (Chg.refl _ w).alloc _
  have k1 := cell_of (hA.obj hb.blk (fun h => h)) 1
  simp at k1
  obtain ⟨bb, oo, hix, hlt, e0, e1, e2, hns, _, _⟩ := (hb.acts.chg hA (fun _ _ h => h)).at i hi
  have hin := insAt_lt g i hi
  have hcl := clone_any (iv i) g.acts[i].ins _ hns (by have := ins4_le hw i; rw [hin] at this; omega)
  rw [← hin] at hcl
  have hset := SetAt.fresh w
  have HB := hid hb
  have HW := hid hw
  have HA := hid hA
  have HSET := hid hset
  clear hb hw hns hset hin hA e0 e2
  go_enter Tryd.func30, Tryd.ntmps30
  go_wp2_with (go_at_call 44; refine hcl.mono ?_; rintro e w2 ⟨v2, rfl, hq2, hc2, hv2⟩)
  generalize hW1 : w.alloc (.map #[] 0) = W1 at *
  have z1 : W1.heap.size = w.heap.size + 1 := by rw [← hW1]; simp
  obtain ⟨r0, hr0⟩ : ∃ r0, r0 = w.heap.size := ⟨_, rfl⟩
  rw [← hr0] at HSET z1 ⊢
  have hset2 := HSET.out.chg hc2 (fun h => h)
  have HQ2 := hid hq2
  have HC2 := hid hc2
  have HV2 : Hid (∀ k, v2.ownBlock = some k → r0 < k) := hid (fun k hk => by have := hv2 k hk; omega)
  have HS2 := hid hset2
  have HI4 := hid (ins4_le HW.out i)
  have HZ1 := hid z1
  have HR0 := hid hr0
  clear hmm hcl hq2 hc2 hv2 hset2 hW1 z1 hr0 hix e1 k1 HSET hlt
  go_loopw [6] (fun v wr => ∃ (K todo : List Nm) (x : Value), x = v ∧ NSt g i K todo ∧ (20 - K.length) * 5 + todo.length ≤ 200 ∧ QRow wr 9 x (todo.map nmV) ∧ (∀ k, x.ownBlock = some k → r0 < k) ∧ SetAt wr r0 K ∧ Chg (fun k => k = r0) W1 wr) (fun v wr => (20 - mapLen wr r0) * 5 + lenOf v)
  case atStart => exact ⟨[], insAt g i, _, rfl, NSt.start g i, (by have := HI4.out; simp; omega), HQ2.out, HV2.out, HS2.out, HC2.out.mono (fun _ _ h => h.elim)⟩
  case round =>
    obtain ⟨K, todo, v, hv, hst, hbd, hq, hbl, hset, hch⟩ := hrel
    subst hv
    have HST := hid hst
    have HBD := hid hbd
    have HBL := hid hbl
    have HSET := hid hset
    have HC := hid hch
    have HFAR : Hid (∀ W, Chg (fun k => k = r0) W1 W → Chg (fun _ => False) w W) := hid (fun W hW => HA.out.trans hW (fun i hi h => by have := HR0.out; omega))
    have k1 := cell_of ((HFAR.out _ hch).obj HB.out.blk (fun h => h)) 1
    have k2 := cell_of ((HFAR.out _ hch).obj HB.out.blk (fun h => h)) 2
    simp at k1 k2
    clear hst hbd hbl hset hch HQ2 HC2 HV2 HS2
    cases todo with
    | nil =>
      obtain ⟨oo2, c2, rfl⟩ : ∃ o c, v = .slice o 0 c := by
        rcases hq with ⟨rfl, _⟩ | ⟨g1, o1, cap1, cur1, rfl, _⟩
        · exact ⟨_, _, rfl⟩
        · exact ⟨_, _, rfl⟩
      clear hq
      go_wp2_with fail
      go_ret
      exact ⟨HFAR.out _ HC.out, r0, K, rfl, (by have := HR0.out; omega), HSET.out, HST.out.nd, HST.out.le HW.out hi, HST.out.done⟩
    | cons s rest =>
      rw [List.map_cons] at hq
      have hu := hq.uncons
      rw [List.length_map] at hu
      obtain ⟨g1, o1, cap1, rfl, hc1, hcm, hhd, hg1, hq2⟩ := hu
      have hsl := run_tail (P := Tryd.prog) Tryd.underlying22 Tryd.sizeOf9 g1 o1 rest.length cap1 hc1 hcm
      have hlenq : ∀ W ty, (Builtin.len_ #[22] ty #[.slice (some ⟨g1, o1, none⟩) (rest.length + 1) cap1]).run Tryd.prog W = .ok (.int .i64 ((rest.length : Int) + 1)) W := fun W ty => by
        simp [Builtin.len_, run_underlying Tryd.underlying22]; rfl
      generalize (if cap1 = 1 then o1 else o1 + 1) = o2 at hsl hq2
      have hpos : (0 : Int) < (rest.length : Int) + 1 := by omega
      have hixq : ∀ W, (Instr.indexAt 22 (.slice (some ⟨g1, o1, none⟩) (rest.length + 1) cap1) (.int .i64 0)).run Tryd.prog W = .ok (.pointer (some ⟨g1, o1, none⟩)) W := fun W => by
        simp [Instr.indexAt, run_underlying Tryd.underlying22, asIntOf, Tryd.sizeOf9, Addr.add]
      have HQ2 := hid hq2
      have hval := setL_val s K
      have hv2 : ((lval s (setL K)).map boolV).getD (.bool false) = .bool (K.contains s) := by
        rw [← hval]; cases lval s (setL K) <;> rfl
      have hmp := HSET.out.map
      have HMP := hid hmp
      have HO1 : Hid (r0 < g1) := by have := HBL.out g1 rfl; exact hid this
      generalize hn0 : rest.length = n0 at *
      have HN0 := hid hn0
      generalize hvv : Value.slice (some ⟨g1, o1, none⟩) (n0 + 1) cap1 = vq at *
      have HVV := hid hvv
      clear hq hq2 hval hmp hcm hn0 hvv
      by_cases hK : s ∈ K
      · have hct : K.contains s = true := by simpa using hK
        rw [hct] at hv2
        have HV := hid hv2
        have HK := hid hK
        clear hv2 hct hK
        go_wp2_with (at_lookup; refine wpList_lookup_v rfl _ _ 63 rfl keyNm Tryd.underlying63 (zeroB _) HMP.out rfl s rfl _ HV.out ?_; go_frame)
        go_roundw
        case rel =>
          exact ⟨K, rest, _, rfl, HST.out.seen HK.out, (by have := HBD.out; simp at this; omega), HQ2.out, (fun k hk => by simp [Value.ownBlock] at hk; have := HO1.out; omega), HSET.out, HC.out⟩
        case measure => rw [← HVV.out]; simp [lenOf]
      · have hct : K.contains s = false := by simpa using hK
        rw [hct] at hv2
        have HV := hid hv2
        have HK := hid hK
        have hle := HST.out.take hK |>.le HW.out hi
        simp at hle
        have hsn := HST.out.c s (.inr (by simp)) |>.names HW.out hi
        have HLE := hid hle
        have hST2 := HST.out.take hK
        clear hv2 hct hK hle
        rcases HW.out.src_or hsn with ⟨h1, h2⟩ | ⟨j, hj, h1, h2, h3⟩
        · have hai : actIns g s = [] := by unfold actIns; rw [h2]
          rw [hai, List.append_nil] at hST2
          have hv3 : ((lval s lm).map intV).getD (.int .i64 0) = .int .i64 (-1) := by rw [HB.out.look]; unfold atV; rw [h2]; simp [h1]
          have HV3 := hid hv3
          have HST2 := hid hST2
          clear hv3 hST2 hai h1 h2 hsn
          go_wp2_with (first | (at_lookup; refine wpList_lookup_v rfl _ _ 63 rfl keyNm Tryd.underlying63 (zeroB _) HMP.out rfl s rfl _ HV.out ?_) | (at_mapUpdate; refine wpList_put_set rfl _ _ _ 63 rfl keyNm Tryd.underlying63 HSET.out rfl s HK.out rfl rfl ?_; intro w5 hset5 hc5; have HC5 := hid (HC.out.trans hc5 (fun _ _ h => h)); have d2 := cell_of ((HFAR.out _ HC5.out).obj HB.out.blk (fun h => h)) 2; simp at d2) | (at_lookup; refine wpList_lookup_v rfl _ _ 56 rfl keyNm Tryd.underlying56 (zeroI _) (HB.out.map.chg (HFAR.out _ HC5.out) (fun h => h)) rfl s rfl _ HV3.out ?_))
          go_roundw
          case rel =>
            exact ⟨K ++ [s], rest, _, rfl, HST2.out, (by have := HBD.out; have := HLE.out; simp at *; omega), HQ2.out.chg hc5 (fun k hk h => by simp [Value.ownBlock] at hk; have := HO1.out; omega), (fun k hk => by simp [Value.ownBlock] at hk; have := HO1.out; omega), hset5, HC5.out⟩
          case measure =>
            rw [← HVV.out, hset5.len, HSET.out.len]
            have := HLE.out
            simp [lenOf]
            omega
        · have hai : actIns g s = insAt g j := by unfold actIns; rw [h2]
          rw [hai] at hST2
          have hv3 : ((lval s lm).map intV).getD (.int .i64 0) = .int .i64 j := by rw [HB.out.look]; unfold atV; rw [h2]; rfl
          have HV3 := hid hv3
          have HST2 := hid hST2
          have HJ := hid hj
          have hj0 : (0 : Int) ≤ (j : Int) := by omega
          have HB4 : Hid ((rest.map nmV).length + (g.acts[j].ins.map bs).length ≤ 1000) := by
            show (rest.map nmV).length + (g.acts[j].ins.map bs).length ≤ 1000
            have h4 := ins4_le HW.out j
            rw [insAt_lt g j hj] at h4
            have := HBD.out
            simp at this ⊢
            omega
          have HEQ : Hid (rest.map nmV ++ (g.acts[j].ins.map bs).map .string = (rest ++ insAt g j).map nmV) := by
            show _ = _
            rw [insAt_lt g j hj, List.map_append, List.map_map]
            rfl
          clear hv3 hST2 hai h1 h2 h3 hsn hj
          go_wp2_with (first | (at_lookup; refine wpList_lookup_v rfl _ _ 63 rfl keyNm Tryd.underlying63 (zeroB _) HMP.out rfl s rfl _ HV.out ?_) | (at_mapUpdate; refine wpList_put_set rfl _ _ _ 63 rfl keyNm Tryd.underlying63 HSET.out rfl s HK.out rfl rfl ?_; intro w5 hset5 hc5; have HC5 := hid (HC.out.trans hc5 (fun _ _ h => h)); have d1 := cell_of ((HFAR.out _ HC5.out).obj HB.out.blk (fun h => h)) 1; have d2 := cell_of ((HFAR.out _ HC5.out).obj HB.out.blk (fun h => h)) 2; simp at d1 d2; obtain ⟨b3, o3, hi3, hlt3, _, p1, _, hn3, _, _⟩ := (HB.out.acts.chg (HFAR.out _ HC5.out) (fun _ _ h => h)).at j HJ.out; have HN3 := hid hn3; clear hn3 hlt3) | (at_lookup; refine wpList_lookup_v rfl _ _ 56 rfl keyNm Tryd.underlying56 (zeroI _) (HB.out.map.chg (HFAR.out _ HC5.out) (fun h => h)) rfl s rfl _ HV3.out ?_) | (at_builtin; refine wpList_append_q rfl _ _ 22 rfl elStr (HQ2.out.chg hc5 (fun k hk h => by simp [Value.ownBlock] at hk; have := HO1.out; omega)) rfl rfl HN3.out (by have := HB4.out; unfold maxLen; omega) (by have := HB4.out; omega) ?_; intro v6 w6 hq6 hc6 hb6))
          go_roundw
          case rel =>
            refine ⟨K ++ [s], rest ++ insAt g j, _, rfl, HST2.out, ?_, Eq.mp (congrArg (QRow w6 9 v6) HEQ.out) hq6, fun k hk => ?_, hset5.chg hc6 (fun h => by simp [Value.ownBlock] at h; have := HO1.out; omega), HC5.out.trans hc6 (fun k hk h => by simp [Value.ownBlock] at h; have := HO1.out; have := HZ1.out; omega)⟩
            · have := HBD.out; have := HLE.out; have := ins4_le HW.out j; simp at *; omega
            · rcases hb6 k hk with h | h
              · simp [Value.ownBlock] at h; have := HO1.out; omega
              · have := hset5.lt; omega
          case measure =>
            have hs6 : SetAt w6 r0 (K ++ [s]) := hset5.chg hc6 (fun h => by simp [Value.ownBlock] at h; have := HO1.out; omega)
            have hl6 := hq6.lenOf
            have := HLE.out
            have := HB4.out
            have h4 := ins4_le HW.out j
            rw [insAt_lt g j HJ.out] at h4
            have := HN0.out
            rw [← HVV.out, hs6.len, HSET.out.len, hl6]
            simp [Go.Proofs.YtafdcmhckpdnbaaDoor.lenOf]
            omega
end Go.Proofs.YtafdcmhckpdnbaaDoor
