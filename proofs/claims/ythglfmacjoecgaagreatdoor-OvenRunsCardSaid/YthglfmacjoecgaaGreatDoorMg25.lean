/- Texts of the proof, one behind the other: slices.Clone at names, (*web).needs walked; trellis.Needs, Dirty walked; trellis.Dirty walked. -/
import Derived.Test.YthglfmacjoecgaaGreatDoorMg24
import Derived.Lib.BufferMore
namespace Go.Proofs.YthglfmacjoecgaaGreatDoor
open Go.RowKit

set_option maxRecDepth 100000 in
theorem clone_any (v : Value) (ss : List Nm) (w : World) (hin : NamesAt w v ss) (hl : ss.length ≤ 1000000) :
    Calls Tryz.prog 77 #[v] w fun e w' => ∃ v', e = .returned v' ∧ QRow w' 9 v' (ss.map nmV) ∧ Chg (fun _ => False) w w' ∧ ∀ k, v'.ownBlock = some k → w.heap.size ≤ k := by
  have hs : StrsAt w v (ss.map bs) := hin
  have hm : (ss.map bs).map Value.string = ss.map nmV := by rw [List.map_map]; rfl
  rcases hs.1 with ⟨rfl, h0⟩ | ⟨a, cap, rfl, hc⟩
  · have hss : ss = [] := by simpa using h0
    subst hss
    have heq := fun W => Lib.run_eql_slice_nil_nil (P := Tryz.prog) W 0 0 Tryz.underlying22
    clear hs hin h0 hm
    go_enter Tryz.func77, Tryz.ntmps77
    go_wp2_with fail
    go_ret
    exact ⟨_, rfl, .inl ⟨rfl, rfl⟩, Chg.refl _ _, fun k h => by cases h⟩
  · have heq := fun W n => Lib.run_eql_slice_some_nil (P := Tryz.prog) W a n cap Tryz.underlying22
    have hq : QRow (w.alloc (.cells #[] 9)) 9 (.slice (some ⟨w.heap.size, 0, none⟩) 0 0) [] := .inr ⟨w.heap.size, 0, 0, #[], rfl, heap_alloc_new' w _, Nat.zero_le _, Nat.zero_le _, Nat.zero_le _, rfl⟩
    have hA : Chg (fun _ => False) w (w.alloc (.cells #[] 9)) := (Chg.refl _ w).alloc _
    have hs2 := hs.chg hA (fun _ _ h => h)
    have HS := hid hs2
    have HQ := hid hq
    have HM := hid hm
    have HL : Hid ((ss.map bs).length ≤ 1000000) := by show (ss.map bs).length ≤ 1000000; simpa using hl
    have HA := hid hA
    clear hin hs hs2 hq hm hc hA hl
    generalize ss.map bs = ssb at *
    go_enter Tryz.func77, Tryz.ntmps77
    go_wp2_with (at_builtin; refine wpList_append_q rfl _ _ 22 rfl elStr HQ.out rfl rfl HS.out (by have := HL.out; unfold maxLen; simp; omega) (by have := HL.out; simp; omega) ?_; intro v1 w1 hq1 hc1 hb1)
    go_ret
    refine ⟨v1, rfl, by rw [← HM.out]; simpa using hq1, HA.out.trans hc1 (fun i hi h => by simp [Value.ownBlock] at h; omega), fun k hk => ?_⟩
    rcases hb1 k hk with h | h
    · simp [Value.ownBlock] at h; omega
    · simp at h; omega

theorem QRow.lenOf {w : World} {e : TypeId} {v : Value} {xs : List Value} (h : QRow w e v xs) : Go.Proofs.YthglfmacjoecgaaGreatDoor.lenOf v = xs.length := by
  rcases h with ⟨rfl, rfl⟩ | ⟨g, o, cap, cur, rfl, _⟩ <;> rfl
/-- The state of the search: what has been taken up, what is still to be. -/
structure NSt (g : GrR) (i : Nat) (K todo : List Nm) : Prop where
  nd : K.Nodup
  a : ∀ s ∈ insAt g i, s ∈ K ∨ s ∈ todo
  b : ∀ t ∈ K, ∀ s ∈ actIns g t, s ∈ K ∨ s ∈ todo
  c : ∀ s, s ∈ K ∨ s ∈ todo → Needs g i s
theorem NSt.start (g : GrR) (i : Nat) : NSt g i [] (insAt g i) := ⟨List.nodup_nil, fun s h => .inr h, (fun t h => absurd h (by simp)), fun s h => by rcases h with h | h; exact absurd h (by simp); exact .base h⟩
theorem NSt.seen {g : GrR} {i : Nat} {K rest : List Nm} {s : Nm} (h : NSt g i K (s :: rest)) (hs : s ∈ K) : NSt g i K rest := by
  have key : ∀ u, u ∈ K ∨ u ∈ s :: rest → u ∈ K ∨ u ∈ rest := by
    intro u hu
    rcases hu with hu | hu
    · exact .inl hu
    · rcases List.mem_cons.1 hu with rfl | hu
      · exact .inl hs
      · exact .inr hu
  exact ⟨h.nd, fun u hu => key u (h.a u hu), fun t ht u hu => key u (h.b t ht u hu), fun u hu => h.c u (hu.imp id (List.mem_cons_of_mem _))⟩
theorem NSt.take {g : GrR} {i : Nat} {K rest : List Nm} {s : Nm} (h : NSt g i K (s :: rest)) (hs : s ∉ K) : NSt g i (K ++ [s]) (rest ++ actIns g s) := by
  have key : ∀ u, u ∈ K ∨ u ∈ s :: rest → u ∈ K ++ [s] ∨ u ∈ rest ++ actIns g s := by
    intro u hu
    rcases hu with hu | hu
    · exact .inl (List.mem_append_left _ hu)
    · rcases List.mem_cons.1 hu with rfl | hu
      · exact .inl (by simp)
      · exact .inr (List.mem_append_left _ hu)
  have hsn : Needs g i s := h.c s (.inr (by simp))
  refine ⟨?_, fun u hu => key u (h.a u hu), fun t ht u hu => ?_, fun u hu => ?_⟩
  · rw [List.nodup_append]
    exact ⟨h.nd, by simp, fun a ha b hb => by simp at hb; subst hb; intro e; exact hs (e ▸ ha)⟩
  · rcases List.mem_append.1 ht with ht | ht
    · exact key u (h.b t ht u hu)
    · simp at ht; subst ht
      exact .inr (List.mem_append_right _ hu)
  · rcases hu with hu | hu
    · rcases List.mem_append.1 hu with hu | hu
      · exact h.c u (.inl hu)
      · simp at hu; subst hu; exact hsn
    · rcases List.mem_append.1 hu with hu | hu
      · exact h.c u (.inr (List.mem_cons_of_mem _ hu))
      · exact .step hsn hu
theorem NSt.le {g : GrR} (hw : Wov g) {i : Nat} (hi : i < g.acts.length) {K todo : List Nm} (h : NSt g i K todo) : K.length ≤ 20 := by
  have h1 := sub_length K (namesL g) h.nd (fun s hs => (h.c s (.inl hs)).names hw hi)
  have h2 := hw.srcs8
  have h3 := hw.acts12
  unfold namesL at h1
  simp at h1
  omega
theorem NSt.done {g : GrR} {i : Nat} {K : List Nm} (h : NSt g i K []) (s : Nm) : s ∈ K ↔ Needs g i s :=
  needs_closed (fun s hs => (h.a s hs).resolve_right (by simp)) (fun t ht s hs => (h.b t ht s hs).resolve_right (by simp)) (fun s hs => h.c s (.inl hs)) s
theorem ins4_le {g : GrR} (hw : Wov g) (i : Nat) : (insAt g i).length ≤ 4 := by
  by_cases hi : i < g.acts.length
  · rw [insAt_lt g i hi]
    exact ((actOK_iff _).1 (((grOK_iff g).1 hw.ok).2.2.2 _ (List.getElem_mem hi))).2.2.1
  · rw [insAt_ge g i hi]; simp
def NeedsPost (g : GrR) (i : Nat) (w : World) (e : Ending) (w' : World) : Prop :=
  Chg (fun _ => False) w w' ∧ ∃ r K, e = .returned (.map (some r)) ∧ w.heap.size ≤ r ∧ SetAt w' r K ∧ K.Nodup ∧ K.length ≤ 20 ∧ ∀ s, s ∈ K ↔ Needs g i s

set_option maxRecDepth 100000 in
set_option maxHeartbeats 4000000 in
theorem needs_any (g : GrR) (hw : Wov g) (i : Nat) (hi : i < g.acts.length) (w : World) (b : Nat) (hb : IsWeb w b g) :
    Calls Tryz.prog 74 #[.pointer (some ⟨b, 0, none⟩), .int .i64 i] w (NeedsPost g i w) := by
  have hmm := @run_makeMap Tryz.prog
  obtain ⟨sv, av, iv, r, lm, hb⟩ := hb
  have hn12 := hw.acts12
  have hA : Chg (fun _ => False) w (w.alloc (.map #[] 0)) := (Chg.refl _ w).alloc _
  have k1 := cell_of (hA.obj hb.blk (fun h => h)) 1
  simp at k1
  obtain ⟨bb, oo, hix, hlt, e0, e1, e2, hns, _, _⟩ := (hb.acts.chg hA (fun _ _ h => h)).at i hi
  have hin := insAt_lt g i hi
  have hcl := clone_any (iv i) g.acts[i].ins _ hns (by have := ins4_le hw i; rw [hin] at this; omega)
  rw [← hin] at hcl
  have hset := SetAt.fresh w
  have HB := hid hb
  have HW := hid hw
  have HA := hid hA
  have HSET := hid hset
  clear hb hw hns hset hin hA e0 e2
  go_enter Tryz.func74, Tryz.ntmps74
  go_wp2_with (go_at_call 77; refine hcl.mono ?_; rintro e w2 ⟨v2, rfl, hq2, hc2, hv2⟩)
  generalize hW1 : w.alloc (.map #[] 0) = W1 at *
  have z1 : W1.heap.size = w.heap.size + 1 := by rw [← hW1]; simp
  obtain ⟨r0, hr0⟩ : ∃ r0, r0 = w.heap.size := ⟨_, rfl⟩
  rw [← hr0] at HSET z1 ⊢
  have hset2 := HSET.out.chg hc2 (fun h => h)
  have HQ2 := hid hq2
  have HC2 := hid hc2
  have HV2 : Hid (∀ k, v2.ownBlock = some k → r0 < k) := hid (fun k hk => by have := hv2 k hk; omega)
  have HS2 := hid hset2
  have HI4 := hid (ins4_le HW.out i)
  have HZ1 := hid z1
  have HR0 := hid hr0
  clear hmm hcl hq2 hc2 hv2 hset2 hW1 z1 hr0 hix e1 k1 HSET hlt
  go_loopw [6] (fun v wr => ∃ (K todo : List Nm) (x : Value), x = v ∧ NSt g i K todo ∧ (20 - K.length) * 5 + todo.length ≤ 200 ∧ QRow wr 9 x (todo.map nmV) ∧ (∀ k, x.ownBlock = some k → r0 < k) ∧ SetAt wr r0 K ∧ Chg (fun k => k = r0) W1 wr) (fun v wr => (20 - mapLen wr r0) * 5 + lenOf v)
  case atStart => exact ⟨[], insAt g i, _, rfl, NSt.start g i, (by have := HI4.out; simp; omega), HQ2.out, HV2.out, HS2.out, HC2.out.mono (fun _ _ h => h.elim)⟩
  case round =>
    obtain ⟨K, todo, v, hv, hst, hbd, hq, hbl, hset, hch⟩ := hrel
    subst hv
    have HST := hid hst
    have HBD := hid hbd
    have HBL := hid hbl
    have HSET := hid hset
    have HC := hid hch
    have HFAR : Hid (∀ W, Chg (fun k => k = r0) W1 W → Chg (fun _ => False) w W) := hid (fun W hW => HA.out.trans hW (fun i hi h => by have := HR0.out; omega))
    have k1 := cell_of ((HFAR.out _ hch).obj HB.out.blk (fun h => h)) 1
    have k2 := cell_of ((HFAR.out _ hch).obj HB.out.blk (fun h => h)) 2
    simp at k1 k2
    clear hst hbd hbl hset hch HQ2 HC2 HV2 HS2
    cases todo with
    | nil =>
      obtain ⟨oo2, c2, rfl⟩ : ∃ o c, v = .slice o 0 c := by
        rcases hq with ⟨rfl, _⟩ | ⟨g1, o1, cap1, cur1, rfl, _⟩
        · exact ⟨_, _, rfl⟩
        · exact ⟨_, _, rfl⟩
      clear hq
      go_wp2_with fail
      go_ret
      exact ⟨HFAR.out _ HC.out, r0, K, rfl, (by have := HR0.out; omega), HSET.out, HST.out.nd, HST.out.le HW.out hi, HST.out.done⟩
    | cons s rest =>
      rw [List.map_cons] at hq
      have hu := hq.uncons
      rw [List.length_map] at hu
      obtain ⟨g1, o1, cap1, rfl, hc1, hcm, hhd, hg1, hq2⟩ := hu
      have hsl := run_tail (P := Tryz.prog) Tryz.underlying22 Tryz.sizeOf9 g1 o1 rest.length cap1 hc1 hcm
      have hlenq : ∀ W ty, (Builtin.len_ #[22] ty #[.slice (some ⟨g1, o1, none⟩) (rest.length + 1) cap1]).run Tryz.prog W = .ok (.int .i64 ((rest.length : Int) + 1)) W := fun W ty => by
        simp [Builtin.len_, run_underlying Tryz.underlying22]; rfl
      generalize (if cap1 = 1 then o1 else o1 + 1) = o2 at hsl hq2
      have hpos : (0 : Int) < (rest.length : Int) + 1 := by omega
      have hixq : ∀ W, (Instr.indexAt 22 (.slice (some ⟨g1, o1, none⟩) (rest.length + 1) cap1) (.int .i64 0)).run Tryz.prog W = .ok (.pointer (some ⟨g1, o1, none⟩)) W := fun W => by
        simp [Instr.indexAt, run_underlying Tryz.underlying22, asIntOf, Tryz.sizeOf9, Addr.add]
      have HQ2 := hid hq2
      have hval := setL_val s K
      have hv2 : ((lval s (setL K)).map boolV).getD (.bool false) = .bool (K.contains s) := by
        rw [← hval]; cases lval s (setL K) <;> rfl
      have hmp := HSET.out.map
      have HMP := hid hmp
      have HO1 : Hid (r0 < g1) := by have := HBL.out g1 rfl; exact hid this
      generalize hn0 : rest.length = n0 at *
      have HN0 := hid hn0
      generalize hvv : Value.slice (some ⟨g1, o1, none⟩) (n0 + 1) cap1 = vq at *
      have HVV := hid hvv
      clear hq hq2 hval hmp hcm hn0 hvv
      by_cases hK : s ∈ K
      · have hct : K.contains s = true := by simpa using hK
        rw [hct] at hv2
        have HV := hid hv2
        have HK := hid hK
        clear hv2 hct hK
        go_wp2_with (at_lookup; refine wpList_lookup_v rfl _ _ 139 rfl keyNm Tryz.underlying139 (zeroB _) HMP.out rfl s rfl _ HV.out ?_; go_frame)
        go_roundw
        case rel =>
          exact ⟨K, rest, _, rfl, HST.out.seen HK.out, (by have := HBD.out; simp at this; omega), HQ2.out, (fun k hk => by simp [Value.ownBlock] at hk; have := HO1.out; omega), HSET.out, HC.out⟩
        case measure => rw [← HVV.out]; simp [lenOf]
      · have hct : K.contains s = false := by simpa using hK
        rw [hct] at hv2
        have HV := hid hv2
        have HK := hid hK
        have hle := HST.out.take hK |>.le HW.out hi
        simp at hle
        have hsn := HST.out.c s (.inr (by simp)) |>.names HW.out hi
        have HLE := hid hle
        have hST2 := HST.out.take hK
        clear hv2 hct hK hle
        rcases HW.out.src_or hsn with ⟨h1, h2⟩ | ⟨j, hj, h1, h2, h3⟩
        · have hai : actIns g s = [] := by unfold actIns; rw [h2]
          rw [hai, List.append_nil] at hST2
          have hv3 : ((lval s lm).map intV).getD (.int .i64 0) = .int .i64 (-1) := by rw [HB.out.look]; unfold atV; rw [h2]; simp [h1]
          have HV3 := hid hv3
          have HST2 := hid hST2
          clear hv3 hST2 hai h1 h2 hsn
          go_wp2_with (first | (at_lookup; refine wpList_lookup_v rfl _ _ 139 rfl keyNm Tryz.underlying139 (zeroB _) HMP.out rfl s rfl _ HV.out ?_) | (at_mapUpdate; refine wpList_put_set rfl _ _ _ 139 rfl keyNm Tryz.underlying139 HSET.out rfl s HK.out rfl rfl ?_; intro w5 hset5 hc5; have HC5 := hid (HC.out.trans hc5 (fun _ _ h => h)); have d2 := cell_of ((HFAR.out _ HC5.out).obj HB.out.blk (fun h => h)) 2; simp at d2) | (at_lookup; refine wpList_lookup_v rfl _ _ 148 rfl keyNm Tryz.underlying148 (zeroI _) (HB.out.map.chg (HFAR.out _ HC5.out) (fun h => h)) rfl s rfl _ HV3.out ?_))
          go_roundw
          case rel =>
            exact ⟨K ++ [s], rest, _, rfl, HST2.out, (by have := HBD.out; have := HLE.out; simp at *; omega), HQ2.out.chg hc5 (fun k hk h => by simp [Value.ownBlock] at hk; have := HO1.out; omega), (fun k hk => by simp [Value.ownBlock] at hk; have := HO1.out; omega), hset5, HC5.out⟩
          case measure =>
            rw [← HVV.out, hset5.len, HSET.out.len]
            have := HLE.out
            simp [lenOf]
            omega
        · have hai : actIns g s = insAt g j := by unfold actIns; rw [h2]
          rw [hai] at hST2
          have hv3 : ((lval s lm).map intV).getD (.int .i64 0) = .int .i64 j := by rw [HB.out.look]; unfold atV; rw [h2]; rfl
          have HV3 := hid hv3
          have HST2 := hid hST2
          have HJ := hid hj
          have hj0 : (0 : Int) ≤ (j : Int) := by omega
          have HB4 : Hid ((rest.map nmV).length + (g.acts[j].ins.map bs).length ≤ 1000) := by
            show (rest.map nmV).length + (g.acts[j].ins.map bs).length ≤ 1000
            have h4 := ins4_le HW.out j
            rw [insAt_lt g j hj] at h4
            have := HBD.out
            simp at this ⊢
            omega
          have HEQ : Hid (rest.map nmV ++ (g.acts[j].ins.map bs).map .string = (rest ++ insAt g j).map nmV) := by
            show _ = _
            rw [insAt_lt g j hj, List.map_append, List.map_map]
            rfl
          clear hv3 hST2 hai h1 h2 h3 hsn hj
          go_wp2_with (first | (at_lookup; refine wpList_lookup_v rfl _ _ 139 rfl keyNm Tryz.underlying139 (zeroB _) HMP.out rfl s rfl _ HV.out ?_) | (at_mapUpdate; refine wpList_put_set rfl _ _ _ 139 rfl keyNm Tryz.underlying139 HSET.out rfl s HK.out rfl rfl ?_; intro w5 hset5 hc5; have HC5 := hid (HC.out.trans hc5 (fun _ _ h => h)); have d1 := cell_of ((HFAR.out _ HC5.out).obj HB.out.blk (fun h => h)) 1; have d2 := cell_of ((HFAR.out _ HC5.out).obj HB.out.blk (fun h => h)) 2; simp at d1 d2; obtain ⟨b3, o3, hi3, hlt3, _, p1, _, hn3, _, _⟩ := (HB.out.acts.chg (HFAR.out _ HC5.out) (fun _ _ h => h)).at j HJ.out; have HN3 := hid hn3; clear hn3 hlt3) | (at_lookup; refine wpList_lookup_v rfl _ _ 148 rfl keyNm Tryz.underlying148 (zeroI _) (HB.out.map.chg (HFAR.out _ HC5.out) (fun h => h)) rfl s rfl _ HV3.out ?_) | (at_builtin; refine wpList_append_q rfl _ _ 22 rfl elStr (HQ2.out.chg hc5 (fun k hk h => by simp [Value.ownBlock] at hk; have := HO1.out; omega)) rfl rfl HN3.out (by have := HB4.out; unfold maxLen; omega) (by have := HB4.out; omega) ?_; intro v6 w6 hq6 hc6 hb6))
          go_roundw
          case rel =>
            refine ⟨K ++ [s], rest ++ insAt g j, _, rfl, HST2.out, ?_, Eq.mp (congrArg (QRow w6 9 v6) HEQ.out) hq6, fun k hk => ?_, hset5.chg hc6 (fun h => by simp [Value.ownBlock] at h; have := HO1.out; omega), HC5.out.trans hc6 (fun k hk h => by simp [Value.ownBlock] at h; have := HO1.out; have := HZ1.out; omega)⟩
            · have := HBD.out; have := HLE.out; have := ins4_le HW.out j; simp at *; omega
            · rcases hb6 k hk with h | h
              · simp [Value.ownBlock] at h; have := HO1.out; omega
              · have := hset5.lt; omega
          case measure =>
            have hs6 : SetAt w6 r0 (K ++ [s]) := hset5.chg hc6 (fun h => by simp [Value.ownBlock] at h; have := HO1.out; omega)
            have hl6 := hq6.lenOf
            have := HLE.out
            have := HB4.out
            have h4 := ins4_le HW.out j
            rw [insAt_lt g j HJ.out] at h4
            have := HN0.out
            rw [← HVV.out, hs6.len, HSET.out.len, hl6]
            simp [Go.Proofs.YthglfmacjoecgaaGreatDoor.lenOf]
            omega
end Go.Proofs.YthglfmacjoecgaaGreatDoor
namespace Go.Proofs.YthglfmacjoecgaaGreatDoor
open Go.RowKit

/-- Needs' answer. -/
def needsOf (g : GrR) (s : Nm) : List Nm := if checkR g = 0 then (match placeOf g s with | some i => needsR g i | none => []) else []
def NmsPost (w : World) (l : List Nm) (e : Ending) (w' : World) : Prop := Chg (fun _ => False) w w' ∧ ∃ v, e = .returned v ∧ w'.ownsRow 0 9 1 v l.length (l.map nmV)
theorem name_le {g : GrR} (hw : Wov g) {s : Nm} (hs : s ∈ namesL g) : s.length ≤ 8 := by
  have h := (grOK_iff g).1 hw.ok
  rcases mem_names.1 hs with h1 | ⟨i, hi, rfl⟩
  · exact (nameL_let (h.2.2.1 s h1)).2.1
  · rw [nameAt_lt g i hi]
    exact (nameL_let ((actOK_iff _).1 (h.2.2.2 _ (List.getElem_mem hi))).1).2.1

set_option maxRecDepth 100000 in
set_option maxHeartbeats 4000000 in
theorem tneeds_any (g : GrR) (s : Nm) (v : Value) (w : World) (hg : GrAt w v g) : Calls Tryz.prog 51 #[v, .string (bs s)] w (NmsPost w (needsOf g s)) := by
  obtain ⟨oa, c, ob, d, iv, rfl, hs, ha⟩ := hg.form
  have hC1 : Chg (fun _ => False) w (w.alloc (.cells #[.slice oa g.srcs.length c, .slice ob g.acts.length d] 25)) := (Chg.refl _ w).alloc _
  have hwv := checked_any g _ _ (hg.chg hC1 (fun _ _ h => h))
  unfold CheckedPost at hwv
  clear hs ha hg
  by_cases hz : checkR g = 0
  · have hcan := can_iff.1 hz
    have hwv2 : Calls Tryz.prog 73 #[.agg #[.slice oa g.srcs.length c, .slice ob g.acts.length d]] (w.alloc (.cells #[.slice oa g.srcs.length c, .slice ob g.acts.length d] 25)) (fun e w' => ∃ b, e = .returned (.tuple #[.pointer (some ⟨b, 0, none⟩), .int .i64 0]) ∧ Chg (fun _ => False) (w.alloc (.cells #[.slice oa g.srcs.length c, .slice ob g.acts.length d] 25)) w' ∧ IsWeb w' b g) :=
      hwv.mono (fun e w' ⟨h1, h2⟩ => by
        rcases h2 with ⟨_, b, h3, h4⟩ | ⟨h3, _⟩
        · exact ⟨b, h3, h1, h4⟩
        · exact absurd hz h3)
    have HCAN := hid hcan
    cases hp : placeOf g s with
    | none =>
      have hr : needsOf g s = [] := by unfold needsOf; rw [if_pos hz, hp]
      have HP := hid hp
      rw [hr]
      clear hz hr hwv hcan hp
      by_cases hsrc : s ∈ g.srcs
      · have hav : atV g s = some (-1) := by unfold atV; rw [HP.out]; simp [hsrc]
        have HAV := hid hav
        clear hav hsrc
        go_enter Tryz.func51, Tryz.ntmps51
        go_wp2_with (first | (go_at_call 73; refine hwv2.mono ?_; rintro e w2 ⟨b, rfl, hc2, ⟨sv, av, iv2, r, lm, hb2⟩⟩; have HB2 := hid hb2; have d2 := cell_of hb2.blk 2; clear hb2; simp at d2; have HV : Hid (((lval s lm).map intV).getD (.int .i64 0) = .int .i64 (-1)) := hid (by rw [HB2.out.look, HAV.out]; rfl); have HV2 : Hid ((lval s lm).isSome = true) := hid (by rw [HB2.out.look, HAV.out]; rfl)) | (at_lookup; refine wpList_lookup_ok rfl _ _ 148 rfl keyNm Tryz.underlying148 (zeroI _) HB2.out.map rfl s rfl _ HV.out true HV2.out ?_))
        go_ret
        exact ⟨hC1.trans hc2 (fun _ _ h => h), _, rfl, World.ownsRow_nil _ _ _ _⟩
      · have hav : atV g s = none := by unfold atV; rw [HP.out]; simp [hsrc]
        have HAV := hid hav
        clear hav hsrc
        go_enter Tryz.func51, Tryz.ntmps51
        go_wp2_with (first | (go_at_call 73; refine hwv2.mono ?_; rintro e w2 ⟨b, rfl, hc2, ⟨sv, av, iv2, r, lm, hb2⟩⟩; have HB2 := hid hb2; have d2 := cell_of hb2.blk 2; clear hb2; simp at d2; have HV : Hid (((lval s lm).map intV).getD (.int .i64 0) = .int .i64 0) := hid (by rw [HB2.out.look, HAV.out]; rfl); have HV2 : Hid ((lval s lm).isSome = false) := hid (by rw [HB2.out.look, HAV.out]; rfl)) | (at_lookup; refine wpList_lookup_ok rfl _ _ 148 rfl keyNm Tryz.underlying148 (zeroI _) HB2.out.map rfl s rfl _ HV.out false HV2.out ?_))
        go_ret
        exact ⟨hC1.trans hc2 (fun _ _ h => h), _, rfl, World.ownsRow_nil _ _ _ _⟩
    | some i =>
      have hr : needsOf g s = needsR g i := by unfold needsOf; rw [if_pos hz, hp]
      have hi := (placeOf_some hp).1
      have hav : atV g s = some (i : Int) := by unfold atV; rw [hp]
      have HAV := hid hav
      have HI := hid hi
      have hi0 : ¬ (i : Int) < 0 := by omega
      rw [hr]
      clear hz hr hwv hcan hp hav hi
      go_enter Tryz.func51, Tryz.ntmps51
      go_wp2_with (first | (go_at_call 73; refine hwv2.mono ?_; rintro e w2 ⟨b, rfl, hc2, ⟨sv, av, iv2, r, lm, hb2⟩⟩; have HB2 := hid hb2; have d2 := cell_of hb2.blk 2; clear hb2; simp at d2; have HV : Hid (((lval s lm).map intV).getD (.int .i64 0) = .int .i64 i) := hid (by rw [HB2.out.look, HAV.out]; rfl); have HV2 : Hid ((lval s lm).isSome = true) := hid (by rw [HB2.out.look, HAV.out]; rfl)) | (at_lookup; refine wpList_lookup_ok rfl _ _ 148 rfl keyNm Tryz.underlying148 (zeroI _) HB2.out.map rfl s rfl _ HV.out true HV2.out ?_) | (go_at_call 74; refine (needs_any g HCAN.out.w i HI.out w2 b ⟨sv, av, iv2, r, lm, HB2.out⟩).mono ?_; rintro e w3 ⟨hc3, r3, K, rfl, hr3, hs3, hnd, hlK, hmK⟩; have HS3 := hid hs3; have HND := hid hnd; have HLK := hid hlK; have HMK := hid hmK; have HC3 := hid hc3; clear hs3 hnd hlK hmK hc3 hr3) | (go_at_call 87; refine (keys_any _ _).mono ?_; rintro e w4 ⟨rfl, rfl⟩) | (go_at_call 86; refine (sorted_any r3 K (needsR g i) w3 HS3.out (fun t ht => by have := name_le HCAN.out.w (((HMK.out t).1 ht).names HCAN.out.w HI.out); unfold maxLen; omega) (by have := HLK.out; omega) HND.out (needsR_rise g i) (fun t => (HMK.out t).trans (HCAN.out.mem_needs HI.out).symm)).mono ?_; rintro e w5 ⟨v5, rfl, hown5, hc5⟩))
      go_ret
      exact ⟨((hC1.trans hc2 (fun _ _ h => h)).trans HC3.out (fun _ _ h => h)).trans hc5 (fun _ _ h => h), v5, rfl, hown5⟩
  · have hr : needsOf g s = [] := by unfold needsOf; rw [if_neg hz]
    have hwv2 : Calls Tryz.prog 73 #[.agg #[.slice oa g.srcs.length c, .slice ob g.acts.length d]] (w.alloc (.cells #[.slice oa g.srcs.length c, .slice ob g.acts.length d] 25)) (Rets (.tuple #[.pointer none, .int .i64 (checkR g)]) (Chg (fun _ => False) (w.alloc (.cells #[.slice oa g.srcs.length c, .slice ob g.acts.length d] 25)))) :=
      hwv.mono (fun e w' ⟨h1, h2⟩ => by
        rcases h2 with ⟨h3, _⟩ | ⟨_, h3⟩
        · exact absurd h3 hz
        · exact ⟨h3, h1⟩)
    have hne : ((checkR g : Int) == 0) = false := by simp; omega
    have hne2 : ¬ (checkR g : Int) = 0 := by omega
    rw [hr]
    clear hz hr hwv
    generalize checkR g = n at *
    go_enter Tryz.func51, Tryz.ntmps51
    go_wp2_with (go_at_call 73; refine hwv2.mono ?_; rintro e w2 ⟨rfl, hc2⟩)
    go_ret
    exact ⟨hC1.trans hc2 (fun _ _ h => h), _, rfl, World.ownsRow_nil _ _ _ _⟩
end Go.Proofs.YthglfmacjoecgaaGreatDoor
namespace Go.Proofs.YthglfmacjoecgaaGreatDoor
open Go.RowKit

set_option maxRecDepth 100000 in
theorem hit_any (s nm : Nm) (K : List Nm) (w : World) (ba bn r : Nat) (ha : w.cell? ⟨ba, 0, none⟩ = some (.string (bs nm))) (hn : w.cell? ⟨bn, 0, none⟩ = some (.map (some r))) (hs : SetAt w r K) :
    Calls Tryz.prog 75 #[.string (bs s), .pointer (some ⟨ba, 0, none⟩), .pointer (some ⟨bn, 0, none⟩)] w (Rets (.bool (s == nm || K.contains s)) (fun w' => w = w')) := by
  have hval := setL_val s K
  have hv2 : ((lval s (setL K)).map boolV).getD (.bool false) = .bool (K.contains s) := by
    rw [← hval]; cases lval s (setL K) <;> rfl
  have hmp := hs.map
  have HMP := hid hmp
  by_cases h : s = nm
  · have hr : (s == nm || K.contains s) = true := by simp [h]
    rw [hr]
    subst h
    clear hval hv2 hmp hs hr
    go_enter Tryz.func75, Tryz.ntmps75
    go_wp2_with fail
    go_ret
    exact ⟨rfl, rfl⟩
  · have hr : (s == nm || K.contains s) = K.contains s := by simp [h]
    have hb2 : ¬ (bs s).toList = (bs nm).toList := by rw [Lib.toList_data, Lib.toList_data, bs_data, bs_data]; exact h
    rw [hr]
    generalize K.contains s = B at *
    have HV := hid hv2
    clear hval hv2 hmp hs hr h
    go_enter Tryz.func75, Tryz.ntmps75
    go_wp2_with (at_lookup; refine wpList_lookup_w (by simp [Region.wanted, yielded, hb2]) _ _ 139 rfl keyNm Tryz.underlying139 (zeroB _) HMP.out rfl s rfl _ HV.out ?_)
    go_ret
    exact ⟨by simp [hb2], rfl⟩
theorem hit_dirty {g : GrR} (h : Can g) (names : List Nm) {i : Nat} (hi : i < g.acts.length) {K : List Nm} (hK : ∀ s, s ∈ K ↔ Needs g i s) : names.any (fun s => s == nameAt g i || K.contains s) = dirtyB g names i := by
  unfold dirtyB
  congr 1
  funext s
  congr 1
  rw [Bool.eq_iff_iff]
  simp only [List.contains_iff_mem]
  rw [hK s, h.mem_needs hi]
/-- Dirty's answer. -/
def dirtyOf (g : GrR) (names : List Nm) : List Nat := if checkR g = 0 then dirtyR g names else []
theorem range_snoc (g : GrR) (names : List Nm) (k : Nat) : ((List.range (k + 1)).filter (dirtyB g names)) = (List.range k).filter (dirtyB g names) ++ (if dirtyB g names k then [k] else []) := by
  rw [List.range_succ, List.filter_append]
  congr 1
  by_cases h : dirtyB g names k <;> simp [h]

set_option maxRecDepth 100000 in
set_option maxHeartbeats 4000000 in
theorem tdirty_any (g : GrR) (names : List Nm) (v nv : Value) (w : World) (hg : GrAt w v g) (hns : NamesAt w nv names) : Calls Tryz.prog 36 #[v, nv] w (IntsPost w (dirtyOf g names)) := by
  obtain ⟨oa, c, ob, d, iv, rfl, hs, ha⟩ := hg.form
  have hC1 : Chg (fun _ => False) w (w.alloc (.cells #[.slice oa g.srcs.length c, .slice ob g.acts.length d] 25)) := (Chg.refl _ w).alloc _
  have hwv := checked_any g _ _ (hg.chg hC1 (fun _ _ h => h))
  unfold CheckedPost at hwv
  by_cases hz : checkR g = 0
  · have hcan := can_iff.1 hz
    have hwv2 : Calls Tryz.prog 73 #[.agg #[.slice oa g.srcs.length c, .slice ob g.acts.length d]] (w.alloc (.cells #[.slice oa g.srcs.length c, .slice ob g.acts.length d] 25)) (fun e w' => ∃ b, e = .returned (.tuple #[.pointer (some ⟨b, 0, none⟩), .int .i64 0]) ∧ Chg (fun _ => False) (w.alloc (.cells #[.slice oa g.srcs.length c, .slice ob g.acts.length d] 25)) w' ∧ IsWeb w' b g) :=
      hwv.mono (fun e w' ⟨h1, h2⟩ => by
        rcases h2 with ⟨_, b, h3, h4⟩ | ⟨h3, _⟩
        · exact ⟨b, h3, h1, h4⟩
        · exact absurd hz h3)
    have hr : dirtyOf g names = dirtyR g names := by unfold dirtyOf; rw [if_pos hz]
    have hgb : (w.alloc (.cells #[.slice oa g.srcs.length c, .slice ob g.acts.length d] 25)).heap[w.heap.size]? = some (.cells #[.slice oa g.srcs.length c, .slice ob g.acts.length d] 25 (0, 0)) := heap_alloc_new' w _
    have hlenA := ha.len
    have hn12 := hcan.w.acts12
    have HCAN := hid hcan
    have HA := hid ha
    have HNS := hid hns
    have HG := hid hgb
    rw [hr]
    clear hs ha hg hz hr hwv hcan hns hgb
    go_enter Tryz.func36, Tryz.ntmps36
    go_wp2_with (go_at_call 73; refine hwv2.mono ?_; rintro e w2 ⟨b, rfl, hc2, hb2⟩; have HB2 := hid hb2; have HC2 := hid hc2; have k1 := cell_of (hc2.obj HG.out (fun h => h)) 1; simp at k1; clear hb2 hc2)
    have HW2 : Hid (Chg (fun _ => False) w w2) := hid (hC1.trans HC2.out (fun _ _ h => h))
    clear k1 hwv2 hC1 HC2 HG
    go_loopw [4, 20] (fun v i wr => ∃ (k : Nat) (x : Value), x = v ∧ k ≤ g.acts.length ∧ i = .int .i64 k ∧ Chg (fun _ => False) w2 wr ∧ wr.ownsRow 0 3 1 x ((List.range k).filter (dirtyB g names)).length (((List.range k).filter (dirtyB g names)).map natV) ∧ (∀ q, x.ownBlock = some q → w2.heap.size ≤ q)) (fun _ i _ => g.acts.length - (intOf i).toNat)
    case atStart => exact ⟨0, _, rfl, Nat.zero_le _, rfl, Chg.refl _ _, World.ownsRow_nil _ _ _ _, (fun q h => by cases h)⟩
    case round =>
      obtain ⟨k, v, hv, hk, rfl, hch, hown, hbl⟩ := hrel
      subst hv
      have HC := hid hch
      have HOWN := hid hown
      have HBL := hid hbl
      clear hown hbl
      by_cases hkn : k < g.acts.length
      · have hkn' : (k : Int) < g.acts.length := by omega
        obtain ⟨bb, oo, hix, hlt, e0, e1, e2, hnsk, hw1, hw2⟩ := (HA.out.chg (HW2.out.trans hch (fun _ _ h => h)) (fun _ _ h => h)).at k hkn
        obtain ⟨oi, ci, hiv⟩ := hnsk.form
        rw [hiv] at e1
        have hnmk := nameAt_lt g k hkn
        have hfl : ((List.range k).filter (dirtyB g names)).length ≤ k := by
          have := List.length_filter_le (dirtyB g names) (List.range k)
          simpa using this
        have hsn := range_snoc g names k
        have HSN := hid hsn
        have HNMK := hid hnmk
        have HKN := hid hkn
        have hA : Chg (fun _ => False) wr (wr.alloc (.cells #[.string (bs g.acts[k].name), .slice oi g.acts[k].ins.length ci, .string (bs g.acts[k].code)] 43)) := (Chg.refl _ wr).alloc _
        have kA := heap_alloc_new' wr (.cells #[.string (bs g.acts[k].name), .slice oi g.acts[k].ins.length ci, .string (bs g.acts[k].code)] 43)
        have HA1 := hid hA
        have HKA := hid kA
        clear hiv hnsk hw1 hw2 hA kA hsn hnmk hch
        generalize g.acts[k].ins.length = ni at *
        generalize bs g.acts[k].code = cd at *
        generalize ((List.range k).filter (dirtyB g names)) = fl at *
        generalize hnm : g.acts[k].name = nm at *
        have HNM := hid hnm
        clear hnm
        have HDB : Hid (∀ K : List Nm, (∀ s, s ∈ K ↔ Needs g k s) → names.any (fun s => s == nm || K.contains s) = dirtyB g names k) := by
          intro K hK
          have := hit_dirty HCAN.out names HKN.out hK
          rw [HNMK.out] at this
          exact this
        generalize dirtyB g names k = B at HSN HDB
        cases B with
        | false =>
          go_wp2_with (first | (go_at_call 74; refine (needs_any g HCAN.out.w k HKN.out _ b (HB2.out.chg (HC.out.trans HA1.out (fun _ _ h => h)) (fun _ _ h => h))).mono ?_; rintro e w3 ⟨hc3, r3, K, rfl, hr3, hs3, hnd, hlK, hmK⟩; have HC3 := hid hc3; have HS3 := hid hs3; have HMK := hid hmK; have hal : Chg (fun _ => False) w3 (w3.alloc (.cells #[.map (some r3)] 139)) := (Chg.refl _ w3).alloc _; have HAL := hid hal; have HKL := hid (heap_alloc_new' w3 (.cells #[.map (some r3)] 139)); clear hc3 hs3 hmK hnd hlK hr3 hal) | (go_at_call 57; refine (cfs_hit (some ⟨wr.heap.size, 0, none⟩) (some ⟨w3.heap.size, 0, none⟩) (fun s => s == nm || K.contains s) nv names _ (HNS.out.chg ((((HW2.out.trans HC.out (fun _ _ h => h)).trans HA1.out (fun _ _ h => h)).trans HC3.out (fun _ _ h => h)).trans HAL.out (fun _ _ h => h)) (fun _ _ h => h)) (fun s _ W hW => (hit_any s nm K W wr.heap.size w3.heap.size r3 (cell_of (hW.obj (HAL.out.obj (HC3.out.obj HKA.out (fun h => h)) (fun h => h)) (fun h => h)) 0) (cell_of (hW.obj HKL.out (fun h => h)) 0) (HS3.out.chg (HAL.out.trans hW (fun _ _ h => h)) (fun h => h))).mono (fun e w' ⟨h1, h2⟩ => ⟨h1, h2 ▸ Chg.refl _ _⟩))).mono ?_; rintro e w4 ⟨he, hc4⟩; rw [show names.any (fun s => s == nm || K.contains s) = false from HDB.out K HMK.out] at he; subst he; have hc5 := (HA1.out.trans (HC3.out.trans (HAL.out.trans hc4 (fun _ _ h => h)) (fun _ _ h => h)) (fun _ _ h => h)); have hown5 := hc5.owns HOWN.out (fun _ _ h => h); have HC5 := hid hc5; clear hc4 hc5))
          go_roundw
          case rel => exact ⟨k + 1, v, rfl, by omega, by go_num, HC.out.trans HC5.out (fun _ _ h => h), (by rw [HSN.out]; simpa using hown5), HBL.out⟩
          case measure => simp [intOf]; omega
        | true =>
          go_wp2_with (first | (go_at_call 74; refine (needs_any g HCAN.out.w k HKN.out _ b (HB2.out.chg (HC.out.trans HA1.out (fun _ _ h => h)) (fun _ _ h => h))).mono ?_; rintro e w3 ⟨hc3, r3, K, rfl, hr3, hs3, hnd, hlK, hmK⟩; have HC3 := hid hc3; have HS3 := hid hs3; have HMK := hid hmK; have hal : Chg (fun _ => False) w3 (w3.alloc (.cells #[.map (some r3)] 139)) := (Chg.refl _ w3).alloc _; have HAL := hid hal; have HKL := hid (heap_alloc_new' w3 (.cells #[.map (some r3)] 139)); clear hc3 hs3 hmK hnd hlK hr3 hal) | (go_at_call 57; refine (cfs_hit (some ⟨wr.heap.size, 0, none⟩) (some ⟨w3.heap.size, 0, none⟩) (fun s => s == nm || K.contains s) nv names _ (HNS.out.chg ((((HW2.out.trans HC.out (fun _ _ h => h)).trans HA1.out (fun _ _ h => h)).trans HC3.out (fun _ _ h => h)).trans HAL.out (fun _ _ h => h)) (fun _ _ h => h)) (fun s _ W hW => (hit_any s nm K W wr.heap.size w3.heap.size r3 (cell_of (hW.obj (HAL.out.obj (HC3.out.obj HKA.out (fun h => h)) (fun h => h)) (fun h => h)) 0) (cell_of (hW.obj HKL.out (fun h => h)) 0) (HS3.out.chg (HAL.out.trans hW (fun _ _ h => h)) (fun h => h))).mono (fun e w' ⟨h1, h2⟩ => ⟨h1, h2 ▸ Chg.refl _ _⟩))).mono ?_; rintro e w4 ⟨he, hc4⟩; rw [show names.any (fun s => s == nm || K.contains s) = true from HDB.out K HMK.out] at he; subst he; have hc5 := (HA1.out.trans (HC3.out.trans (HAL.out.trans hc4 (fun _ _ h => h)) (fun _ _ h => h)) (fun _ _ h => h)); have hown5 := hc5.owns HOWN.out (fun _ _ h => h); have HC5 := hid hc5; clear hc4 hc5) | (refine wpList_append_new rfl _ _ 75 rfl elInt hown5 rfl _ 1 1 rfl rfl rfl (by unfold maxLen; omega) (by omega) (by decide) ?_; intro g6 cap6 w6 hown6 hch6 hg6))
          go_roundw
          case rel =>
            refine ⟨k + 1, _, rfl, by omega, by go_num, (HC.out.trans HC5.out (fun _ _ h => h)).trans hch6 (fun q hq h => absurd (HBL.out q h) (by omega)), ?_, fun q hq => ?_⟩
            · rw [HSN.out]
              simpa using hown6
            · simp [Value.ownBlock] at hq
              subst hq
              rcases hg6 with h | h
              · exact HBL.out _ h
              · have := HC.out.size; have := HC5.out.size; omega
          case measure => simp [intOf]; omega
      · obtain rfl : k = g.acts.length := by omega
        go_wp2_with fail
        go_ret
        exact ⟨HW2.out.trans HC.out (fun _ _ h => h), v, rfl, HOWN.out⟩
  · have hr : dirtyOf g names = [] := by unfold dirtyOf; rw [if_neg hz]
    have hwv2 : Calls Tryz.prog 73 #[.agg #[.slice oa g.srcs.length c, .slice ob g.acts.length d]] (w.alloc (.cells #[.slice oa g.srcs.length c, .slice ob g.acts.length d] 25)) (Rets (.tuple #[.pointer none, .int .i64 (checkR g)]) (Chg (fun _ => False) (w.alloc (.cells #[.slice oa g.srcs.length c, .slice ob g.acts.length d] 25)))) :=
      hwv.mono (fun e w' ⟨h1, h2⟩ => by
        rcases h2 with ⟨h3, _⟩ | ⟨_, h3⟩
        · exact absurd h3 hz
        · exact ⟨h3, h1⟩)
    have hne : ((checkR g : Int) == 0) = false := by simp; omega
    have hne2 : ¬ (checkR g : Int) = 0 := by omega
    rw [hr]
    clear hz hr hwv hs ha hg hns
    generalize checkR g = n at *
    go_enter Tryz.func36, Tryz.ntmps36
    go_wp2_with (go_at_call 73; refine hwv2.mono ?_; rintro e w2 ⟨rfl, hc2⟩)
    go_ret
    exact ⟨hC1.trans hc2 (fun _ _ h => h), _, rfl, World.ownsRow_nil _ _ _ _⟩
end Go.Proofs.YthglfmacjoecgaaGreatDoor
