/- Texts of the proof, one behind the other: (*oven.kitchen).make walked. -/
import Derived.Test.YthglfmacjoecgaaGreatDoorMx10
import Derived.Test.YthglfmacjoecgaaGreatDoorMx06
namespace Go.Proofs.YthglfmacjoecgaaGreatDoor
open Go.RowKit

/-- An action more of the order. -/
theorem order_split {g : GrR} {k : Nat} (hk : k < (orderR g).length) : orderR g = (orderR g).take k ++ (orderR g)[k] :: (orderR g).drop (k + 1) := by
  have h := (List.take_append_drop k (orderR g)).symm
  rw [List.drop_eq_getElem_cons hk] at h
  exact h
theorem foldT_take {g : GrR} (srcs : List SrcR) {k : Nat} (hk : k < (orderR g).length) : foldT FF g srcs ((orderR g).take (k + 1)) = lput (nameAt g (orderR g)[k]) (FF (codeAt g (orderR g)[k]) (insT2 g (foldT FF g srcs ((orderR g).take k)) (orderR g)[k])) (foldT FF g srcs ((orderR g).take k)) := by
  rw [List.take_succ_eq_append_getElem hk, foldT_snoc]
  rfl
theorem order_new {g : GrR} {k : Nat} (hk : k < (orderR g).length) : (orderR g)[k] ∉ (orderR g).take k := by
  intro h
  obtain ⟨j, hj, e⟩ := List.mem_iff_getElem.1 h
  simp only [List.length_take] at hj
  rw [List.getElem_take] at e
  have := (List.getElem_inj (orderR_ordd g).nd).1 e
  omega
theorem keysT_put {g : GrR} (hw : Wov g) (srcs : List SrcR) {k : Nat} (hk : k < (orderR g).length) (n : Nat) {K : Nat → UInt8}
    (hK : (if (FF (codeAt g (orderR g)[k]) (insT2 g (foldT FF g srcs ((orderR g).take k)) (orderR g)[k])).1 = 34 then (fun _ => 0) else keyF (bs (codeAt g (orderR g)[k])) (insT2 g (foldT FF g srcs ((orderR g).take k)) (orderR g)[k])) = K) :
    rowB n (keysF fun j => if j = (orderR g)[k] then K else keysT g (madeS g srcs) ((orderR g).take k) j) = rowB n (keysF (keysT g (madeS g srcs) ((orderR g).take (k + 1)))) := by
  refine rowB_congr (fun q _ => ?_)
  unfold keysF
  have hi := ins_then hw srcs (order_split hk)
  have hkk : keyK g (madeS g srcs) (orderR g)[k] = K := by
    unfold keyK madeS
    rw [hi]
    exact hK
  unfold keysT
  rw [List.take_succ_eq_append_getElem hk]
  simp only [List.mem_append, List.mem_singleton]
  by_cases e : q / 32 = (orderR g)[k]
  · rw [if_pos e, if_pos (.inr e), e, hkk]
  · rw [if_neg e]
    simp only [e, or_false]
theorem keysT_none {g : GrR} (srcs : List SrcR) {k : Nat} (hk : k < (orderR g).length) (n : Nat) : rowB n (keysF (keysT g (madeS g srcs) ((orderR g).take k))) = rowB n (keysF fun j => if j = (orderR g)[k] then (fun _ => 0) else keysT g (madeS g srcs) ((orderR g).take k) j) := by
  refine rowB_congr (fun q _ => ?_)
  unfold keysF
  simp only
  split
  · rename_i e
    rw [e]
    unfold keysT
    rw [if_neg (order_new hk)]
  · rfl
theorem keysT_all {g : GrR} (hc : Can g) (srcs : List SrcR) : rowB (g.acts.length * 32) (keysF (keysT g (madeS g srcs) (orderR g))) = rowB (g.acts.length * 32) (keysF (keyS g srcs)) := by
  refine rowB_congr (fun q hq => ?_)
  unfold keysF keysT keyS
  rw [if_pos ((orderR_ordd g).full hc.full _ (by omega))]
theorem act_small {g : GrR} (hw : Wov g) {i : Nat} (hi : i < g.acts.length) : g.acts[i].ins.length ≤ 4 ∧ g.acts[i].code.length ≤ 64 := by
  have h := (actOK_iff _).1 (((grOK_iff g).1 hw.ok).2.2.2 g.acts[i] (List.getElem_mem hi))
  exact ⟨h.2.2.1, h.2.2.2⟩

section
variable {P : Program} {w : World} {o : Oper} {a : Act} {K : Act → World → Prop} {Q : Exit → Act → World → Prop}
theorem wp_storeO (t : TypeId) (x y : Operand) (hop : o.op = Op.store t x y) (b off : Nat) (T : TypeId) (c zc c' : Array Value) (hx : a.eval x = .pointer (some ⟨b, off, none⟩)) (hy : a.eval y = .agg zc)
    (hb : w.heap[b]? = some (.cells c T (0, 0))) (hs : ∀ w, (sizeOf t).run P w = .ok zc.size w) (hc : off + zc.size ≤ c.size) (h1 : zc.toList.all Value.oneCell' = true) (hc' : (c.toList.take off ++ zc.toList ++ c.toList.drop (off + zc.size)).toArray = c')
    (h : ∀ w', w'.heap[b]? = some (.cells c' T (0, 0)) → w'.heap.size = w.heap.size → Chg (fun k => k = b) w w' → K (a.put o.dst undef) w') : Oper.wp P o a w K Q := by
  have hst := run_storeCells_at P b off T zc.toList 0 c w hb (by simp; omega) (fun v hv => List.all_eq_true.1 h1 v hv)
  have e : (c.toList.take (off + 0) ++ zc.toList ++ c.toList.drop (off + 0 + zc.toList.length)).toArray = c' := by
    rw [← hc']; simp
  rw [e] at hst
  have hrun : (Instr.storeAt t (.pointer (some ⟨b, off, none⟩)) (.agg zc)).run P w = .ok () (w.setRow b c') := by
    simp [Instr.storeAt, Instr.sureAddr, storeVar, hs, Value.cells, hst]
  unfold Oper.wp
  simp only [execOp, hop, Sem.run_bind, hx, hy, hrun, Result.andThen, Sem.run_pure, Oper.upon]
  exact h _ (setRow_heap w b c c' T _ hb) (by simp [World.setRow]) ((Chg.refl (fun k => k = b) w).setRow (fun _ => rfl) _)
theorem yieldsIf_index {ops : Array Oper} {S : World → Prop} (hw : Region.wanted o (yielded ops a.tmps) = true) (t : TypeId) (x y : Operand) (hop : o.op = Op.indexAddr t x y) (vx vy v : Value) (hx : a.eval x = vx) (hy : a.eval y = vy)
    (hr : ∀ w, (Instr.indexAt t vx vy).run P w = .ok v w) : YieldsIf P ops S o v a :=
  .inl ⟨hw, fun w _ => by
    unfold execOp
    simp only [hop, hx, hy, hr, Sem.run_bind, Sem.run_pure, Result.andThen_ok]⟩
end
theorem index_dig (kb n i : Nat) (h : i < n) (w : World) : (Instr.indexAt 34 (.slice (some ⟨kb, 0, none⟩) n n) (.int .i64 i)).run Tryz.prog w = .ok (.pointer (some ⟨kb, i * 32, none⟩)) w := by
  have hs : ∀ w, (sizeOf 57).run Tryz.prog w = .ok 32 w := size37
  have e : (⟨kb, 0, none⟩ : Addr).add (i * 32) = ⟨kb, i * 32, none⟩ := by unfold Addr.add; split <;> simp_all
  simp [Instr.indexAt, run_underlying Tryz.underlying34, asIntOf, hs, h, e]
/-- What make leaves. -/
def KMade (w : World) (b r kb : Nat) (g : GrR) (srcs : List SrcR) (sv av : Value) (iv : Nat → Value) (w' : World) : Prop :=
  Chg (fun k => k = r ∨ k = kb) w w' ∧ IsKit w' b r kb g sv av iv (madeS g srcs) (keyS g srcs)
set_option maxRecDepth 100000 in
set_option maxHeartbeats 4000000 in
theorem kmake_any {B : Nat} (g : GrR) (srcs : List SrcR) (hD : Done g srcs) (w : World) (b r kb : Nat) (sv av : Value) (iv : Nat → Value) (hk : IsKit w b r kb g sv av iv (srcT srcs) zeroK) (hn1 : r ≠ kb) (hn2 : b ≠ r) (hn3 : b ≠ kb)
    (hT : TabsOK B w) (hBr : B ≤ r) (hBk : B ≤ kb) (hsa : ∀ W, Chg (fun k => k = r ∨ k = kb) w W → NamesAt W sv g.srcs ∧ ActsAt W av g.acts iv) :
    Calls Tryz.prog 54 #[.pointer (some ⟨b, 0, none⟩)] w (Rets (.tuple #[]) (KMade w b r kb g srcs sv av iv)) := by
  have hord := torder_any g (.agg #[sv, av]) w ⟨sv, av, iv, rfl, hk.srcs, hk.acts⟩
  have eo : ordR g = orderR g := by unfold ordR; rw [if_pos (can_iff.2 hD.can)]
  rw [eo] at hord
  have b0 := cell_of hk.blk 0
  have b1 := cell_of hk.blk 1
  simp at b0 b1
  have hwov := hD.can.w
  have hlt := heap_lt hk.map.choose_spec.choose_spec.1
  have hltk := heap_lt hk.keys
  have hle := (orderR_ordd g).le
  have h12 := hwov.acts12
  have HD := hid hD
  have HK := hid hk
  have HN := hid (And.intro hn1 (And.intro hn2 hn3))
  have HT := hid hT
  have HB := hid (And.intro hBr hBk)
  have HSA := hid hsa
  have HLT := hid (And.intro hlt hltk)
  have HW := hid hwov
  clear hD hk hn1 hn2 hn3 hT hBr hBk hsa hlt hltk eo hwov
  unfold IntsPost at hord
  go_enter Tryz.func54, Tryz.ntmps54
  go_wp2_with (go_at_call 78; refine hord.mono ?_; rintro e w2 ⟨hc2, v2, rfl, hown2⟩; have HI := hid hown2; have HC2 := hid hc2; clear hc2; have hlen2 := (IntsAt.of_owns hown2).len; clear hown2)
  clear hord b0 b1
  have hfar : ∀ W, Chg (fun k => k = r ∨ k = kb) w2 W → Chg (fun k => k = r ∨ k = kb) w W := fun W hW => (HC2.out.mono (fun _ _ h => h.elim)).trans hW (fun _ _ h => h)
  have hbc : ∀ W, Chg (fun k => k = r ∨ k = kb) w2 W → W.cell? ⟨b, 1, none⟩ = some av ∧ W.cell? ⟨b, 2, none⟩ = some (.map (some r)) ∧ W.cell? ⟨b, 3, none⟩ = some (.slice (some ⟨kb, 0, none⟩) g.acts.length g.acts.length) := fun W hW => by
    have h := (hfar W hW).obj HK.out.blk (fun e => e.elim HN.out.2.1 HN.out.2.2)
    exact ⟨cell_of h 1, cell_of h 2, cell_of h 3⟩
  have hia : ∀ W, Chg (fun k => k = r ∨ k = kb) w2 W → IntsAt W v2 (orderR g) := fun W hW => IntsAt.of_owns (hW.owns HI.out (fun q hq e => by
    rcases HI.out.2 with ⟨h1, _⟩ | ⟨q2, cap, cur, h1, _, hg, _⟩
    · rw [h1] at hq; cases hq
    · rw [h1] at hq
      obtain rfl := own_eq hq
      rcases e with e | e
      · obtain ⟨es, ck, hm, _⟩ := HK.out.map.chg HC2.out (fun h => h)
        rw [e, hm] at hg
        cases hg
      · rw [e, HC2.out.obj HK.out.keys (fun h => h)] at hg
        simp at hg))
  have hk2 : w2.heap[kb]? = some (.cells (rowB (g.acts.length * 32) (keysF (keysT g (madeS g srcs) ((orderR g).take 0)))) 57 (0, 0)) := by
    have : rowB (g.acts.length * 32) (keysF (keysT g (madeS g srcs) ((orderR g).take 0))) = rowB (g.acts.length * 32) (keysF zeroK) := rowB_congr (fun q _ => by unfold keysF keysT zeroK; simp)
    rw [this]
    exact HC2.out.obj HK.out.keys (fun h => h)
  have hm2 : MapL w2 r nmV resW (foldT FF g srcs ((orderR g).take 0)) := HK.out.map.chg HC2.out (fun h => h)
  have HF := hid hfar
  have HBC := hid hbc
  have HIA := hid hia
  have HK2 := hid hk2
  have HM2 := hid hm2
  have HT2 := hid (HT.out.keep HC2.out)
  have HLT2 : Hid (r < w2.heap.size ∧ kb < w2.heap.size) := hid (by have := HC2.out.size; have := HLT.out; omega)
  clear hfar hbc hia hk2 hm2 HI
  go_loopw [15] (fun i wr => ∃ k : Nat, k ≤ (orderR g).length ∧ i = .int .i64 k ∧ Chg (fun k => k = r ∨ k = kb) w2 wr ∧ MapL wr r nmV resW (foldT FF g srcs ((orderR g).take k)) ∧ wr.heap[kb]? = some (.cells (rowB (g.acts.length * 32) (keysF (keysT g (madeS g srcs) ((orderR g).take k)))) 57 (0, 0))) (fun i _ => (orderR g).length - (intOf i).toNat)
  case atStart => exact ⟨0, Nat.zero_le _, rfl, Chg.refl _ _, HM2.out, HK2.out⟩
  case round =>
    obtain ⟨k, hk, rfl, hch, hm, hkb⟩ := hrel
    have HC := hid hch
    have HM := hid hm
    have HKB := hid hkb
    clear hch hm hkb
    by_cases hkn : k < (orderR g).length
    · have hkn' : (k : Int) < (orderR g).length := by omega
      obtain ⟨bb0, oo0, hix0, hcell0, hlt0⟩ := (HIA.out wr HC.out).ix k hkn
      have q1 := (HBC.out wr HC.out).1
      have hin := (orderR_ordd g).lt _ (List.getElem_mem hkn)
      have HPT := hid (foldT_take srcs hkn)
      have HKP := hid (fun n K => keysT_put HW.out srcs hkn n (K := K))
      have HKZ := hid (fun n => keysT_none srcs hkn n)
      have HSM := hid (foldT_small g srcs HD.out.wide HD.out.fit.nd _ ((orderR g).take k) rfl)
      generalize foldT FF g srcs ((orderR g).take k) = t at *
      generalize (orderR g)[k] = i at *
      have hsm := act_small HW.out hin
      have HSMA := hid hsm
      obtain ⟨bb, oo, hix, hlt, e0, e1, e2, hns, hw1, hw2⟩ := ((HSA.out wr (HF.out _ HC.out)).2).at i hin
      obtain ⟨oi, ci, hiv⟩ := hns.form
      rw [hiv] at e1 hns
      have hin' : (i : Int) < g.acts.length := by omega
      have HNA : Hid (nameAt g i = g.acts[i].name) := nameAt_lt g i hin
      have HIN : Hid (insT2 g t i = g.acts[i].ins.map (valT t)) := hid (by unfold insT2; rw [insAt_lt g i hin])
      have HCD : Hid (codeAt g i = g.acts[i].code) := codeAt_lt g i hin
      generalize hnm : g.acts[i].name = nm at *
      generalize hcd : g.acts[i].code = cd at *
      generalize hins : g.acts[i].ins = ins at *
      have hch5 := HC.out.alloc (.cells #[.string (bs nm), .slice oi ins.length ci, .string (bs cd)] 43)
      have hm5 : MapL (wr.alloc (.cells #[.string (bs nm), .slice oi ins.length ci, .string (bs cd)] 43)) r nmV resW t := HM.out.al _
      have k5 := heap_alloc_new' wr (.cells #[.string (bs nm), .slice oi ins.length ci, .string (bs cd)] 43)
      have kb5 := heap_alloc_old' HKB.out (.cells #[.string (bs nm), .slice oi ins.length ci, .string (bs cd)] 43)
      have hns5 := hns.chg ((Chg.refl (fun _ => False) wr).alloc (.cells #[.string (bs nm), .slice oi ins.length ci, .string (bs cd)] 43)) (fun _ _ h => h)
      have hs5 : (wr.alloc (.cells #[.string (bs nm), .slice oi ins.length ci, .string (bs cd)] 43)).heap.size = wr.heap.size + 1 := by simp
      have hlts : r < wr.heap.size ∧ kb < wr.heap.size := by have := HC.out.size; have := HLT2.out; omega
      have HC5 := hid hch5
      have HM5 := hid hm5
      have HK5 := hid k5
      have HKB5 := hid kb5
      have HNS5 := hid hns5
      have HS5 := hid hs5
      have HLTS := hid hlts
      clear hiv hns hw1 hw2 hch5 hm5 k5 kb5 hns5 hs5 hlts hnm hcd hins hsm
      go_wp2_with fail
      generalize wr.alloc (.cells #[.string (bs nm), .slice oi ins.length ci, .string (bs cd)] 43) = W5 at *
      clear hix hix0 hcell0 e0 e1 e2 q1
      obtain ⟨ba, hba⟩ : ∃ ba, ba = wr.heap.size := ⟨_, rfl⟩
      rw [← hba] at HK5 HS5 HLTS ⊢
      clear hba
      have q2 := (HBC.out W5 HC5.out).2.1
      go_loopw [5, 30] (fun v5 i5 wx => ∃ (q : Nat) (x : Value), x = v5 ∧ q ≤ ins.length ∧ i5 = .int .i64 q ∧ wx.ownsRow 0 47 2 x q (((ins.take q).map (valT t)).flatMap resL) ∧ (∀ z, x.ownBlock = some z → ba + 1 ≤ z) ∧ Chg (fun _ => False) W5 wx) (fun _ i5 _ => ins.length - (intOf i5).toNat)
      case atStart => exact ⟨0, _, rfl, Nat.zero_le _, rfl, World.ownsRow_nil _ _ _ _, (fun z h => by cases h), Chg.refl _ _⟩
      case round =>
        obtain ⟨q, x5, hx5, hq, rfl, hown, hbl, hcx⟩ := hrel
        subst hx5
        have HOWN := hid hown
        have HBL := hid hbl
        have HCX := hid hcx
        have HC6 := hid (HC5.out.trans hcx (fun _ _ h => h.elim))
        have HMX := hid (HM5.out.chg hcx (fun h => h))
        have HKX := hid (hcx.obj HK5.out (fun h => h))
        clear hown hbl hcx
        have HSZ : Hid (ba + 1 ≤ wr.heap.size) := hid (by have := HCX.out.size; have := HS5.out; omega)
        have hi4 : ins.length ≤ 4 := HSMA.out.1
        by_cases hqn : q < ins.length
        · have hqn' : (q : Int) < ins.length := by omega
          obtain ⟨ad3, hix3, hadc3, hadb3⟩ := (HNS5.out.chg HCX.out (fun _ _ h => h)).ix q hqn
          have q3 := (HBC.out wr HC6.out).2.1
          have HTK : Hid (((ins.take (q + 1)).map (valT t)).flatMap resL = ((ins.take q).map (valT t)).flatMap resL ++ resL (valT t ins[q])) := hid (by
            rw [List.take_succ_eq_append_getElem hqn, List.map_append, List.flatMap_append]
            simp)
          generalize hs3 : ins[q] = s3 at *
          have HVT := hid (valT_getD t s3)
          obtain ⟨rc, hrc⟩ : ∃ rc, rc = (valT t s3).1 := ⟨_, rfl⟩
          obtain ⟨rb, hrb⟩ : ∃ rb, rb = (valT t s3).2 := ⟨_, rfl⟩
          have HVV : Hid (resW (valT t s3) = .agg #[.int .i64 rc, .string rb]) := hid (by unfold resW; rw [hrc, hrb])
          have HVL : Hid (resL (valT t s3) = [.int .i64 rc, .string rb]) := hid (by unfold resL; rw [hrc, hrb])
          clear hs3 hrc hrb
          go_wp2_with (first | (guard_target =~ wpList _ _ _ (Oper.mk (some 40) _ _ _ _ _ :: _) _ _; refine wpList_lookup_v rfl _ _ 110 rfl keyNm Tryz.underlying110 (zeroR _) HMX.out rfl s3 rfl _ (HVT.out.trans HVV.out) ?_) | (guard_target =~ wpList _ _ _ (Oper.mk (some 42) _ _ _ _ _ :: _) _ _; refine wpList_append_new rfl _ _ 58 rfl elRes HOWN.out rfl #[.int .i64 rc, .string rb] 1 1 rfl rfl rfl (by unfold maxLen; have := HSMA.out; omega) (by have := HSMA.out; omega) (by decide) ?_; intro g6 cap6 w6 hown6 hch6 hg6))
          go_roundw
          case rel =>
            refine ⟨q + 1, _, rfl, by omega, by go_num, ?_, fun z hz => ?_, HCX.out.trans hch6 (fun z hz h => absurd (HBL.out z h) (by have := HS5.out; omega))⟩
            · rw [HTK.out, HVL.out]
              exact hown6
            · obtain rfl := own_eq hz
              rcases hg6 with h | h
              · exact HBL.out _ h
              · have := HSZ.out; omega
          case measure => simp [intOf]; omega
        · obtain rfl : q = ins.length := by omega
          have hown2 := HOWN.out
          rw [List.take_length] at hown2
          have hin2F : ∀ W, Chg (fun z => z = r ∨ z = kb) wr W → ResAt W x5 (insT2 g t i) := fun W hW => ResAt.of_owns (n := ins.length) (by rw [HIN.out]; simp) (by rw [HIN.out]; exact hW.owns hown2 (fun z hz e => by have := HBL.out z hz; have := HLTS.out; rcases e with e | e <;> omega)) (by rw [HIN.out]; have := HSMA.out; simp; omega) (fun r hr => by
            rw [HIN.out] at hr
            obtain ⟨s, _, rfl⟩ := List.mem_map.1 hr
            have := (HSM.out s).wide
            omega)
          have hin2 := hin2F wr (Chg.refl _ _)
          have hTx : TabsOK B wr := HT2.out.chg (HC6.out.mono (fun z _ h => by
            have := HB.out
            rcases h with h | h <;> omega))
          have hBx : B ≤ wr.heap.size := by have := HB.out; have := HLTS.out; have := HSZ.out; omega
          have hn32 : (insT2 g t i).length ≤ 32 := by rw [HIN.out]; have := HSMA.out; simp; omega
          have hwd : ∀ r ∈ insT2 g t i, r.2.size ≤ 100000 := fun r hr => by
            rw [HIN.out] at hr
            obtain ⟨s, _, rfl⟩ := List.mem_map.1 hr
            have := (HSM.out s).wide
            omega
          have hcs : (bs cd).size ≤ 1000 := by rw [bs_size]; have := HSMA.out; omega
          have hmk := make_any (bs cd) hcs (insT2 g t i) hn32 hwd x5 wr hin2 hTx hBx
          have hCodes : Codes (insT2 g t i) := fun r hr => by
            rw [HIN.out] at hr
            obtain ⟨s, _, rfl⟩ := List.mem_map.1 hr
            have h1 := (HSM.out s).lo
            have h2 := (HSM.out s).hi
            omega
          have HKEY := hid (fun W (hW : Chg (fun k => k = r ∨ k = kb) wr W) => key_any (bs cd) hcs (insT2 g t i) hn32 hwd hCodes x5 W (hin2F W hW) (hTx.chg (hW.mono (fun z _ h => by have := HB.out; rcases h with h | h <;> omega))) (Nat.le_trans hBx hW.size))
          clear hin2F
          rw [HCD.out] at HPT HKP
          rw [HNA.out] at HPT
          have eF : FF cd (insT2 g t i) = makeF (bs cd) (insT2 g t i) := rfl
          rw [eF] at HPT HKP
          generalize insT2 g t i = rs at *
          obtain ⟨mc, hmc⟩ : ∃ mc, mc = (makeF (bs cd) rs).1 := ⟨_, rfl⟩
          obtain ⟨mb, hmb⟩ : ∃ mb, mb = (makeF (bs cd) rs).2 := ⟨_, rfl⟩
          have hmv : resW (makeF (bs cd) rs) = .agg #[.int .i64 mc, .string mb] := by unfold resW; rw [hmc, hmb]
          have hmp : makeF (bs cd) rs = (mc, mb) := by rw [hmc, hmb]
          rw [hmv] at hmk
          rw [hmp] at HPT HKP
          have x2 := cell_of HKX.out 2
          simp at x2
          clear eF hmv hmp hmc hmb hown2 hin2 hTx hBx hn32 hwd hcs hCodes
          go_wp2_with (go_at_call 30; refine hmk.mono ?_; rintro e w6 ⟨rfl, hc6⟩)
          have hW7 : Chg (fun k => k = r ∨ k = kb) w2 (w6.alloc (.cells #[.int .i64 mc, .string mb] 47)) := (HC6.out.trans hc6 (fun _ _ h => h.elim)).alloc _
          have hx67 : Chg (fun _ => False) wr (w6.alloc (.cells #[.int .i64 mc, .string mb] 47)) := hc6.alloc _
          have hk7 := heap_alloc_new' w6 (.cells #[.int .i64 mc, .string mb] 47)
          have hb8 : wr.heap.size ≤ w6.heap.size := hc6.size
          generalize w6.alloc (.cells #[.int .i64 mc, .string mb] 47) = W7 at *
          obtain ⟨b8, hb8e⟩ : ∃ b8, b8 = w6.heap.size := ⟨_, rfl⟩
          rw [← hb8e] at hk7 hb8 ⊢
          clear hb8e hmk hc6 x2
          have HW7 := hid hW7
          have HX67 := hid hx67
          have HM7 := hid (HMX.out.chg hx67 (fun h => h))
          have HA7 := hid (hx67.obj HKX.out (fun h => h))
          have HR7 := hid hk7
          have q7 := (HBC.out W7 hW7).2.1
          have a0 := cell_of HA7.out 0
          simp at a0
          have r0 := cell_of hk7 0
          have r1 := cell_of hk7 1
          simp at r0 r1
          clear hW7 hx67 hk7
          go_still_tail 8, (by kernel_rfl)
          change wpList _ _ _ _ _ W7.drew
          refine wpList_mapUpdate_l rfl _ _ _ 110 rfl keyNm Tryz.underlying110 (show MapL W7.drew r nmV resW _ from HM7.out) rfl nm rfl (mc, mb) rfl ?_
          intro w8 hm8 hc8
          have HM8 := hid (show MapL w8 r nmV resW (foldT FF g srcs ((orderR g).take (k + 1))) by rw [HPT.out]; exact hm8)
          have hc78 : Chg (fun z => z = r) W7 w8 := ((Chg.refl (fun z => z = r) W7).drew).trans hc8 (fun _ _ h => h)
          have HC78 := hid hc78
          have hC8 : Chg (fun k => k = r ∨ k = kb) w2 w8 := HW7.out.trans (hc78.mono (fun _ _ h => .inl h)) (fun _ _ h => h)
          have HC8 := hid hC8
          have hne8 : ¬ b8 = r := by have := HLTS.out; have := HSZ.out; omega
          have hnea : ¬ ba = r := by have := HLTS.out; omega
          have hr8 := hc78.obj HR7.out hne8
          have ha8 := hc78.obj HA7.out hnea
          have hkb8 : w8.heap[kb]? = some (.cells (rowB (g.acts.length * 32) (keysF (keysT g (madeS g srcs) ((orderR g).take k)))) 57 (0, 0)) := hc78.obj (HX67.out.obj (HCX.out.obj HKB5.out (fun h => h)) (fun h => h)) (fun e => HN.out.1 e.symm)
          have HKB8 := hid hkb8
          have HA8 := hid ha8
          have r8 := cell_of hr8 0
          simp at r8
          clear hm8 hc8 hc78 hC8 hr8 ha8 hkb8 a0 r0 r1 q7
          by_cases h34 : mc = 34
          · subst h34
            go_wp2_with fail
            go_roundw
            case rel =>
              refine ⟨k + 1, by omega, by go_num, HC8.out, HM8.out, ?_⟩
              rw [← HKP.out (g.acts.length * 32) (fun _ => 0) (by rw [if_pos rfl]), ← HKZ.out]
              exact HKB8.out
            case measure => simp [intOf]; omega
          · have h34' : (mc == 34) = false := by rw [beq_eq_false_iff_ne]; exact h34
            go_wp2_with fail
            have hS : ∀ W, Chg (fun z => z = kb) w8 W → W.cell? ⟨b, 3, none⟩ = some (.slice (some ⟨kb, 0, none⟩) g.acts.length g.acts.length) ∧ W.cell? ⟨ba, 2, none⟩ = some (.string (bs cd)) := fun W hW => by
              refine ⟨(HBC.out W (HC8.out.trans (hW.mono (fun _ _ h => .inr h)) (fun _ _ h => h))).2.2, ?_⟩
              have := cell_of (hW.obj HA8.out (by have := HLTS.out; omega)) 2
              simpa using this
            have hchK : Chg (fun z => z = r ∨ z = kb) wr w8.drew := ((HX67.out.mono (G := fun z => z = r ∨ z = kb) (fun _ _ h => h.elim)).trans (HC78.out.mono (G := fun z => z = r ∨ z = kb) (fun _ _ h => .inl h)) (fun _ _ h => h)).drew
            have hkey := HKEY.out w8.drew hchK
            have hidx := index_dig kb g.acts.length i hin
            refine wp_region_held_drew (S := fun W => Chg (fun z => z = kb) w8 W) (by kernel_rfl) ((Chg.refl _ w8).drew) (fun hd => ?_)
            refine wpAnyH_take (i := 0) (v := .pointer (some ⟨b, 0, none⟩)) rfl (by kernel_rfl) (by kernel_rfl) (by kernel_rfl) (fun _ _ _ h => h) (.inl ⟨by kernel_rfl, fun W _ => by kernel_rfl⟩) hd ?_
            simp only [Act.put, List.setIfInBounds_toArray, List.set_cons_zero, List.set_cons_succ, List.getElem_toArray, List.getElem_cons_zero]
            refine wpAnyH_take (i := 1) (v := .pointer (some ⟨b, 0, none⟩)) rfl (by kernel_rfl) (by kernel_rfl) (by kernel_rfl) (fun _ _ _ h => h) (.inl ⟨by kernel_rfl, fun W _ => by kernel_rfl⟩) hd ?_
            simp only [Act.put, List.setIfInBounds_toArray, List.set_cons_zero, List.set_cons_succ, List.getElem_toArray, List.getElem_cons_zero, List.getElem_cons_succ]
            refine wpAnyH_take (i := 2) (v := .pointer (some ⟨b, 3, none⟩)) rfl (by kernel_rfl) (by kernel_rfl) (by kernel_rfl) (fun _ _ _ h => h) (.inl ⟨by kernel_rfl, fun W _ => by kernel_rfl⟩) hd ?_
            simp only [Act.put, List.setIfInBounds_toArray, List.set_cons_zero, List.set_cons_succ, List.getElem_toArray, List.getElem_cons_zero, List.getElem_cons_succ]
            refine wpAnyH_take (i := 3) (v := .slice (some ⟨kb, 0, none⟩) g.acts.length g.acts.length) rfl (by kernel_rfl) (by kernel_rfl) (by kernel_rfl) (fun _ _ _ h => h) (.inl ⟨by kernel_rfl, fun W hW => by have e := (hS W hW).1; simp [execOp, Instr.loadAt, Instr.sureAddr, go_sem, e]⟩) hd ?_
            simp only [Act.put, List.setIfInBounds_toArray, List.set_cons_zero, List.set_cons_succ, List.getElem_toArray, List.getElem_cons_zero, List.getElem_cons_succ]
            refine wpAnyH_take (i := 4) (v := .int .i64 i) rfl (by kernel_rfl) (by kernel_rfl) (by kernel_rfl) (fun _ _ _ h => h) (.inl ⟨by kernel_rfl, fun W _ => by kernel_rfl⟩) hd ?_
            simp only [Act.put, List.setIfInBounds_toArray, List.set_cons_zero, List.set_cons_succ, List.getElem_toArray, List.getElem_cons_zero, List.getElem_cons_succ]
            refine wpAnyH_take (i := 5) (v := .pointer (some ⟨ba, 2, none⟩)) rfl (by kernel_rfl) (by kernel_rfl) (by kernel_rfl) (fun _ _ _ h => h) (.inl ⟨by kernel_rfl, fun W _ => by kernel_rfl⟩) hd ?_
            simp only [Act.put, List.setIfInBounds_toArray, List.set_cons_zero, List.set_cons_succ, List.getElem_toArray, List.getElem_cons_zero, List.getElem_cons_succ]
            refine wpAnyH_take (i := 6) (v := .string (bs cd)) rfl (by kernel_rfl) (by kernel_rfl) (by kernel_rfl) (fun _ _ _ h => h) (.inl ⟨by kernel_rfl, fun W hW => by have e := (hS W hW).2; simp [execOp, Instr.loadAt, Instr.sureAddr, go_sem, e]⟩) hd ?_
            simp only [Act.put, List.setIfInBounds_toArray, List.set_cons_zero, List.set_cons_succ, List.getElem_toArray, List.getElem_cons_zero, List.getElem_cons_succ]
            refine wpAnyH_take (i := 7) (v := x5) rfl (by kernel_rfl) (by kernel_rfl) (by kernel_rfl) (fun _ _ _ h => h) (.inl ⟨by kernel_rfl, fun W _ => by kernel_rfl⟩) hd ?_
            simp only [Act.put, List.setIfInBounds_toArray, List.set_cons_zero, List.set_cons_succ, List.getElem_toArray, List.getElem_cons_zero, List.getElem_cons_succ]
            refine wpAnyH_all (rs := [8]) (by kernel_rfl) (by simp) (fun j hj => ?_)
            obtain rfl : j = 8 := by simpa using hj
            refine wpOp_step rfl (fun K1 hK1 => ?_)
            refine Eq.mpr (if_pos (by kernel_rfl)) ?_
            go_wp2_with (go_at_call 29; refine hkey.mono ?_; rintro e w9 ⟨rfl, hc9⟩)
            have hd9 : Chg (fun z => z = kb) w8 w9 := hd.trans hc9 (fun _ _ h => h.elim)
            refine ⟨hd9, ?_⟩
            refine wpAnyH_take (i := 9) (v := .pointer (some ⟨kb, i * 32, none⟩)) rfl (by kernel_rfl) (by kernel_rfl) (by kernel_rfl) (fun _ _ _ h => h) (yieldsIf_index (by kernel_rfl) 34 (.tmp 62) (.tmp 63) rfl _ _ _ rfl rfl hidx) hd9 ?_
            simp only [Act.put, List.setIfInBounds_toArray, List.set_cons_zero, List.set_cons_succ, List.getElem_toArray, List.getElem_cons_zero, List.getElem_cons_succ]
            refine wpAnyH_all (rs := [10]) (by kernel_rfl) (by simp) (fun j hj => ?_)
            obtain rfl : j = 10 := by simpa using hj
            refine wpOp_step rfl (fun K2 hK2 => ?_)
            refine Eq.mpr (if_pos (by kernel_rfl)) ?_
            have hkb9 : w9.heap[kb]? = some (.cells (rowB (g.acts.length * 32) (keysF (keysT g (madeS g srcs) ((orderR g).take k)))) 57 (0, 0)) := hc9.obj HKB8.out (fun h => h)
            refine wp_storeO 57 (.tmp 68) (.tmp 67) rfl kb (i * 32) 57 _ (rowB 32 (keyF (bs cd) rs)) _ rfl rfl hkb9 (fun w => by rw [rowB_size]; exact size37 w) (by rw [rowB_size, rowB_size]; have : (i + 1) * 32 ≤ g.acts.length * 32 := Nat.mul_le_mul_right _ hin; omega) (rowB_one _ _) (keysF_put g.acts.length _ i hin _) ?_
            intro w10 hkb10 hs10 hc10
            have hd10 : Chg (fun z => z = kb) w8 w10 := hd9.trans hc10 (fun _ _ h => h)
            refine hK2 _ _ ⟨hd10, ?_⟩
            refine wpAnyH_done (by kernel_rfl) ?_ _
            have HD10 := hid hd10
            have HKB10 := hid hkb10
            clear hd10 hkb10 hc10 hs10 hd9 hc9 hd hkb9 hkey hchK hidx hS
            go_wp2_with fail
            go_roundw
            case rel =>
              refine ⟨k + 1, by omega, by go_num, HC8.out.trans (HD10.out.mono (G := fun z => z = r ∨ z = kb) (fun _ _ h => .inr h)) (fun _ _ h => h), HM8.out.chg HD10.out (fun e => HN.out.1 e), ?_⟩
              rw [← HKP.out (g.acts.length * 32) (keyF (bs cd) rs) (by rw [if_neg h34])]
              exact HKB10.out
            case measure => simp [intOf]; omega
    · obtain rfl : k = (orderR g).length := by omega
      go_wp2_with fail
      go_end0
      refine ⟨rfl, HF.out _ HC.out, ?_⟩
      have hm9 := HM.out
      rw [List.take_length] at hm9
      have hk9 := HKB.out
      rw [List.take_length, keysT_all HD.out.can] at hk9
      have hsa9 := HSA.out _ (HF.out _ HC.out)
      exact ⟨(HF.out _ HC.out).obj HK.out.blk (fun e => e.elim HN.out.2.1 HN.out.2.2), hsa9.1, hsa9.2, hm9, hk9⟩
end Go.Proofs.YthglfmacjoecgaaGreatDoor
