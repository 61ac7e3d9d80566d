/- Texts of the proof, one behind the other: apiaryref09.Made walked; apiaryref09.Keys, apiaryref09.Build walked; apiaryref09.Same and apiaryref05.Same at like lists; OvenBuilds walked: it returns true. -/
import Derived.Test.YthglfmacjoecgaaGreatDoorMg28
import Derived.Test.YthglfmacjoecgaaGreatDoorMg23
import Derived.Test.YthglfmacjoecgaaGreatDoorMg22
import Derived.Deep.QuietTactic
import Derived.BigQuiet
import Derived.Test.YthglfmacjoecgaaGreatDoorMg27
namespace Go.Proofs.YthglfmacjoecgaaGreatDoor
open Go.RowKit

/-- What is there by places, when these have been made. -/
def outM (g : GrR) (srcs : List SrcR) (l : List Nat) (i : Nat) : ResR := if i ∈ l then valT (madeS g srcs) (nameAt g i) else noRes
theorem outM_put {g : GrR} (srcs : List SrcR) {k : Nat} (hk : k < (orderR g).length) (n : Nat) : resB n (fun j => if j = (orderR g)[k] then valT (madeS g srcs) (nameAt g (orderR g)[k]) else outM g srcs ((orderR g).take k) j) = resB n (outM g srcs ((orderR g).take (k + 1))) := by
  refine resB_congr (fun j _ => ?_)
  unfold outM
  rw [List.take_succ_eq_append_getElem hk]
  simp only [List.mem_append, List.mem_singleton]
  by_cases e : j = (orderR g)[k]
  · rw [if_pos e, if_pos (.inr e), e]
  · rw [if_neg e]
    simp only [e, or_false]
theorem madeS_small {g : GrR} {srcs : List SrcR} (hD : Done g srcs) (s : Nm) : Small (valT (madeS g srcs) s) := foldT_small g srcs hD.wide hD.fit.nd _ (orderR g) rfl s
theorem keysT_put2 {g : GrR} (hw : Wov g) (srcs : List SrcR) {k : Nat} (hk : k < (orderR g).length) (n : Nat) {K : Nat → UInt8} (hK : keyK g (madeS g srcs) (orderR g)[k] = K) :
    rowB n (keysF fun j => if j = (orderR g)[k] then K else keysT g (madeS g srcs) ((orderR g).take k) j) = rowB n (keysF (keysT g (madeS g srcs) ((orderR g).take (k + 1)))) := by
  refine keysT_put hw srcs hk n ?_
  rw [← ins_then hw srcs (order_split hk)]
  exact hK
theorem made_of_src2 {g : GrR} {srcs : List SrcR} (hD : Done g srcs) {k : Nat} (hk : k < srcs.length) : valT (madeS g srcs) srcs[k].1 = (0, srcs[k].2) := by
  unfold valT madeS
  have hm : srcs[k].1 ∈ srcs.map Prod.fst := List.mem_map.2 ⟨_, List.getElem_mem hk, rfl⟩
  rw [made_src hD.can.w srcs ((hD.fit.mem _).1 hm), srcT_mem hD.fit.nd (List.getElem_mem hk)]
  rfl
/-- Where an input that is no source has been made. -/
theorem input_place {g : GrR} {srcs : List SrcR} (hD : Done g srcs) {k : Nat} (hk : k < (orderR g).length) {s : Nm} (hs : s ∈ insAt g (orderR g)[k]) (hn : s ∉ srcs.map Prod.fst) :
    ∃ j, j < g.acts.length ∧ placeZ g s = j ∧ outM g srcs ((orderR g).take k) j = valT (madeS g srcs) s := by
  rcases (orderR_ordd g).sup k hk s hs with h1 | ⟨j, hj, h1⟩
  · exact absurd ((hD.fit.mem s).2 h1) hn
  · have hlt := (orderR_ordd g).lt _ (List.getElem_mem (show j < (orderR g).length by omega))
    refine ⟨(orderR g)[j], hlt, ?_, ?_⟩
    · unfold placeZ
      rw [← h1, hD.can.w.place hlt]
    · unfold outM
      rw [if_pos (List.mem_iff_getElem.2 ⟨j, by rw [List.length_take]; omega, by rw [List.getElem_take]⟩), h1]
theorem made_is {g : GrR} {srcs : List SrcR} (hD : Done g srcs) {i : Nat} (hi : i < g.acts.length) : valT (madeS g srcs) (nameAt g i) = makeF (bs g.acts[i].code) (g.acts[i].ins.map (valT (madeS g srcs))) := by
  have h := made_at (F := FF) hD.can srcs hi
  rw [codeAt_lt g i hi] at h
  unfold insT2 at h
  rw [insAt_lt g i hi] at h
  show (lval (nameAt g i) (madeT FF g srcs)).getD noRes = _
  rw [h]
  rfl
section
variable {P : Program} {w : World} {o : Oper} {a : Act} {K : Act → World → Prop} {Q : Exit → Act → World → Prop}
theorem wp_append_new (s x : Operand) (t : TypeId)
    (ho : o.op = .call { callee := .builtin .append, args := #[s, x], argTypes := #[t, t] })
    {e : TypeId} {size bytes : Nat} (T : ElT P t e size bytes)
    {v : Value} {n : Nat} {xs : List Value} (hown : w.ownsRow 0 e size v n xs) (hs : a.eval s = v)
    (arr : Array Value) (m c : Nat) (hx : a.eval x = .slice (some ⟨w.heap.size, 0, none⟩) m c) (hl : arr.toList.length = m * size) (h1 : arr.toList.all Value.oneCell' = true)
    (h63 : n + m ≤ maxLen) (hbytes : (n + m) * bytes ≤ 140737488355328) (hm : m ≠ 0)
    (h : ∀ g cap w', w'.ownsRow 0 e size (.slice (some ⟨g, 0, none⟩) (n + m) cap) (n + m) (xs ++ arr.toList) → Chg (fun k => v.ownBlock = some k) w w' → (v.ownBlock = some g ∨ w.heap.size ≤ g) →
      K (a.put o.dst (.slice (some ⟨g, 0, none⟩) (n + m) cap)) w') : Oper.wp P o a (w.alloc (.cells arr e)) K Q := by
  obtain ⟨i, z, hi, hz, h2, h3, h4, _⟩ := T.info
  obtain ⟨v', w', hr, r2, r3, r4, r5⟩ := run_append_chg (P := P) (w.alloc (.cells arr e)) t o.type e i z size bytes T.ht hi hz h2 h3 h4 T.pos v n xs (hown.alloc _) _ m c arr.toList hl (cells_new w arr e) (fun u hu => List.all_eq_true.1 h1 u hu) h63 hbytes
  obtain ⟨g, cap, rfl⟩ := r5 hm
  unfold Oper.wp execOp
  simp only [ho, resolve, invoke, builtin, Sem.run_bind, Sem.run_pure, Result.andThen_ok, List.map_toArray, List.map_cons, List.map_nil, hs, hx, hr]
  exact h g cap w' r2 (((Chg.refl _ w).alloc _).trans r3 (fun _ _ h => h)) ((r4 g rfl).imp id (fun h => by simp at h; omega))
theorem yieldsIf_loadA {ops : Array Oper} {S : World → Prop} (hw : Region.wanted o (yielded ops a.tmps) = true) (t : TypeId) (x : Operand) (hop : o.op = Op.load t x) (ad : Addr) (v : Value) (hx : a.eval x = .pointer (some ad))
    (hS : ∀ w, S w → (loadVar t ad).run P w = .ok v w) : YieldsIf P ops S o v a :=
  .inl ⟨hw, fun w hw' => by
    unfold execOp
    simp only [hop, hx, Instr.loadAt, Instr.sureAddr, Sem.run_bind, Sem.run_pure, Result.andThen_ok, hS w hw']⟩
end
theorem load_strA {w : World} {ad : Addr} {v : Value} (h : w.cell? ad = some v) : (loadVar 9 ad).run Tryz.prog w = .ok v w := by
  simp [go_sem, h]
theorem ints_fix {F : Nat → Prop} {w4 : World} {v : Value} {l : List Nat} (h : ∀ W, Chg F w4 W → W.ownsRow 0 3 1 v l.length (l.map natV)) {k : Nat} (hk : k < l.length) :
    ∃ bb oo, (∀ w, (Instr.indexAt 75 v (.int .i64 k)).run Tryz.prog w = .ok (.pointer (some ⟨bb, oo, none⟩)) w) ∧ ∀ W, Chg F w4 W → W.cell? ⟨bb, oo, none⟩ = some (.int .i64 l[k]) := by
  rcases (h w4 (Chg.refl _ _)).2 with ⟨_, h0⟩ | ⟨gq, cap, cur, rfl, _⟩
  · omega
  · refine ⟨gq, k, fun w => ?_, fun W hW => ?_⟩
    · have hs : ∀ w, (sizeOf 3).run Tryz.prog w = .ok 1 w := fun w => by kernel_rfl
      have e : (⟨gq, 0, none⟩ : Addr).add k = ⟨gq, k, none⟩ := by unfold Addr.add; split <;> simp_all
      simp [Instr.indexAt, run_underlying Tryz.underlying75, asIntOf, hs, hk, e]
    · rw [(h W hW).cellAt k (by simpa using hk)]
      simp [hk, natV]
def MadePost (w : World) (g : GrR) (srcs : List SrcR) (e : Ending) (w' : World) : Prop :=
  Chg (fun _ => False) w w' ∧ ∃ rv kv, e = .returned (.tuple #[rv, kv]) ∧ ResAt w' rv ((List.range g.acts.length).map fun i => valT (madeS g srcs) (nameAt g i)) ∧ KeysAt w' kv g.acts.length (keyS g srcs)
set_option maxRecDepth 100000 in
set_option maxHeartbeats 4000000 in
theorem rmade_any (g : GrR) (srcs : List SrcR) (hD : Done g srcs) (v sv0 : Value) (w : World) (hg : GrAt w v g) (hss : SrcsAt w sv0 srcs) : Calls Tryz.prog 56 #[v, sv0] w (MadePost w g srcs) := by
  obtain ⟨oa, c, ob, d, iv, rfl, hs, ha⟩ := hg.form
  obtain ⟨os, cs, rfl⟩ := hss.form
  have h12 := hD.can.w.acts12
  have hmx := hss.rows.le
  unfold maxLen at hmx
  have eo : ordR g = orderR g := by unfold ordR; rw [if_pos (can_iff.2 hD.can)]
  have HD := hid hD
  have HG := hid hg
  have HA := hid ha
  have HSS := hid hss
  have HEO := hid eo
  have hC1 := al_chg w (.cells #[.slice oa g.srcs.length c, .slice ob g.acts.length d] 25)
  have hgb := heap_alloc_new' w (.cells #[.slice oa g.srcs.length c, .slice ob g.acts.length d] 25)
  have hs1 : (w.alloc (.cells #[.slice oa g.srcs.length c, .slice ob g.acts.length d] 25)).heap.size = w.heap.size + 1 := by simp
  have hmr := run_makeRes g.acts.length (by omega)
  have hmd := run_makeDig g.acts.length (by omega)
  have HC1 := hid hC1
  have HGB := hid hgb
  have HS1 := hid hs1
  clear hD hg hs ha hss eo hC1 hgb hs1
  go_enter Tryz.func56, Tryz.ntmps56
  go_wp2_with fail
  clear hmr hmd
  obtain ⟨W3, hW3⟩ : ∃ W3, W3 = ((w.alloc (.cells #[.slice oa g.srcs.length c, .slice ob g.acts.length d] 25)).alloc (.cells (resB g.acts.length fun _ => noRes) 47)).alloc (.cells (rowB (g.acts.length * 32) fun _ => 0) 57) := ⟨_, rfl⟩
  have hc3 : Chg (fun _ => False) w W3 := by rw [hW3]; exact ((al_chg w _).alloc _).alloc _
  have hg3 : W3.heap[w.heap.size]? = some (.cells #[.slice oa g.srcs.length c, .slice ob g.acts.length d] 25 (0, 0)) := by
    rw [hW3]
    exact heap_alloc_old' (heap_alloc_old' HGB.out _) _
  have hr3 : W3.heap[w.heap.size + 1]? = some (.cells (resB g.acts.length fun _ => noRes) 47 (0, 0)) := by
    have h := heap_alloc_new' (w.alloc (.cells #[.slice oa g.srcs.length c, .slice ob g.acts.length d] 25)) (.cells (resB g.acts.length fun _ => noRes) 47)
    rw [HS1.out] at h
    rw [hW3]
    exact heap_alloc_old' h _
  have hk3 : W3.heap[w.heap.size + 1 + 1]? = some (.cells (rowB (g.acts.length * 32) fun _ => 0) 57 (0, 0)) := by
    have h := heap_alloc_new' ((w.alloc (.cells #[.slice oa g.srcs.length c, .slice ob g.acts.length d] 25)).alloc (.cells (resB g.acts.length fun _ => noRes) 47)) (.cells (rowB (g.acts.length * 32) fun _ => 0) 57)
    rw [show ((w.alloc (.cells #[.slice oa g.srcs.length c, .slice ob g.acts.length d] 25)).alloc (.cells (resB g.acts.length fun _ => noRes) 47)).heap.size = w.heap.size + 1 + 1 by simp] at h
    rw [hW3]
    exact h
  rw [← hW3]
  obtain ⟨bg, hbg⟩ : ∃ bg, bg = w.heap.size := ⟨_, rfl⟩
  obtain ⟨rb, hrb⟩ : ∃ rb, rb = w.heap.size + 1 := ⟨_, rfl⟩
  obtain ⟨kb, hkb⟩ : ∃ kb, kb = w.heap.size + 1 + 1 := ⟨_, rfl⟩
  rw [← hkb, ← hrb, ← hbg]
  rw [← hkb] at hk3
  rw [← hrb] at hr3
  rw [← hbg] at hg3
  have HNE : Hid (bg < rb ∧ rb < kb ∧ w.heap.size ≤ bg) := hid (by omega)
  clear hW3 hbg hrb hkb HC1 HGB HS1
  refine (rorderL_any g _ _ (HG.out.chg hc3 (fun _ _ h => h))).mono ?_
  rintro e w4 ⟨hc4, vo, rfl, ho4⟩
  rw [HEO.out] at ho4
  have hlen4 := (IntsAt.of_owns ho4).len
  have HC4 := hid (hc3.trans hc4 (fun _ _ h => h))
  have HG4 := hid (hc4.obj hg3 (fun h => h))
  have hr4 : w4.heap[rb]? = some (.cells (resB g.acts.length (outM g srcs ((orderR g).take 0))) 47 (0, 0)) := by
    have : resB g.acts.length (outM g srcs ((orderR g).take 0)) = resB g.acts.length fun _ => noRes := resB_congr (fun i _ => by unfold outM; simp)
    rw [this]
    exact hc4.obj hr3 (fun h => h)
  have hk4 : w4.heap[kb]? = some (.cells (rowB (g.acts.length * 32) (keysF (keysT g (madeS g srcs) ((orderR g).take 0)))) 57 (0, 0)) := by
    have : rowB (g.acts.length * 32) (keysF (keysT g (madeS g srcs) ((orderR g).take 0))) = rowB (g.acts.length * 32) (fun _ => 0) := rowB_congr (fun q _ => by unfold keysF keysT; simp)
    rw [this]
    exact hc4.obj hk3 (fun h => h)
  have HOW : Hid (∀ W, Chg (fun z => z = rb ∨ z = kb) w4 W → W.ownsRow 0 3 1 vo (orderR g).length ((orderR g).map natV)) := hid (fun W hW => hW.owns ho4 (fun q hq e => by
    rcases ho4.2 with ⟨h1, _⟩ | ⟨q2, cap, cur, h1, _, hg', _⟩
    · rw [h1] at hq; cases hq
    · rw [h1] at hq
      obtain rfl := own_eq hq
      rcases e with e | e
      · rw [e, hr4] at hg'
        simp at hg'
      · rw [e, hk4] at hg'
        simp at hg'))
  have HR4 := hid hr4
  have HK4 := hid hk4
  have HLT : Hid (rb < w4.heap.size ∧ kb < w4.heap.size) := hid ⟨heap_lt hr4, heap_lt hk4⟩
  clear hc3 hc4 ho4 hg3 hr3 hk3 hr4 hk4
  have hle := (orderR_ordd g).le
  go_wp2_with fail
  go_loopw [9] (fun i wr => ∃ k : Nat, k ≤ (orderR g).length ∧ i = .int .i64 k ∧ Chg (fun z => z = rb ∨ z = kb) w4 wr ∧ wr.heap[rb]? = some (.cells (resB g.acts.length (outM g srcs ((orderR g).take k))) 47 (0, 0)) ∧ wr.heap[kb]? = some (.cells (rowB (g.acts.length * 32) (keysF (keysT g (madeS g srcs) ((orderR g).take k)))) 57 (0, 0))) (fun i _ => (orderR g).length - (intOf i).toNat)
  case atStart => exact ⟨0, Nat.zero_le _, rfl, Chg.refl _ _, HR4.out, HK4.out⟩
  case round =>
    obtain ⟨k, hk, rfl, hch, hrw, hkw⟩ := hrel
    have HC := hid hch
    have HRW := hid hrw
    have HKW := hid hkw
    have HFAR : Hid (∀ W, Chg (fun z => z = rb ∨ z = kb) w4 W → Chg (fun _ => False) w W) := hid (fun W hW => HC4.out.trans hW (fun i hi h => by have := HNE.out; omega))
    clear hch hrw hkw
    by_cases hkn : k < (orderR g).length
    · have hkn' : (k : Int) < (orderR g).length := by omega
      obtain ⟨bb0, oo0, hix0, hcW⟩ := ints_fix HOW.out hkn
      have hcell0 := hcW wr HC.out
      have HCW0 := hid hcW
      clear hcW
      have hin := (orderR_ordd g).lt _ (List.getElem_mem hkn)
      have HOP := hid (fun n => outM_put srcs hkn n)
      have HKP := hid (fun n K => keysT_put2 HD.out.can.w srcs hkn n (K := K))
      have HKZ := hid (fun n => keysT_none srcs hkn n)
      have HIP := hid (fun s hs hn => input_place HD.out hkn (s := s) hs hn)
      have HMI := hid (made_is HD.out hin)
      have HSM := hid (madeS_small HD.out)
      have HMS := hid (fun q hq => made_of_src2 HD.out (k := q) hq)
      generalize hi0 : (orderR g)[k] = i0 at *
      have HI0 := hid hi0
      have HKN := hid hkn
      clear hi0
      have hsm := act_small HD.out.can.w hin
      have HHI := hid hin
      obtain ⟨bb, oo, hix, hlt, p0, p1, p2, hns, hw1, hw2⟩ := (HA.out.chg (HFAR.out _ HC.out) (fun _ _ h => h)).at i0 hin
      obtain ⟨oi, ci, hiv⟩ := hns.form
      rw [hiv] at p1 hns
      have HNA : Hid (nameAt g i0 = g.acts[i0].name) := nameAt_lt g i0 hin
      have HIA0 : Hid (insAt g i0 = g.acts[i0].ins) := insAt_lt g i0 hin
      have HCA0 : Hid (codeAt g i0 = g.acts[i0].code) := codeAt_lt g i0 hin
      generalize hnm : g.acts[i0].name = nm at *
      generalize hcd : g.acts[i0].code = cd at *
      generalize hins : g.acts[i0].ins = ins at *
      clear hiv hw1 hw2 hnm hcd hins
      have HNS := hid hns
      clear hns
      go_wp2_with fail
      have hS : ∀ W, Chg (fun _ => False) wr W → W.cell? ⟨bg, 1, none⟩ = some (.slice ob g.acts.length d) ∧ W.cell? ⟨bb0, oo0, none⟩ = some (.int .i64 i0) ∧ W.rangeAt bb oo [.string (bs nm), .slice oi ins.length ci, .string (bs cd)] := fun W hW => by
        refine ⟨(cell_of (hW.obj (HC.out.obj HG4.out (by have := HNE.out; omega)) (fun h => h)) 1).trans rfl, hW.cell hcell0 (fun h => h), fun j u hu => ?_⟩
        match j, hu with
        | 0, hu => obtain rfl := Option.some.inj hu; exact hW.cell p0 (fun h => h)
        | 1, hu => obtain rfl := Option.some.inj hu; exact hW.cell p1 (fun h => h)
        | 2, hu => obtain rfl := Option.some.inj hu; exact hW.cell p2 (fun h => h)
        | j + 3, hu => simp at hu
      refine wp_region_held_drew (S := fun W => Chg (fun _ => False) wr W) (by kernel_rfl) ((Chg.refl _ wr).drew) (fun hd => ?_)
      refine wpAnyH_takeD (i := 0) (v := .pointer (some ⟨bg, 1, none⟩)) (some 30) rfl (by kernel_rfl) (by kernel_rfl) (by kernel_rfl) (by kernel_rfl) (fun _ _ _ h => h) (.inl ⟨by kernel_rfl, fun W _ => by kernel_rfl⟩) hd ?_
      refine wpAnyH_takeD (i := 1) (v := .slice ob g.acts.length d) (some 31) rfl (by kernel_rfl) (by kernel_rfl) (by kernel_rfl) (by kernel_rfl) (fun _ _ _ h => h) (yieldsIf_load1 (by kernel_rfl) 23 (.tmp 30) (by kernel_rfl) (bg) (1) _ (by kernel_rfl) (fun W hW => by have e := (hS W hW).1; simp [go_sem, e])) hd ?_
      refine wpAnyH_takeD (i := 2) (v := vo) (some 32) rfl (by kernel_rfl) (by kernel_rfl) (by kernel_rfl) (by kernel_rfl) (fun _ _ _ h => h) (.inl ⟨by kernel_rfl, fun W _ => by kernel_rfl⟩) hd ?_
      refine wpAnyH_takeD (i := 3) (v := .int .i64 k) (some 33) rfl (by kernel_rfl) (by kernel_rfl) (by kernel_rfl) (by kernel_rfl) (fun _ _ _ h => h) (.inl ⟨by kernel_rfl, fun W _ => by kernel_rfl⟩) hd ?_
      refine wpAnyH_takeD (i := 4) (v := .pointer (some ⟨bb0, oo0, none⟩)) (some 34) rfl (by kernel_rfl) (by kernel_rfl) (by kernel_rfl) (by kernel_rfl) (fun _ _ _ h => h) (yieldsIf_index (by kernel_rfl) 75 (.tmp 32) (.tmp 33) (by kernel_rfl) (vo) (.int .i64 k) _ (by kernel_rfl) (by kernel_rfl) hix0) hd ?_
      refine wpAnyH_takeD (i := 5) (v := .int .i64 i0) (some 35) rfl (by kernel_rfl) (by kernel_rfl) (by kernel_rfl) (by kernel_rfl) (fun _ _ _ h => h) (yieldsIf_load1 (by kernel_rfl) 3 (.tmp 34) (by kernel_rfl) (bb0) (oo0) _ (by kernel_rfl) (fun W hW => by have e := (hS W hW).2.1; simp [go_sem, e])) hd ?_
      refine wpAnyH_takeD (i := 6) (v := .pointer (some ⟨bb, oo, none⟩)) (some 36) rfl (by kernel_rfl) (by kernel_rfl) (by kernel_rfl) (by kernel_rfl) (fun _ _ _ h => h) (yieldsIf_index (by kernel_rfl) 23 (.tmp 31) (.tmp 35) (by kernel_rfl) (.slice ob g.acts.length d) (.int .i64 i0) _ (by kernel_rfl) (by kernel_rfl) hix) hd ?_
      refine wpAnyH_takeD (i := 7) (v := .agg #[.string (bs nm), .slice oi ins.length ci, .string (bs cd)]) (some 37) rfl (by kernel_rfl) (by kernel_rfl) (by kernel_rfl) (by kernel_rfl) (fun _ _ _ h => h) (yieldsIf_load_mid (by kernel_rfl) 43 (.tmp 36) (by kernel_rfl) (bb) (oo) (by kernel_rfl) _ _ (fun W hW => (hS W hW).2.2) Tryz.underlying43 rfl (by kernel_rfl)) hd ?_
      try simp only [Act.put, List.setIfInBounds_toArray, List.set_cons_zero, List.set_cons_succ]
      refine wpAnyH_all (rs := [8]) (by kernel_rfl) (by simp) (fun i hi => ?_)
      obtain rfl : i = 8 := by simpa using hi
      refine wpOp_step rfl (fun K1 hK1 => ?_)
      refine Eq.mpr (if_pos (by kernel_rfl)) ?_
      go_wp2_with fail
      have hd1 : Chg (fun _ => False) wr (wr.alloc (.cells #[.string { data := #[] }, .slice none 0 0, .string { data := #[] }] 43)).drew := ((Chg.refl _ wr).alloc _).drew
      refine ⟨hd1, ?_⟩
      try simp only [Act.put, List.setIfInBounds_toArray, List.set_cons_zero, List.set_cons_succ, Array.toArray_toList]
      refine wpAnyH_all (rs := [9]) (by kernel_rfl) (by simp) (fun i hi => ?_)
      obtain rfl : i = 9 := by simpa using hi
      refine wpOp_step rfl (fun K2 hK2 => ?_)
      refine Eq.mpr (if_pos (by kernel_rfl)) ?_
      go_wp2_with fail
      have hd2 : Chg (fun _ => False) wr (wr.alloc (.cells #[.string (bs nm), .slice oi ins.length ci, .string (bs cd)] 43)).drew := ((Chg.refl _ wr).alloc _).drew
      refine ⟨hd2, ?_⟩
      try simp only [Act.put, List.setIfInBounds_toArray, List.set_cons_zero, List.set_cons_succ, Array.toArray_toList]
      refine wpAnyH_done (by kernel_rfl) ?_ _
      have hA6 : Chg (fun _ => False) wr (wr.alloc (.cells #[.string (bs nm), .slice oi ins.length ci, .string (bs cd)] 43)).drew := hd2
      have k6 : (wr.alloc (.cells #[.string (bs nm), .slice oi ins.length ci, .string (bs cd)] 43)).drew.heap[wr.heap.size]? = some (.cells #[.string (bs nm), .slice oi ins.length ci, .string (bs cd)] 43 (0, 0)) := heap_alloc_new' wr _
      have s6 : (wr.alloc (.cells #[.string (bs nm), .slice oi ins.length ci, .string (bs cd)] 43)).drew.heap.size = wr.heap.size + 1 := by show (wr.alloc _).heap.size = _; simp
      clear hd1 hd2 hd hS p0 p1 p2
      generalize (wr.alloc (.cells #[.string (bs nm), .slice oi ins.length ci, .string (bs cd)] 43)).drew = W6 at *
      have HA6 := hid hA6
      have HK6 := hid k6
      have HS6 := hid s6
      have HNS6 := hid (HNS.out.chg hA6 (fun _ _ h => h))
      clear hA6 k6 s6
      go_wp2_with fail
      obtain ⟨bE, hbE⟩ : ∃ bE, bE = wr.heap.size + 1 := ⟨_, rfl⟩
      obtain ⟨A6, hA6⟩ : ∃ A6, A6 = wr.heap.size := ⟨_, rfl⟩
      have HO7 := hid (owns_emptyM W6 47 2)
      rw [HS6.out, ← hbE] at HO7 ⊢
      rw [← hA6]
      rw [← hA6] at HK6
      have HBE : Hid (W6.heap.size = bE) := hid (by rw [HS6.out, hbE])
      have HAE : Hid (A6 + 1 = bE) := hid (by rw [hA6, hbE])
      have HWR : Hid (rb < A6 ∧ kb < A6) := hid (by have := HLT.out; have := HC.out.size; omega)
      clear hbE hA6
      have HC7 := hid ((HC.out.trans HA6.out (fun _ _ h => h.elim)).alloc (.cells #[] 47))
      have HC67 := hid ((Chg.refl (fun _ => False) W6).alloc (.cells #[] 47))
      have HZ7 : Hid ((W6.alloc (.cells #[] 47)).heap.size = bE + 1) := hid (by simp [HBE.out])
      have HR7 := hid (heap_alloc_old' (HA6.out.obj HRW.out (fun h => h)) (.cells #[] 47))
      have HK7 := hid (heap_alloc_old' (HA6.out.obj HKW.out (fun h => h)) (.cells #[] 47))
      have HX7 := hid (heap_alloc_old' HK6.out (.cells #[] 47))
      generalize W6.alloc (.cells #[] 47) = W7 at *
      have r1 : W7.cell? ⟨A6, 1, none⟩ = some (.slice oi ins.length ci) := (cell_of HX7.out 1).trans rfl
      go_loopw [11, 12] (fun v11 v12 wx => ∃ (q : Nat) (x : Value), x = v11 ∧ q ≤ ins.length ∧ v12 = .int .i64 q ∧ wx.ownsRow 0 47 2 x q (((ins.take q).map (valT (madeS g srcs))).flatMap resL) ∧ (∀ z, x.ownBlock = some z → bE ≤ z) ∧ Chg (fun z => z = bE) W7 wx) (fun _ v12 _ => ins.length - (intOf v12).toNat)
      case atStart => exact ⟨0, _, rfl, Nat.zero_le _, rfl, HO7.out, (fun z h => by obtain rfl := own_eq h; exact Nat.le_refl _), Chg.refl _ _⟩
      case round =>
        obtain ⟨q, x11, hx11, hq, rfl, hown, hbl, hcx⟩ := hrel
        subst hx11
        have HOWN := hid hown
        have HBL := hid hbl
        have HCX := hid hcx
        have HC8 : Hid (Chg (fun z => z = rb ∨ z = kb) w4 wr) := hid (HC7.out.trans hcx (fun i hi h => by have := HLT.out; have h1 := HC7.out.size; have h2 := HZ7.out; have h3 := HC.out.size; have h4 := HA6.out.size; have h5 := HBE.out; omega))
        have HC6X : Hid (Chg (fun z => z = bE) W6 wr) := hid ((HC67.out.mono (G := fun z => z = bE) (fun _ _ h => h.elim)).trans hcx (fun _ _ h => h))
        have HX8 := hid (hcx.obj HX7.out (by have := HAE.out; omega))
        have HR8 := hid (hcx.obj HR7.out (by have := HAE.out; have := HWR.out; omega))
        have HK8 := hid (hcx.obj HK7.out (by have := HAE.out; have := HWR.out; omega))
        have HSR := hid (HSS.out.chg (HFAR.out _ HC8.out) (fun _ _ h => h))
        have r2 : wr.cell? ⟨A6, 1, none⟩ = some (.slice oi ins.length ci) := (cell_of HX8.out 1).trans rfl
        clear hown hbl hcx r1
        have hi4 : ins.length ≤ 4 := hsm.1
        by_cases hqn : q < ins.length
        · have hqn' : (q : Int) < ins.length := by omega
          obtain ⟨ad4, hix4, hadc4, hadb4⟩ := HNS6.out.ix q hqn
          have hadc3 := HC6X.out.cell hadc4 (by have := HBE.out; show ¬ ad4.block = bE; omega)
          have HMQ := hid (List.getElem_mem hqn)
          have HTK : Hid (((ins.take (q + 1)).map (valT (madeS g srcs))).flatMap resL = ((ins.take q).map (valT (madeS g srcs))).flatMap resL ++ resL (valT (madeS g srcs) ins[q])) := hid (by rw [List.take_succ_eq_append_getElem hqn, List.map_append, List.flatMap_append]; simp)
          generalize ins[q] = s3 at *
          have hsrc := rsource_any srcs s3 _ _ HSR.out
          rcases srcZ_cases srcs s3 with ⟨hz1, hz2⟩ | ⟨kq, hkq, hz1, hz2, hz3⟩
          · rw [hz1] at hsrc
            obtain ⟨j0, hj0, hpz, hom⟩ := HIP.out s3 (by rw [HIA0.out]; exact HMQ.out) hz2
            obtain ⟨rc, hrc⟩ : ∃ rc, rc = (valT (madeS g srcs) s3).1 := ⟨_, rfl⟩
            obtain ⟨rl, hrl⟩ : ∃ rl, rl = (valT (madeS g srcs) s3).2 := ⟨_, rfl⟩
            have hv : valT (madeS g srcs) s3 = (rc, rl) := by rw [hrc, hrl]
            rw [hv] at HTK hom
            have hob : ∀ z, x11.ownBlock = some z → bE ≤ z := HBL.out
            have hS : ∀ W, Chg (fun z => x11.ownBlock = some z) wr W → W.rangeAt bg 0 [.slice oa g.srcs.length c, .slice ob g.acts.length d] ∧ W.cell? ⟨A6, 1, none⟩ = some (.slice oi ins.length ci) ∧ W.cell? ad4 = some (.string (bs s3)) ∧ W.rangeAt rb (j0 * 2) [.int .i64 rc, .string rl] := fun W hW => by
              refine ⟨fun j u hu => ?_, hW.cell r2 (fun h => by have h2 : bE ≤ A6 := hob _ h; have := HAE.out; omega), ?_, fun j u hu => ?_⟩
              · rw [Nat.zero_add, cell_of (hW.obj (HC8.out.obj HG4.out (by have := HNE.out; omega)) (fun h => by have := hob _ h; have := HAE.out; have := HWR.out; have := HNE.out; omega))]
                simpa using hu
              · exact hW.cell (HC6X.out.cell hadc4 (by have := HBE.out; show ¬ ad4.block = bE; omega)) (fun h => by have h2 : bE ≤ ad4.block := hob _ h; have := HBE.out; omega)
              · have hl := (List.getElem?_eq_some_iff.1 hu).1
                have hb := hW.obj HR8.out (fun h => by have := hob _ h; have := HAE.out; have := HWR.out; omega)
                rw [cell_of hb, resB_get _ _ j0 j hj0 (by simpa using hl), hom]
                exact hu
            clear hrc hrl hv hz1 hz2
            go_wp2_with (go_at_call 90; refine hsrc.mono ?_; rintro e w6 ⟨rfl, rfl⟩)
            have hat : Calls Tryz.prog 91 #[.agg #[.slice oa g.srcs.length c, .slice ob g.acts.length d], .string (bs s3)] wr.drew (Rets (.int .i64 (j0 : Int)) (Chg (fun _ => False) wr.drew)) := by
              have h := rat_any g s3 _ wr.drew (HG.out.chg (HFAR.out _ HC8.out.drew) (fun _ _ h => h))
              rw [hpz] at h
              exact h
            have hown9 : ∀ W, Chg (fun _ => False) wr W → W.ownsRow 0 47 2 x11 q (((ins.take q).map (valT (madeS g srcs))).flatMap resL) := fun W hW => hW.owns HOWN.out (fun _ _ h => h)
            refine wp_region_held_drew (S := fun W => Chg (fun z => x11.ownBlock = some z) wr W) (by kernel_rfl) ((Chg.refl _ wr).drew) (fun hd => ?_)
            refine wpAnyH_takeD (i := 0) (v := x11) (some 64) rfl (by kernel_rfl) (by kernel_rfl) (by kernel_rfl) (by kernel_rfl) (fun _ _ _ h => h) (.inl ⟨by kernel_rfl, fun W _ => by kernel_rfl⟩) hd ?_
            refine wpAnyH_takeD (i := 1) (v := .slice (some ⟨rb, 0, none⟩) g.acts.length g.acts.length) (some 65) rfl (by kernel_rfl) (by kernel_rfl) (by kernel_rfl) (by kernel_rfl) (fun _ _ _ h => h) (.inl ⟨by kernel_rfl, fun W _ => by kernel_rfl⟩) hd ?_
            refine wpAnyH_takeD (i := 2) (v := .agg #[.slice oa g.srcs.length c, .slice ob g.acts.length d]) (some 66) rfl (by kernel_rfl) (by kernel_rfl) (by kernel_rfl) (by kernel_rfl) (fun _ _ _ h => h) (yieldsIf_load_mid (by kernel_rfl) 25 (.tmp 2) (by kernel_rfl) (bg) (0) (by kernel_rfl) _ _ (fun W hW => (hS W hW).1) Tryz.underlying25 rfl (by kernel_rfl)) hd ?_
            refine wpAnyH_takeD (i := 3) (v := .pointer (some ⟨A6, 1, none⟩)) (some 67) rfl (by kernel_rfl) (by kernel_rfl) (by kernel_rfl) (by kernel_rfl) (fun _ _ _ h => h) (.inl ⟨by kernel_rfl, fun W _ => by kernel_rfl⟩) hd ?_
            refine wpAnyH_takeD (i := 4) (v := .slice oi ins.length ci) (some 68) rfl (by kernel_rfl) (by kernel_rfl) (by kernel_rfl) (by kernel_rfl) (fun _ _ _ h => h) (yieldsIf_load1 (by kernel_rfl) 22 (.tmp 67) (by kernel_rfl) (A6) (1) _ (by kernel_rfl) (fun W hW => by have e := (hS W hW).2.1; simp [go_sem, e])) hd ?_
            refine wpAnyH_takeD (i := 5) (v := .int .i64 q) (some 69) rfl (by kernel_rfl) (by kernel_rfl) (by kernel_rfl) (by kernel_rfl) (fun _ _ _ h => h) (.inl ⟨by kernel_rfl, fun W _ => by kernel_rfl⟩) hd ?_
            refine wpAnyH_takeD (i := 6) (v := .pointer (some ad4)) (some 70) rfl (by kernel_rfl) (by kernel_rfl) (by kernel_rfl) (by kernel_rfl) (fun _ _ _ h => h) (yieldsIf_index (by kernel_rfl) 22 (.tmp 68) (.tmp 69) (by kernel_rfl) (.slice oi ins.length ci) (.int .i64 q) _ (by kernel_rfl) (by kernel_rfl) hix4) hd ?_
            refine wpAnyH_takeD (i := 7) (v := .string (bs s3)) (some 71) rfl (by kernel_rfl) (by kernel_rfl) (by kernel_rfl) (by kernel_rfl) (fun _ _ _ h => h) (yieldsIf_loadA (by kernel_rfl) 9 (.tmp 70) (by kernel_rfl) ad4 _ (by kernel_rfl) (fun W hW => load_strA (hS W hW).2.2.1)) hd ?_
            try simp only [Act.put, List.setIfInBounds_toArray, List.set_cons_zero, List.set_cons_succ]
            refine wpAnyH_all (rs := [8]) (by kernel_rfl) (by simp) (fun i hi => ?_)
            obtain rfl : i = 8 := by simpa using hi
            refine wpOp_step rfl (fun K1 hK1 => ?_)
            refine Eq.mpr (if_pos (by kernel_rfl)) ?_
            go_wp2_with (go_at_call 91; refine hat.mono ?_; rintro e w9 ⟨rfl, hc9⟩)
            have hd2 : Chg (fun z => x11.ownBlock = some z) wr w9 := hd.trans hc9 (fun _ _ h => h.elim)
            refine ⟨hd2, ?_⟩
            refine wpAnyH_takeD (i := 9) (v := .pointer (some ⟨rb, j0 * 2, none⟩)) (some 73) rfl (by kernel_rfl) (by kernel_rfl) (by kernel_rfl) (by kernel_rfl) (fun _ _ _ h => h) (yieldsIf_index (by kernel_rfl) 58 (.tmp 65) (.tmp 72) (by kernel_rfl) (.slice (some ⟨rb, 0, none⟩) g.acts.length g.acts.length) (.int .i64 j0) _ (by kernel_rfl) (by kernel_rfl) (index_res rb g.acts.length j0 hj0)) hd2 ?_
            refine wpAnyH_takeD (i := 10) (v := .agg #[.int .i64 rc, .string rl]) (some 74) rfl (by kernel_rfl) (by kernel_rfl) (by kernel_rfl) (by kernel_rfl) (fun _ _ _ h => h) (yieldsIf_load_mid (by kernel_rfl) 47 (.tmp 73) (by kernel_rfl) (rb) (j0 * 2) (by kernel_rfl) _ _ (fun W hW => (hS W hW).2.2.2) Tryz.underlying47 rfl (by kernel_rfl)) hd2 ?_
            try simp only [Act.put, List.setIfInBounds_toArray, List.set_cons_zero, List.set_cons_succ]
            refine wpAnyH_all (rs := [11]) (by kernel_rfl) (by simp) (fun i hi => ?_)
            obtain rfl : i = 11 := by simpa using hi
            refine wpOp_step rfl (fun K2 hK2 => ?_)
            refine Eq.mpr (if_pos (by kernel_rfl)) ?_
            go_wp2_with fail
            have hd3 : Chg (fun z => x11.ownBlock = some z) wr (w9.alloc (.cells #[.int .i64 rc, .string rl] 47)) := hd2.alloc _
            refine ⟨hd3, ?_⟩
            try simp only [Act.put, List.setIfInBounds_toArray, List.set_cons_zero, List.set_cons_succ, Array.toArray_toList]
            refine wpAnyH_all (rs := [12]) (by kernel_rfl) (by simp) (fun i hi => ?_)
            obtain rfl : i = 12 := by simpa using hi
            refine wpOp_step rfl (fun K3 hK3 => ?_)
            refine Eq.mpr (if_pos (by kernel_rfl)) ?_
            refine wp_append_new (.tmp 64) (.tmp 75) 58 rfl elRes (hown9 _ (((Chg.refl (fun _ => False) wr).drew).trans hc9 (fun _ _ h => h))) (by kernel_rfl) #[.int .i64 rc, .string rl] 1 1 (by kernel_rfl) rfl rfl (by unfold maxLen; omega) (by omega) (by decide) ?_
            intro g6 cap6 w10 hown6 hch6 hg6
            have hd4 : Chg (fun z => x11.ownBlock = some z) wr w10 := hd2.trans hch6 (fun _ _ h => h)
            refine hK3 _ _ ⟨hd4, ?_⟩
            refine wpAnyH_takeD (i := 13) (v := .slice (some ⟨g6, 0, none⟩) (q + 1) cap6) (some 11) rfl (by kernel_rfl) (by kernel_rfl) (by kernel_rfl) (by kernel_rfl) (fun _ _ _ h => h) (.inl ⟨by kernel_rfl, fun W _ => by kernel_rfl⟩) hd4 ?_
            try simp only [Act.put, List.setIfInBounds_toArray]
            refine wpAnyH_done (by kernel_rfl) ?_ _
            have HD4 := hid hd4
            have HO6 := hid hown6
            have HG6 := hid hg6
            have HS9 := hid hd2.size
            clear hd hd2 hd3 hd4 hS hat hown9 hc9 hch6 hown6 hg6
            go_wp2_with fail
            go_roundw
            case rel =>
              refine ⟨q + 1, _, rfl, by omega, by go_num, by rw [HTK.out]; exact HO6.out, fun z hz => ?_, HCX.out.trans HD4.out (fun z hz h => by have := HBL.out z h; have := HZ7.out; omega)⟩
              obtain rfl := own_eq hz
              rcases HG6.out with h | h
              · exact HBL.out _ h
              · have := HCX.out.size; have := HZ7.out; have := HS9.out; omega
            case measure => simp [intOf]; omega
          · rw [hz1] at hsrc
            have hv := HMS.out kq hkq
            rw [hz2] at hv
            rw [hv] at HTK
            obtain ⟨b9, o9, hix9, e0, e1, hl9⟩ := HSR.out.ix kq hkq
            have hkz : ¬ (kq : Int) < 0 := by omega
            have hkz' : (0 : Int) ≤ kq := by omega
            clear hz1 hz2 hz3 hv e0
            generalize srcs[kq].2 = b at *
            generalize bs s3 = s3b at *
            go_wp2_with (first | (go_at_call 90; refine hsrc.mono ?_; rintro e w6 ⟨rfl, rfl⟩) | (guard_target =~ wpList _ _ _ (Oper.mk (some 63) _ _ _ _ _ :: _) _ _; refine wpList_append_new rfl _ _ 58 rfl elRes HOWN.out rfl #[.int .i64 0, .string b] 1 1 rfl rfl rfl (by unfold maxLen; omega) (by omega) (by decide) ?_; intro g6 cap6 w6 hown6 hch6 hg6))
            go_roundw
            case rel =>
              refine ⟨q + 1, _, rfl, by omega, by go_num, by rw [HTK.out]; exact hown6, fun z hz => ?_, HCX.out.trans hch6 (fun z hz h => by have := HBL.out z h; have := HZ7.out; omega)⟩
              obtain rfl := own_eq hz
              rcases hg6 with h | h
              · exact HBL.out _ h
              · have := HCX.out.size; have := HZ7.out; omega
            case measure => simp [intOf]; omega
        · obtain rfl : q = ins.length := by omega
          have hown2 := HOWN.out
          rw [List.take_length] at hown2
          have hin2F : ∀ W, Chg (fun z => z = rb ∨ z = kb) wr W → ResAt W x11 (ins.map (valT (madeS g srcs))) := fun W hW => ResAt.of_owns (n := ins.length) (by simp) (hW.owns hown2 (fun z hz e => by have := HBL.out z hz; have := HWR.out; have := HAE.out; rcases e with e | e <;> omega)) (by simp; omega) (fun r hr => by
            obtain ⟨s, _, rfl⟩ := List.mem_map.1 hr
            have := (HSM.out s).wide
            omega)
          have hn32 : (ins.map (valT (madeS g srcs))).length ≤ 32 := by simp; omega
          have hwd : ∀ r ∈ ins.map (valT (madeS g srcs)), r.2.size ≤ 100000 := fun r hr => by
            obtain ⟨s, _, rfl⟩ := List.mem_map.1 hr
            have := (HSM.out s).wide
            omega
          have hCodes : Codes (ins.map (valT (madeS g srcs))) := fun r hr => by
            obtain ⟨s, _, rfl⟩ := List.mem_map.1 hr
            have h1 := (HSM.out s).lo
            have h2 := (HSM.out s).hi
            omega
          have hcs : (bs cd).size ≤ 1000 := by rw [bs_size]; have := hsm.2; omega
          have hmk0 := rmake_any (bs cd) hcs (ins.map (valT (madeS g srcs))) hn32 hwd x11 wr.drew (hin2F _ ((Chg.refl _ _).drew))
          have HKEY := hid (fun W (hW : Chg (fun z => z = rb ∨ z = kb) wr W) => rkey_any (bs cd) hcs (ins.map (valT (madeS g srcs))) hn32 hwd hCodes x11 W (hin2F W hW))
          obtain ⟨mc, hmc⟩ : ∃ mc, mc = (makeF (bs cd) (ins.map (valT (madeS g srcs)))).1 := ⟨_, rfl⟩
          obtain ⟨mb, hmb⟩ : ∃ mb, mb = (makeF (bs cd) (ins.map (valT (madeS g srcs)))).2 := ⟨_, rfl⟩
          have hmp : makeF (bs cd) (ins.map (valT (madeS g srcs))) = (mc, mb) := by rw [hmc, hmb]
          rw [hmp] at hmk0
          have hmk : Calls Tryz.prog 33 #[.string (bs cd), x11] wr.drew (Rets (.agg #[.int .i64 mc, .string mb]) (Chg (fun _ => False) wr.drew)) := hmk0
          have HMV : Hid (valT (madeS g srcs) (nameAt g i0) = (mc, mb)) := hid (HMI.out.trans hmp)
          have HMP := hid hmp
          clear hown2 hin2F hn32 hwd hCodes hcs hmk0 hmc hmb hmp
          have hS : ∀ W, Chg (fun z => z = rb) wr W → W.cell? ⟨bb0, oo0, none⟩ = some (.int .i64 i0) ∧ W.cell? ⟨A6, 2, none⟩ = some (.string (bs cd)) := fun W hW => by
            refine ⟨HCW0.out W (HC8.out.trans (hW.mono (G := fun z => z = rb ∨ z = kb) (fun _ _ h => .inl h)) (fun _ _ h => h)), (cell_of (hW.obj HX8.out (by have := HWR.out; omega)) 2).trans rfl⟩
          go_wp2_with fail
          refine wp_region_held_drew (S := fun W => Chg (fun z => z = rb) wr W) (by kernel_rfl) ((Chg.refl _ wr).drew) (fun hd => ?_)
          refine wpAnyH_takeD (i := 0) (v := .slice (some ⟨rb, 0, none⟩) g.acts.length g.acts.length) (some 77) rfl (by kernel_rfl) (by kernel_rfl) (by kernel_rfl) (by kernel_rfl) (fun _ _ _ h => h) (.inl ⟨by kernel_rfl, fun W _ => by kernel_rfl⟩) hd ?_
          refine wpAnyH_takeD (i := 1) (v := vo) (some 78) rfl (by kernel_rfl) (by kernel_rfl) (by kernel_rfl) (by kernel_rfl) (fun _ _ _ h => h) (.inl ⟨by kernel_rfl, fun W _ => by kernel_rfl⟩) hd ?_
          refine wpAnyH_takeD (i := 2) (v := .int .i64 k) (some 79) rfl (by kernel_rfl) (by kernel_rfl) (by kernel_rfl) (by kernel_rfl) (fun _ _ _ h => h) (.inl ⟨by kernel_rfl, fun W _ => by kernel_rfl⟩) hd ?_
          refine wpAnyH_takeD (i := 3) (v := .pointer (some ⟨bb0, oo0, none⟩)) (some 80) rfl (by kernel_rfl) (by kernel_rfl) (by kernel_rfl) (by kernel_rfl) (fun _ _ _ h => h) (yieldsIf_index (by kernel_rfl) 75 (.tmp 78) (.tmp 79) (by kernel_rfl) (vo) (.int .i64 k) _ (by kernel_rfl) (by kernel_rfl) hix0) hd ?_
          refine wpAnyH_takeD (i := 4) (v := .int .i64 i0) (some 81) rfl (by kernel_rfl) (by kernel_rfl) (by kernel_rfl) (by kernel_rfl) (fun _ _ _ h => h) (yieldsIf_load1 (by kernel_rfl) 3 (.tmp 80) (by kernel_rfl) (bb0) (oo0) _ (by kernel_rfl) (fun W hW => by have e := (hS W hW).1; simp [go_sem, e])) hd ?_
          refine wpAnyH_takeD (i := 5) (v := .pointer (some ⟨A6, 2, none⟩)) (some 82) rfl (by kernel_rfl) (by kernel_rfl) (by kernel_rfl) (by kernel_rfl) (fun _ _ _ h => h) (.inl ⟨by kernel_rfl, fun W _ => by kernel_rfl⟩) hd ?_
          refine wpAnyH_takeD (i := 6) (v := .string (bs cd)) (some 83) rfl (by kernel_rfl) (by kernel_rfl) (by kernel_rfl) (by kernel_rfl) (fun _ _ _ h => h) (yieldsIf_load1 (by kernel_rfl) 9 (.tmp 82) (by kernel_rfl) (A6) (2) _ (by kernel_rfl) (fun W hW => by have e := (hS W hW).2; simp [go_sem, e])) hd ?_
          refine wpAnyH_takeD (i := 7) (v := x11) (some 84) rfl (by kernel_rfl) (by kernel_rfl) (by kernel_rfl) (by kernel_rfl) (fun _ _ _ h => h) (.inl ⟨by kernel_rfl, fun W _ => by kernel_rfl⟩) hd ?_
          try simp only [Act.put, List.setIfInBounds_toArray, List.set_cons_zero, List.set_cons_succ]
          refine wpAnyH_all (rs := [8]) (by kernel_rfl) (by simp) (fun i hi => ?_)
          obtain rfl : i = 8 := by simpa using hi
          refine wpOp_step rfl (fun K1 hK1 => ?_)
          refine Eq.mpr (if_pos (by kernel_rfl)) ?_
          go_wp2_with (go_at_call 33; refine hmk.mono ?_; rintro e w9 ⟨rfl, hc9⟩)
          have hd2 : Chg (fun z => z = rb) wr w9 := hd.trans hc9 (fun _ _ h => h.elim)
          refine ⟨hd2, ?_⟩
          refine wpAnyH_takeD (i := 9) (v := .pointer (some ⟨rb, i0 * 2, none⟩)) (some 86) rfl (by kernel_rfl) (by kernel_rfl) (by kernel_rfl) (by kernel_rfl) (fun _ _ _ h => h) (yieldsIf_index (by kernel_rfl) 58 (.tmp 77) (.tmp 81) (by kernel_rfl) (.slice (some ⟨rb, 0, none⟩) g.acts.length g.acts.length) (.int .i64 i0) _ (by kernel_rfl) (by kernel_rfl) (index_res rb g.acts.length i0 HHI.out)) hd2 ?_
          try simp only [Act.put, List.setIfInBounds_toArray, List.set_cons_zero, List.set_cons_succ]
          refine wpAnyH_all (rs := [10]) (by kernel_rfl) (by simp) (fun i hi => ?_)
          obtain rfl : i = 10 := by simpa using hi
          refine wpOp_step rfl (fun K2 hK2 => ?_)
          refine Eq.mpr (if_pos (by kernel_rfl)) ?_
          have hrb9 : w9.heap[rb]? = some (.cells (resB g.acts.length (outM g srcs ((orderR g).take k))) 47 (0, 0)) := (((Chg.refl (fun _ => False) wr).drew).trans hc9 (fun _ _ h => h)).obj HR8.out (fun h => h)
          refine wp_storeO 47 (.tmp 86) (.tmp 85) rfl rb (i0 * 2) 47 _ #[.int .i64 mc, .string mb] _ (by kernel_rfl) (by kernel_rfl) hrb9 (fun w => by kernel_rfl) (by rw [resB_size]; have : (i0 + 1) * 2 ≤ g.acts.length * 2 := Nat.mul_le_mul_right _ HHI.out; show i0 * 2 + 2 ≤ _; omega) (by rfl) (resB_put g.acts.length _ i0 HHI.out (mc, mb)) ?_
          intro w10 hb10 hs10 hc10
          have hd4 : Chg (fun z => z = rb) wr w10 := hd2.trans hc10 (fun _ _ h => h)
          refine hK2 _ _ ⟨hd4, ?_⟩
          try simp only [Act.put, List.setIfInBounds_toArray]
          refine wpAnyH_done (by kernel_rfl) ?_ _
          have HD4 := hid hd4
          have HB10 := hid hb10
          clear hd hd2 hd4 hS hmk hc9 hrb9 hb10 hs10 hc10
          rw [HMV.out] at HOP
          have hb11 : w10.heap[rb]? = some (.cells (resB g.acts.length (outM g srcs ((orderR g).take (k + 1)))) 47 (0, 0)) := by
            rw [← HOP.out g.acts.length]
            exact HB10.out
          have HB11 := hid hb11
          have HC10 : Hid (Chg (fun z => z = rb ∨ z = kb) w4 w10) := hid (HC8.out.trans (HD4.out.mono (G := fun z => z = rb ∨ z = kb) (fun _ _ h => .inl h)) (fun _ _ h => h))
          have hcell2 := HCW0.out w10 HC10.out
          have hcode : w10.cell? ⟨rb, i0 * 2, none⟩ = some (.int .i64 mc) := by
            rw [cell_of HB10.out]
            have h := resB_get g.acts.length (fun j => if j = i0 then (mc, mb) else outM g srcs ((orderR g).take k) j) i0 0 HHI.out (by decide)
            simp only [Nat.add_zero, if_true] at h
            exact h
          have hixr := index_res rb g.acts.length i0 HHI.out
          clear hb11
          have HK10 := hid (HD4.out.obj HK8.out (by have := HNE.out; omega))
          by_cases h34 : mc = 34
          · have h34' : (mc == 34) = true := by rw [beq_iff_eq]; exact h34
            go_wp2_with fail
            go_roundw
            case rel =>
              refine ⟨k + 1, by have := HKN.out; omega, by go_num, HC10.out, HB11.out, ?_⟩
              rw [← HKP.out (g.acts.length * 32) (fun _ => 0) (by
                unfold keyK
                rw [HCA0.out]
                unfold insT2 FF
                rw [HIA0.out, HMP.out, if_pos h34]), ← HKZ.out]
              exact HK10.out
            case measure => simp [intOf]; have := HKN.out; omega
          · have h34' : (mc == 34) = false := by rw [beq_eq_false_iff_ne]; exact h34
            go_wp2_with fail
            have hS2 : ∀ W, Chg (fun z => z = kb) w10 W → W.cell? ⟨bb0, oo0, none⟩ = some (.int .i64 i0) ∧ W.cell? ⟨A6, 2, none⟩ = some (.string (bs cd)) := fun W hW =>
              ⟨HCW0.out W (HC10.out.trans (hW.mono (G := fun z => z = rb ∨ z = kb) (fun _ _ h => .inr h)) (fun _ _ h => h)), (cell_of (hW.obj (HD4.out.obj HX8.out (by have := HWR.out; omega)) (by have := HWR.out; omega)) 2).trans rfl⟩
            have hkey := HKEY.out w10.drew (HD4.out.mono (G := fun z => z = rb ∨ z = kb) (fun _ _ h => .inl h)).drew
            refine wp_region_held_drew (S := fun W => Chg (fun z => z = kb) w10 W) (by kernel_rfl) ((Chg.refl _ w10).drew) (fun hd => ?_)
            refine wpAnyH_takeD (i := 0) (v := .slice (some ⟨kb, 0, none⟩) g.acts.length g.acts.length) (some 96) rfl (by kernel_rfl) (by kernel_rfl) (by kernel_rfl) (by kernel_rfl) (fun _ _ _ h => h) (.inl ⟨by kernel_rfl, fun W _ => by kernel_rfl⟩) hd ?_
            refine wpAnyH_takeD (i := 1) (v := vo) (some 97) rfl (by kernel_rfl) (by kernel_rfl) (by kernel_rfl) (by kernel_rfl) (fun _ _ _ h => h) (.inl ⟨by kernel_rfl, fun W _ => by kernel_rfl⟩) hd ?_
            refine wpAnyH_takeD (i := 2) (v := .int .i64 k) (some 98) rfl (by kernel_rfl) (by kernel_rfl) (by kernel_rfl) (by kernel_rfl) (fun _ _ _ h => h) (.inl ⟨by kernel_rfl, fun W _ => by kernel_rfl⟩) hd ?_
            refine wpAnyH_takeD (i := 3) (v := .pointer (some ⟨bb0, oo0, none⟩)) (some 99) rfl (by kernel_rfl) (by kernel_rfl) (by kernel_rfl) (by kernel_rfl) (fun _ _ _ h => h) (yieldsIf_index (by kernel_rfl) 75 (.tmp 97) (.tmp 98) (by kernel_rfl) (vo) (.int .i64 k) _ (by kernel_rfl) (by kernel_rfl) hix0) hd ?_
            refine wpAnyH_takeD (i := 4) (v := .int .i64 i0) (some 100) rfl (by kernel_rfl) (by kernel_rfl) (by kernel_rfl) (by kernel_rfl) (fun _ _ _ h => h) (yieldsIf_load1 (by kernel_rfl) 3 (.tmp 99) (by kernel_rfl) (bb0) (oo0) _ (by kernel_rfl) (fun W hW => by have e := (hS2 W hW).1; simp [go_sem, e])) hd ?_
            refine wpAnyH_takeD (i := 5) (v := .pointer (some ⟨A6, 2, none⟩)) (some 101) rfl (by kernel_rfl) (by kernel_rfl) (by kernel_rfl) (by kernel_rfl) (fun _ _ _ h => h) (.inl ⟨by kernel_rfl, fun W _ => by kernel_rfl⟩) hd ?_
            refine wpAnyH_takeD (i := 6) (v := .string (bs cd)) (some 102) rfl (by kernel_rfl) (by kernel_rfl) (by kernel_rfl) (by kernel_rfl) (fun _ _ _ h => h) (yieldsIf_load1 (by kernel_rfl) 9 (.tmp 101) (by kernel_rfl) (A6) (2) _ (by kernel_rfl) (fun W hW => by have e := (hS2 W hW).2; simp [go_sem, e])) hd ?_
            refine wpAnyH_takeD (i := 7) (v := x11) (some 103) rfl (by kernel_rfl) (by kernel_rfl) (by kernel_rfl) (by kernel_rfl) (fun _ _ _ h => h) (.inl ⟨by kernel_rfl, fun W _ => by kernel_rfl⟩) hd ?_
            try simp only [Act.put, List.setIfInBounds_toArray, List.set_cons_zero, List.set_cons_succ]
            refine wpAnyH_all (rs := [8]) (by kernel_rfl) (by simp) (fun i hi => ?_)
            obtain rfl : i = 8 := by simpa using hi
            refine wpOp_step rfl (fun K1 hK1 => ?_)
            refine Eq.mpr (if_pos (by kernel_rfl)) ?_
            go_wp2_with (go_at_call 32; refine hkey.mono ?_; rintro e w11 ⟨rfl, hc11⟩)
            have hd2 : Chg (fun z => z = kb) w10 w11 := hd.trans hc11 (fun _ _ h => h.elim)
            refine ⟨hd2, ?_⟩
            refine wpAnyH_takeD (i := 9) (v := .pointer (some ⟨kb, i0 * 32, none⟩)) (some 105) rfl (by kernel_rfl) (by kernel_rfl) (by kernel_rfl) (by kernel_rfl) (fun _ _ _ h => h) (yieldsIf_index (by kernel_rfl) 34 (.tmp 96) (.tmp 100) (by kernel_rfl) (.slice (some ⟨kb, 0, none⟩) g.acts.length g.acts.length) (.int .i64 i0) _ (by kernel_rfl) (by kernel_rfl) (index_dig kb g.acts.length i0 HHI.out)) hd2 ?_
            try simp only [Act.put, List.setIfInBounds_toArray, List.set_cons_zero, List.set_cons_succ]
            refine wpAnyH_all (rs := [10]) (by kernel_rfl) (by simp) (fun i hi => ?_)
            obtain rfl : i = 10 := by simpa using hi
            refine wpOp_step rfl (fun K2 hK2 => ?_)
            refine Eq.mpr (if_pos (by kernel_rfl)) ?_
            have hkb11 : w11.heap[kb]? = some (.cells (rowB (g.acts.length * 32) (keysF (keysT g (madeS g srcs) ((orderR g).take k)))) 57 (0, 0)) := (((Chg.refl (fun _ => False) w10).drew).trans hc11 (fun _ _ h => h)).obj HK10.out (fun h => h)
            obtain ⟨K9, hK9⟩ : ∃ K9, K9 = keyF (bs cd) (ins.map (valT (madeS g srcs))) := ⟨_, rfl⟩
            refine wp_storeO 57 (.tmp 105) (.tmp 104) rfl kb (i0 * 32) 57 _ (rowB 32 (keyF (bs cd) (ins.map (valT (madeS g srcs))))) _ (by kernel_rfl) (by kernel_rfl) hkb11 (fun w => by rw [rowB_size]; exact size37 w) (by rw [rowB_size, rowB_size]; have : (i0 + 1) * 32 ≤ g.acts.length * 32 := Nat.mul_le_mul_right _ HHI.out; omega) (rowB_one _ _) (keysF_put g.acts.length _ i0 HHI.out _) ?_
            intro w12 hb12 hs12 hc12
            have hd4 : Chg (fun z => z = kb) w10 w12 := hd2.trans hc12 (fun _ _ h => h)
            refine hK2 _ _ ⟨hd4, ?_⟩
            try simp only [Act.put, List.setIfInBounds_toArray]
            refine wpAnyH_done (by kernel_rfl) ?_ _
            have HD12 := hid hd4
            have HB12 := hid hb12
            clear hd hd2 hd4 hS2 hkey hc11 hkb11 hb12 hs12 hc12
            go_wp2_with fail
            go_roundw
            case rel =>
              refine ⟨k + 1, by have := HKN.out; omega, by go_num, HC10.out.trans (HD12.out.mono (G := fun z => z = rb ∨ z = kb) (fun _ _ h => .inr h)) (fun _ _ h => h), HD12.out.obj HB11.out (by have := HNE.out; omega), ?_⟩
              rw [← HKP.out (g.acts.length * 32) (keyF (bs cd) (ins.map (valT (madeS g srcs)))) (by
                unfold keyK
                rw [HCA0.out]
                unfold insT2 FF
                rw [HIA0.out, HMP.out, if_neg h34])]
              exact HB12.out
            case measure => simp [intOf]; have := HKN.out; omega
    · obtain rfl : k = (orderR g).length := by omega
      go_wp2_with fail
      go_ret2
      refine ⟨HFAR.out _ HC.out, _, _, rfl, ?_, ?_⟩
      · have h := HRW.out
        rw [List.take_length] at h
        have e : ((List.range g.acts.length).map fun i => valT (madeS g srcs) (nameAt g i)) = (List.range g.acts.length).map (outM g srcs (orderR g)) := List.map_congr_left (fun i hi => by
          unfold outM
          rw [if_pos ((orderR_ordd g).full HD.out.can.full i (List.mem_range.1 hi))])
        rw [e]
        exact ResAt.of_block h (by omega) (fun i hi => by
          unfold outM
          split
          · have := (madeS_small HD.out (nameAt g i)).wide; omega
          · exact Nat.zero_le _)
      · have h := HKW.out
        rw [List.take_length, keysT_all HD.out.can] at h
        exact KeysAt.of_block h (by omega)
end Go.Proofs.YthglfmacjoecgaaGreatDoor
namespace Go.Proofs.YthglfmacjoecgaaGreatDoor
open Go.RowKit

set_option maxRecDepth 100000 in
set_option maxHeartbeats 4000000 in
theorem rkeysB_any (g : GrR) (srcs : List SrcR) (v sv0 : Value) (w : World) (hg : GrAt w v g) (hss : SrcsAt w sv0 srcs) : Calls Tryz.prog 20 #[v, sv0] w (KeysPost w g srcs) := by
  obtain ⟨oa, c, ob, d, iv, rfl, hs, ha⟩ := hg.form
  obtain ⟨os, cs, rfl⟩ := hss.form
  have hC1 := al_chg w (.cells #[.slice oa g.srcs.length c, .slice ob g.acts.length d] 25)
  have hgb := heap_alloc_new' w (.cells #[.slice oa g.srcs.length c, .slice ob g.acts.length d] 25)
  have hck := rcheckS_any g srcs _ _ _ (hg.chg hC1 (fun _ _ h => h)) (hss.chg hC1 (fun _ _ h => h))
  have HG := hid hg
  have HSS := hid hss
  have HC1 := hid hC1
  have HGB := hid hgb
  clear hg hs ha hss hC1 hgb
  by_cases hz : checkS g srcs = 0
  · have HZ := hid hz
    have HD := hid (checkS_zero.1 hz)
    rw [hz] at hck
    clear hz
    go_enter Tryz.func20, Tryz.ntmps20
    go_wp2_with (first | (go_at_call 55; refine hck.mono ?_; rintro e w2 ⟨rfl, hc2⟩; have HC2 := hid (HC1.out.trans hc2 (fun _ _ h => h)); have hg2 := hc2.obj HGB.out (fun h => h); have g0 := cell_of hg2 0; have g1 := cell_of hg2 1; simp at g0 g1; clear hc2 hg2) | (go_at_call 56; refine (rmade_any g srcs HD.out _ _ _ (HG.out.chg HC2.out (fun _ _ h => h)) (HSS.out.chg HC2.out (fun _ _ h => h))).mono ?_; rintro e w3 ⟨hc3, rv, kv, rfl, hrv, hkv⟩; have HC3 := hid (HC2.out.trans hc3 (fun _ _ h => h)); have HKV := hid hkv; clear hc3 hrv hkv))
    go_ret2
    refine ⟨HC3.out, _, by rw [HZ.out]; rfl, ?_⟩
    unfold cntS
    rw [if_pos HZ.out]
    exact HKV.out
  · have hbe : ((checkS g srcs : Int) == 0) = false := by rw [beq_eq_false_iff_ne]; omega
    have HCN := hid (show cntS g srcs = 0 from if_neg hz)
    obtain ⟨cn, hcne⟩ : ∃ cn, cn = checkS g srcs := ⟨_, rfl⟩
    rw [← hcne] at hck hbe
    have HE := hid hcne
    clear hz hcne
    go_enter Tryz.func20, Tryz.ntmps20
    go_wp2_with (go_at_call 55; refine hck.mono ?_; rintro e w2 ⟨rfl, hc2⟩)
    go_ret2
    refine ⟨HC1.out.trans hc2 (fun _ _ h => h), _, by rw [← HE.out]; rfl, ?_⟩
    rw [HCN.out]
    exact KeysAt.nil _ _
set_option maxRecDepth 100000 in
set_option maxHeartbeats 4000000 in
theorem rbuildB_any (g : GrR) (srcs : List SrcR) (v sv0 : Value) (w : World) (hg : GrAt w v g) (hss : SrcsAt w sv0 srcs) : Calls Tryz.prog 18 #[v, sv0] w (BuiltPost w g srcs) := by
  obtain ⟨oa, c, ob, d, iv, rfl, hs, ha⟩ := hg.form
  obtain ⟨os, cs, rfl⟩ := hss.form
  have hC1 := al_chg w (.cells #[.slice oa g.srcs.length c, .slice ob g.acts.length d] 25)
  have hgb := heap_alloc_new' w (.cells #[.slice oa g.srcs.length c, .slice ob g.acts.length d] 25)
  have hck := rcheckS_any g srcs _ _ _ (hg.chg hC1 (fun _ _ h => h)) (hss.chg hC1 (fun _ _ h => h))
  have HG := hid hg
  have HA := hid ha
  have HSS := hid hss
  have HC1 := hid hC1
  have HGB := hid hgb
  clear hg hs ha hss hC1 hgb
  by_cases hz : checkS g srcs = 0
  · have HZ := hid hz
    have HD := hid (checkS_zero.1 hz)
    have h12 := HD.out.can.w.acts12
    rw [hz] at hck
    clear hz
    go_enter Tryz.func18, Tryz.ntmps18
    go_wp2_with (first | (go_at_call 55; refine hck.mono ?_; rintro e w2 ⟨rfl, hc2⟩; have HC2 := hid (HC1.out.trans hc2 (fun _ _ h => h)); have hg2 := hc2.obj HGB.out (fun h => h); have HG2 := hid hg2; have g0 := cell_of hg2 0; have g1 := cell_of hg2 1; simp at g0 g1; clear hc2 hg2) | (go_at_call 56; refine (rmade_any g srcs HD.out _ _ _ (HG.out.chg HC2.out (fun _ _ h => h)) (HSS.out.chg HC2.out (fun _ _ h => h))).mono ?_; rintro e w3 ⟨hc3, rv, kv, rfl, hrv, hkv⟩; have HC3 := hid (HC2.out.trans hc3 (fun _ _ h => h)); have HG3 := hid (hc3.obj HG2.out (fun h => h)); have HRV := hid hrv; have hlenR := hrv.len; rw [List.length_map, List.length_range] at hlenR; clear hc3 hrv hkv g0 g1))
    have HO4 := hid (owns_emptyM w3 53 3)
    have HC34 := hid (al_chg w3 (.cells #[] 53))
    go_loopw [9, 10] (fun v9 i wr => ∃ (k : Nat) (x : Value), x = v9 ∧ k ≤ g.acts.length ∧ i = .int .i64 k ∧ wr.ownsRow 0 53 3 x k (((outT g srcs).take k).flatMap bltL) ∧ (∀ z, x.ownBlock = some z → w3.heap.size ≤ z) ∧ Chg (fun _ => False) w3 wr) (fun _ i _ => g.acts.length - (intOf i).toNat)
    case atStart => exact ⟨0, _, rfl, Nat.zero_le _, rfl, HO4.out, (fun z h => by obtain rfl := own_eq h; exact Nat.le_refl _), HC34.out⟩
    case round =>
      obtain ⟨k, x9, hx9, hk, rfl, hown, hbl, hch⟩ := hrel
      subst hx9
      have HOWN := hid hown
      have HBL := hid hbl
      have HCH := hid hch
      have HCW := hid (HC3.out.trans hch (fun _ _ h => h))
      clear hown hbl hch
      by_cases hkn : k < g.acts.length
      · have hkn' : (k : Int) < g.acts.length := by omega
        obtain ⟨bb, oo, hix, hlt, p0, p1, p2, hns, hw1, hw2⟩ := (HA.out.chg HCW.out (fun _ _ h => h)).at k hkn
        have hlr : k < ((List.range g.acts.length).map fun i => valT (madeS g srcs) (nameAt g i)).length := by simpa using hkn
        obtain ⟨b2, o2, hix2, e0, e1, hl2⟩ := (HRV.out.chg HCH.out (fun _ _ h => h)).ix k hlr
        have hel : ((List.range g.acts.length).map fun i => valT (madeS g srcs) (nameAt g i))[k] = valT (madeS g srcs) g.acts[k].name := by
          rw [← nameAt_lt g k hkn]
          simp
        rw [hel] at e0 e1
        have HTK := hid (outT_take g srcs k hkn)
        have g1 : wr.cell? ⟨w.heap.size, 1, none⟩ = some (.slice ob g.acts.length d) := (cell_of (HCH.out.obj HG3.out (fun h => h)) 1).trans rfl
        clear p1 p2 hns hw1 hw2 hel hlr
        obtain ⟨rc, hrc⟩ : ∃ rc, rc = (valT (madeS g srcs) g.acts[k].name).1 := ⟨_, rfl⟩
        obtain ⟨rl, hrl⟩ : ∃ rl, rl = (valT (madeS g srcs) g.acts[k].name).2 := ⟨_, rfl⟩
        rw [← hrc] at e0 HTK
        rw [← hrl] at e1 HTK
        clear hrc hrl
        generalize bs g.acts[k].name = nm at *
        go_wp2_with fail
        go_region_law (refine step_append_new rfl _ _ 29 rfl elBlt HOWN.out rfl #[.string nm, .int .i64 rc, .string rl] 1 1 rfl rfl rfl (by unfold maxLen; omega) (by omega) (by decide) ?_; intro g6 cap6 w6 hown6 hch6 hg6)
        all_goals go_wp2_with fail
        all_goals (refine ⟨⟨k + 1, _, rfl, by omega, by go_num, by rw [HTK.out]; exact hown6, fun z hz => ?_, HCH.out.trans hch6 (fun z hz h => absurd (HBL.out z h) (by omega))⟩, by simp [intOf]; omega⟩)
        all_goals (obtain rfl := own_eq hz; rcases hg6 with h | h)
        all_goals first | exact HBL.out _ h | (have := HCH.out.size; omega)
      · obtain rfl : k = g.acts.length := by omega
        go_wp2_with fail
        go_ret2
        refine ⟨HCW.out, x9, by rw [HZ.out]; rfl, ?_⟩
        have hown9 := HOWN.out
        rw [List.take_of_length_le (by rw [outT_len]; exact Nat.le_refl _)] at hown9
        unfold outS
        rw [if_pos HZ.out]
        exact BltAt.of_owns (by rw [outT_len]) hown9 (by rw [outT_len]; omega)
  · have hbe : ((checkS g srcs : Int) == 0) = false := by rw [beq_eq_false_iff_ne]; omega
    have HCN := hid (show outS g srcs = [] from if_neg hz)
    obtain ⟨cn, hcne⟩ : ∃ cn, cn = checkS g srcs := ⟨_, rfl⟩
    rw [← hcne] at hck hbe
    have HE := hid hcne
    clear hz hcne
    go_enter Tryz.func18, Tryz.ntmps18
    go_wp2_with (go_at_call 55; refine hck.mono ?_; rintro e w2 ⟨rfl, hc2⟩)
    go_ret2
    refine ⟨HC1.out.trans hc2 (fun _ _ h => h), _, by rw [← HE.out]; rfl, ?_⟩
    rw [HCN.out]
    exact BltAt.nil _
end Go.Proofs.YthglfmacjoecgaaGreatDoor
namespace Go.Proofs.YthglfmacjoecgaaGreatDoor
open Go.RowKit

theorem equalIn_blt (a : BltR) (h0 : a.1.length ≤ maxLen) (ha : (Lit.int .i64 a.2.1).wf = true) (ha2 : a.2.2.size ≤ maxLen) (w : World) :
    (Op.equalIn 10000 53 (.agg #[.string (bs a.1), .int .i64 a.2.1, .string a.2.2]) (.agg #[.string (bs a.1), .int .i64 a.2.1, .string a.2.2])).run Tryz.prog w = .ok true w := by
  have hf : ∀ r : BltR, (bltW r).formed Tryz.prog 53 = true := fun r => by kernel_rfl
  obtain ⟨r, e1, e2⟩ := run_equalIn_deep (P := Tryz.prog) 9997 3 53 (by kernel_rfl) w 3 3 (bltW a) (bltW a) _ _ (hf a) (hf a) (lits_blt a h0 ha ha2) (lits_blt a h0 ha ha2)
  rw [e2.2 rfl] at e1
  exact e1
set_option maxRecDepth 100000 in
set_option maxHeartbeats 4000000 in
theorem sameB_eq (xs : List BltR) (hx : ∀ x ∈ xs, x.1.length ≤ maxLen ∧ (Lit.int .i64 x.2.1).wf = true ∧ x.2.2.size ≤ maxLen) (v u : Value) (w : World) (hv : BltAt w v xs) (hu : BltAt w u xs) :
    Calls Tryz.prog 21 #[v, u] w (Rets (.bool true) (Chg (fun _ => False) w)) := by
  have hlen := hv.len
  have hlen2 := hu.len
  have hmx := hv.rows.le
  unfold maxLen at hmx
  have HV := hid hv
  have HU := hid hu
  have HX := hid hx
  clear hv hu hx
  go_enter Tryz.func21, Tryz.ntmps21
  go_wp2_with fail
  go_loopw [5] (fun i wr => ∃ k : Nat, k ≤ xs.length ∧ i = .int .i64 k ∧ Chg (fun _ => False) w wr) (fun i _ => xs.length - (intOf i).toNat)
  case atStart => exact ⟨0, Nat.zero_le _, rfl, Chg.refl _ _⟩
  case round =>
    obtain ⟨k, hk, rfl, hch⟩ := hrel
    have HC := hid hch
    clear hch
    by_cases hkn : k < xs.length
    · have hkn' : (k : Int) < xs.length := by omega
      obtain ⟨b1, o1, hix1, x0, x1, x2, hl1⟩ := (HV.out.chg HC.out (fun _ _ h => h)).ix k hkn
      obtain ⟨b2, o2, hix2, y0, y1, y2, hl2⟩ := (HU.out.chg HC.out (fun _ _ h => h)).ix k hkn
      obtain ⟨g0, g1, g2⟩ := HX.out _ (List.getElem_mem hkn)
      have heq := equalIn_blt xs[k] g0 g1 g2
      generalize bs xs[k].1 = nm at *
      generalize xs[k].2.1 = c at *
      generalize xs[k].2.2 = b at *
      clear g0 g1 g2
      go_wp2_with fail
      go_quiet (fail)
      go_wp2_with fail
      go_roundw
      case rel => exact ⟨k + 1, by omega, by go_num, HC.out.drewN _⟩
      case measure => simp [intOf]; omega
    · obtain rfl : k = xs.length := by omega
      go_wp2_with fail
      go_ret
      exact ⟨rfl, HC.out⟩
/-- '!=' of two like digests. -/
theorem neq_dig_same (f : Nat → UInt8) (w : World) : (binOp .neq 57 (.agg (rowB 32 f)) (.agg (rowB 32 f))).run Tryz.prog w = .ok (.bool false) w := by
  have h := eq_dig_same f w
  rw [run_eql_struct] at h
  rw [run_neq_struct]
  cases hr : (Op.equalIn 10000 57 (.agg (rowB 32 f)) (.agg (rowB 32 f))).run Tryz.prog w with
  | ok b w' =>
    rw [hr] at h
    simp only [Result.andThen, Result.ok.injEq, Value.bool.injEq] at h
    obtain ⟨rfl, rfl⟩ := h
    rfl
  | _ => rw [hr] at h; cases h
theorem yieldsIf_neq {P : Program} {ops : Array Oper} {S : World → Prop} {o : Oper} {a : Act} (hw : Region.wanted o (yielded ops a.tmps) = true) (t t2 : TypeId) (x y : Operand) (hop : o.op = Op.binOp .neq t x y t2) (xs ys : Array Value) (hx : a.eval x = .agg xs) (hy : a.eval y = .agg ys) (hm : P.eqGuardType P.depth t = false) (r : Bool)
    (hr : ∀ w, (binOp .neq t (.agg xs) (.agg ys)).run P w = .ok (.bool r) w) : YieldsIf P ops S o (.bool r) a :=
  .inl ⟨hw, fun w _ => by
    have hge := run_eqGuard_agg (P := P) w .neq t x y xs ys hm
    unfold execOp
    simp only [hop, hx, hy, Sem.run_bind, hge, hr, Sem.run_pure, Result.andThen_ok]⟩
set_option maxRecDepth 100000 in
set_option maxHeartbeats 4000000 in
theorem sameK_eq (n : Nat) (K : Nat → Nat → UInt8) (v u : Value) (w : World) (hv : KeysAt w v n K) (hu : KeysAt w u n K) :
    Calls Tryz.prog 22 #[v, u] w (Rets (.bool true) (Chg (fun _ => False) w)) := by
  have hlen := hv.len
  have hlen2 := hu.len
  have hmx := hv.rows.le
  unfold maxLen at hmx
  have HV := hid hv
  have HU := hid hu
  clear hv hu
  go_enter Tryz.func22, Tryz.ntmps22
  go_wp2_with fail
  go_loopw [5] (fun i wr => ∃ k : Nat, k ≤ n ∧ i = .int .i64 k ∧ Chg (fun _ => False) w wr) (fun i _ => n - (intOf i).toNat)
  case atStart => exact ⟨0, Nat.zero_le _, rfl, Chg.refl _ _⟩
  case round =>
    obtain ⟨k, hk, rfl, hch⟩ := hrel
    have HC := hid hch
    clear hch
    by_cases hkn : k < n
    · have hkn' : (k : Int) < n := by omega
      obtain ⟨b1, o1, hix1, x0, hl1⟩ := (HV.out.chg HC.out (fun _ _ h => h)).ix k hkn
      obtain ⟨b2, o2, hix2, y0, hl2⟩ := (HU.out.chg HC.out (fun _ _ h => h)).ix k hkn
      have hS : ∀ W, Chg (fun _ => False) wr W → W.rangeAt b1 o1 (rowB 32 (K k)).toList ∧ W.rangeAt b2 o2 (rowB 32 (K k)).toList := fun W hW => ⟨fun j u h => hW.cell (x0 j u h) (fun h => h), fun j u h => hW.cell (y0 j u h) (fun h => h)⟩
      go_wp2_with fail
      refine wp_region_held_drew (S := fun W => Chg (fun _ => False) wr W) (by kernel_rfl) ((Chg.refl _ wr).drew) (fun hd => ?_)
      refine wpAnyH_takeD (i := 0) (v := v) (some 17) rfl (by kernel_rfl) (by kernel_rfl) (by kernel_rfl) (by kernel_rfl) (fun _ _ _ h => h) (.inl ⟨by kernel_rfl, fun W _ => by kernel_rfl⟩) hd ?_
      refine wpAnyH_takeD (i := 1) (v := .int .i64 k) (some 18) rfl (by kernel_rfl) (by kernel_rfl) (by kernel_rfl) (by kernel_rfl) (fun _ _ _ h => h) (.inl ⟨by kernel_rfl, fun W _ => by kernel_rfl⟩) hd ?_
      refine wpAnyH_takeD (i := 2) (v := .pointer (some ⟨b1, o1, none⟩)) (some 19) rfl (by kernel_rfl) (by kernel_rfl) (by kernel_rfl) (by kernel_rfl) (fun _ _ _ h => h) (yieldsIf_index (by kernel_rfl) 34 (.tmp 17) (.tmp 18) (by kernel_rfl) (v) (.int .i64 k) _ (by kernel_rfl) (by kernel_rfl) hix1) hd ?_
      refine wpAnyH_takeD (i := 3) (v := .agg (rowB 32 (K k)).toList.toArray) (some 20) rfl (by kernel_rfl) (by kernel_rfl) (by kernel_rfl) (by kernel_rfl) (fun _ _ _ h => h) (yieldsIf_load_mid (by kernel_rfl) 57 (.tmp 19) (by kernel_rfl) b1 o1 (by kernel_rfl) _ _ (fun W hW => (hS W hW).1) Tryz.underlying57 rfl (by rw [Array.length_toList, rowB_size]; kernel_rfl)) hd ?_
      refine wpAnyH_takeD (i := 4) (v := u) (some 21) rfl (by kernel_rfl) (by kernel_rfl) (by kernel_rfl) (by kernel_rfl) (fun _ _ _ h => h) (.inl ⟨by kernel_rfl, fun W _ => by kernel_rfl⟩) hd ?_
      refine wpAnyH_takeD (i := 5) (v := .int .i64 k) (some 22) rfl (by kernel_rfl) (by kernel_rfl) (by kernel_rfl) (by kernel_rfl) (fun _ _ _ h => h) (.inl ⟨by kernel_rfl, fun W _ => by kernel_rfl⟩) hd ?_
      refine wpAnyH_takeD (i := 6) (v := .pointer (some ⟨b2, o2, none⟩)) (some 23) rfl (by kernel_rfl) (by kernel_rfl) (by kernel_rfl) (by kernel_rfl) (fun _ _ _ h => h) (yieldsIf_index (by kernel_rfl) 34 (.tmp 21) (.tmp 22) (by kernel_rfl) (u) (.int .i64 k) _ (by kernel_rfl) (by kernel_rfl) hix2) hd ?_
      refine wpAnyH_takeD (i := 7) (v := .agg (rowB 32 (K k)).toList.toArray) (some 24) rfl (by kernel_rfl) (by kernel_rfl) (by kernel_rfl) (by kernel_rfl) (fun _ _ _ h => h) (yieldsIf_load_mid (by kernel_rfl) 57 (.tmp 23) (by kernel_rfl) b2 o2 (by kernel_rfl) _ _ (fun W hW => (hS W hW).2) Tryz.underlying57 rfl (by rw [Array.length_toList, rowB_size]; kernel_rfl)) hd ?_
      refine wpAnyH_takeD (i := 8) (v := .bool false) (some 25) rfl (by kernel_rfl) (by kernel_rfl) (by kernel_rfl) (by kernel_rfl) (fun _ _ _ h => h) (yieldsIf_neq (by kernel_rfl) 57 57 (.tmp 20) (.tmp 24) (by kernel_rfl) (rowB 32 (K k)) (rowB 32 (K k)) (by kernel_rfl) (by kernel_rfl) (by kernel_rfl) false (neq_dig_same _)) hd ?_
      simp only [Act.put, List.setIfInBounds_toArray, List.set_cons_zero, List.set_cons_succ]
      refine wpAnyH_done (by kernel_rfl) ?_ _
      have HF := hid (HC.out.trans hd (fun _ _ h => h))
      clear hS x0 y0 hd
      go_wp2_with fail
      go_roundw
      case rel => exact ⟨k + 1, by omega, by go_num, HF.out⟩
      case measure => simp [intOf]; omega
    · obtain rfl : k = n := by omega
      go_wp2_with fail
      go_ret
      exact ⟨rfl, HC.out⟩
end Go.Proofs.YthglfmacjoecgaaGreatDoor
namespace Go.Proofs.YthglfmacjoecgaaGreatDoor
open Go.RowKit

theorem small_wf2 {r : ResR} (h : Small r) : (Lit.int .i64 r.1).wf = true := by
  have h1 := h.lo
  have h2 := h.hi
  simp [Lit.wf, IntKind.min, IntKind.max, IntKind.signed, IntKind.bits]
  omega
theorem outS_ok (g : GrR) (srcs : List SrcR) (hn : ∀ a ∈ g.acts, a.name.length ≤ maxLen) : ∀ x ∈ outS g srcs, x.1.length ≤ maxLen ∧ (Lit.int .i64 x.2.1).wf = true ∧ x.2.2.size ≤ maxLen := by
  intro x hx
  unfold outS at hx
  split at hx
  · rename_i hz
    obtain ⟨a, ha, rfl⟩ := List.mem_map.1 hx
    have h := madeS_small (checkS_zero.1 hz) a.name
    refine ⟨hn a ha, small_wf2 h, ?_⟩
    have := h.wide
    show (valT (madeS g srcs) a.name).2.size ≤ maxLen
    unfold maxLen
    omega
  · cases hx
set_option maxRecDepth 100000 in
set_option maxHeartbeats 4000000 in
theorem obuilds_any {B : Nat} (g : GrR) (srcs : List SrcR) (v sv0 : Value) (w : World) (hg : GrAt w v g) (hss : SrcsAt w sv0 srcs) (hT : TabsOK B w) (hB : B ≤ w.heap.size) : Calls Tryz.prog 3 #[v, sv0] w (Rets (.bool true) (Chg (fun _ => False) w)) := by
  obtain ⟨oa, c, ob, d, iv, rfl, hs, ha⟩ := hg.form
  obtain ⟨os, cs, rfl⟩ := hss.form
  have HOK := hid (outS_ok g srcs (fun a h => (ha.wide a h).1))
  have hC1 : Chg (fun _ => False) w (w.alloc (.cells #[.slice oa g.srcs.length c, .slice ob g.acts.length d] 25)) := (Chg.refl _ w).alloc _
  have hgb := heap_alloc_new' w (.cells #[.slice oa g.srcs.length c, .slice ob g.acts.length d] 25)
  have HG := hid hg
  have HSS := hid hss
  have HC1 := hid hC1
  have HGB := hid hgb
  have HT := hid hT
  have HBB := hid hB
  clear hg hs ha hss hC1 hgb hT hB
  go_enter Tryz.func3, Tryz.ntmps3
  go_wp2_with fail
  refine (oawake_any _ (HT.out.keep HC1.out) (Nat.le_trans HBB.out HC1.out.size)).mono ?_
  rintro e w2 ⟨rfl, hc2⟩
  have HC2 := hid (HC1.out.trans hc2 (fun _ _ h => h))
  have HG2 := hid (hc2.obj HGB.out (fun h => h))
  clear hc2 HC1 HGB
  have a0 := cell_of HG2.out 0
  have a1 := cell_of HG2.out 1
  simp at a0 a1
  go_wp2_with fail
  refine (ogreat_any g srcs _ _ _ (HG.out.chg HC2.out (fun _ _ h => h)) (HSS.out.chg HC2.out (fun _ _ h => h))).mono ?_
  rintro e w3 ⟨b3, rfl, hc3⟩
  have HC3 := hid (HC2.out.trans hc3 (fun _ _ h => h))
  have HG3 := hid (hc3.obj HG2.out (fun h => h))
  clear hc3 a0 a1 HC2 HG2
  cases b3 with
  | true =>
    go_wp2_with fail
    go_ret
    exact ⟨rfl, HC3.out⟩
  | false =>
  have a0 := cell_of HG3.out 0
  have a1 := cell_of HG3.out 1
  simp at a0 a1
  go_wp2_with fail
  refine (obuild_any g srcs _ _ _ (HG.out.chg HC3.out (fun _ _ h => h)) (HSS.out.chg HC3.out (fun _ _ h => h)) (HT.out.keep HC3.out) (Nat.le_trans HBB.out HC3.out.size)).mono ?_
  rintro e w4 ⟨hc4, v4, rfl, hb4⟩
  have HC4 := hid (HC3.out.trans hc4 (fun _ _ h => h))
  have HG4 := hid (hc4.obj HG3.out (fun h => h))
  have HB4 := hid hb4
  clear hc4 hb4 a0 a1 HC3 HG3
  have a0 := cell_of HG4.out 0
  have a1 := cell_of HG4.out 1
  simp at a0 a1
  go_wp2_with fail
  refine (rbuildB_any g srcs _ _ _ (HG.out.chg HC4.out (fun _ _ h => h)) (HSS.out.chg HC4.out (fun _ _ h => h))).mono ?_
  rintro e w5 ⟨hc5, v5, rfl, hb5⟩
  have HC5 := hid (HC4.out.trans hc5 (fun _ _ h => h))
  have HG5 := hid (hc5.obj HG4.out (fun h => h))
  have HA5 := hid (HB4.out.chg hc5 (fun _ _ h => h))
  have HB5 := hid hb5
  clear hc5 hb5 a0 a1 HC4 HG4 HB4
  have a0 := cell_of HG5.out 0
  have a1 := cell_of HG5.out 1
  simp at a0 a1
  go_wp2_with fail
  refine (okeys_any g srcs _ _ _ (HG.out.chg HC5.out (fun _ _ h => h)) (HSS.out.chg HC5.out (fun _ _ h => h)) (HT.out.keep HC5.out) (Nat.le_trans HBB.out HC5.out.size)).mono ?_
  rintro e w6 ⟨hc6, v6, rfl, hb6⟩
  have HC6 := hid (HC5.out.trans hc6 (fun _ _ h => h))
  have HG6 := hid (hc6.obj HG5.out (fun h => h))
  have HA6 := hid (HA5.out.chg hc6 (fun _ _ h => h))
  have HB6 := hid (HB5.out.chg hc6 (fun _ _ h => h))
  have HK6 := hid hb6
  clear hc6 hb6 a0 a1 HC5 HG5 HA5 HB5
  have a0 := cell_of HG6.out 0
  have a1 := cell_of HG6.out 1
  simp at a0 a1
  go_wp2_with fail
  refine (rkeysB_any g srcs _ _ _ (HG.out.chg HC6.out (fun _ _ h => h)) (HSS.out.chg HC6.out (fun _ _ h => h))).mono ?_
  rintro e w7 ⟨hc7, v7, rfl, hb7⟩
  have HC7 := hid (HC6.out.trans hc7 (fun _ _ h => h))
  have HA7 := hid (HA6.out.chg hc7 (fun _ _ h => h))
  have HB7 := hid (HB6.out.chg hc7 (fun _ _ h => h))
  have HK7 := hid (HK6.out.chg hc7 (fun _ _ h => h))
  have HL7 := hid hb7
  clear hc7 hb7 a0 a1 HC6 HG6 HA6 HB6 HK6
  generalize checkS g srcs = cn at *
  go_wp2_with (first | (go_at_call 21; refine (sameB_eq _ HOK.out _ _ _ HA7.out HB7.out).mono ?_; rintro e w8 ⟨rfl, hc8⟩; have HC8 := hid (HC7.out.trans hc8 (fun _ _ h => h)); have HK8 := hid (HK7.out.chg hc8 (fun _ _ h => h)); have HL8 := hid (HL7.out.chg hc8 (fun _ _ h => h)); clear hc8) | (go_at_call 22; refine (sameK_eq _ _ _ _ _ HK8.out HL8.out).mono ?_; rintro e w9 ⟨rfl, hc9⟩; have HC9 := hid (HC8.out.trans hc9 (fun _ _ h => h)); clear hc9))
  go_ret
  exact ⟨rfl, HC9.out⟩
end Go.Proofs.YthglfmacjoecgaaGreatDoor
