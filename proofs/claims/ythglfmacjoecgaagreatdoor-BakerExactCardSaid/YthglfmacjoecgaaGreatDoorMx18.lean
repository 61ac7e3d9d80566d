/- Texts of the proof, one behind the other: The document's baker (apiaryref21) on the heap; its inputs read; The document's baker's settle walked; The document's baker's Next walked; The document's baker's next job in one piece; The document's baker's Next and Give without a build; its Start walked; The document's baker's Results walked; The document's baker at any build: none yet, one that can't be, one that goes on; Loads and '==' behind a guard; what a baker comes to behind any calls; Two like jobs are the same (apiaryref21.Same); Both bakers side by side, call by call. -/
import Derived.Test.YthglfmacjoecgaaGreatDoorMx16
import Derived.Test.YthglfmacjoecgaaGreatDoorMx17
import Derived.StillTailTactics
namespace Go.Proofs.YthglfmacjoecgaaGreatDoor
open Go.RowKit

/-- n truth values, one behind the other. -/
def boolB (n : Nat) (H : Nat → Bool) : Array Value := ((List.range n).map fun i => Value.bool (H i)).toArray
theorem boolB_size (n : Nat) (H : Nat → Bool) : (boolB n H).size = n := by simp [boolB]
theorem boolB_get (n : Nat) (H : Nat → Bool) (i : Nat) (hi : i < n) : (boolB n H)[i]? = some (.bool (H i)) := by
  simp [boolB, hi]
theorem boolB_congr {n : Nat} {H K : Nat → Bool} (h : ∀ i, i < n → H i = K i) : boolB n H = boolB n K := by
  unfold boolB
  congr 1
  exact List.map_congr_left (fun i hi => by rw [h i (List.mem_range.1 hi)])
theorem boolB_put (n : Nat) (H : Nat → Bool) (i : Nat) (b : Bool) (hi : i < n) : (boolB n H).setIfInBounds i (.bool b) = boolB n (fun j => if j = i then b else H j) := by
  apply Array.ext_getElem?
  intro k
  rw [Array.getElem?_setIfInBounds, boolB_size]
  by_cases hk : k < n
  · have hr := boolB_get n (fun j => if j = i then b else H j) k hk
    rw [hr]
    by_cases e : i = k
    · subst e; simp [hk]
    · rw [if_neg e, boolB_get n H k hk, if_neg (fun h => e h.symm)]
  · rw [Array.getElem?_eq_none (by rw [boolB_size]; omega)]
    by_cases e : i = k
    · omega
    · rw [if_neg e, Array.getElem?_eq_none (by rw [boolB_size]; omega)]
theorem madeBool (n : Nat) : madeCells (Value.bool false).cells (n * 1) = boolB n (fun _ => false) := by
  show madeCells #[.bool false] (n * 1) = _
  apply Array.ext_getElem?
  intro k
  by_cases hk : k < n
  · rw [boolB_get n _ k hk]
    simp [madeCells, hk, Nat.mod_one]
  · rw [Array.getElem?_eq_none (by rw [size_madeCells]; omega), Array.getElem?_eq_none (by rw [boolB_size]; omega)]
theorem run_makeBool (n : Nat) (hn : n ≤ 1000) (w : World) : (Instr.makeSlice 94 (.int .i64 n) (.int .i64 n)).run Tryz.prog w = .ok (.slice (some ⟨w.heap.size, 0, none⟩) n n) (w.alloc (.cells (boolB n (fun _ => false)) 4)) := by
  have q1 : (Tryz.prog.info? 4).map (fun i => (i.bytes, i.size)) = some (1, 1) := by kernel_rfl
  have q2 : (Tryz.prog.info? 4).bind (fun i => i.zero) = some (.bool false) := by kernel_rfl
  obtain ⟨i, hi⟩ : ∃ i, Tryz.prog.info? 4 = some i := by
    cases h : Tryz.prog.info? 4 with
    | none => rw [h] at q1; cases q1
    | some i => exact ⟨i, rfl⟩
  rw [hi] at q1 q2
  simp only [Option.map_some, Option.some.injEq, Prod.mk.injEq, Option.bind_some] at q1 q2
  have h := run_make (P := Tryz.prog) w 94 4 i (.bool false) Tryz.underlying94 hi q2 .i64 .i64 (n : Int) (n : Int) (by omega) (Int.le_refl _) (by rw [q1.1]; omega) (by omega)
  simp only [Int.toNat_natCast, q1.2] at h
  rw [h, madeBool]
theorem index_bool (hb n i : Nat) (h : i < n) (w : World) : (Instr.indexAt 94 (.slice (some ⟨hb, 0, none⟩) n n) (.int .i64 i)).run Tryz.prog w = .ok (.pointer (some ⟨hb, i, none⟩)) w := by
  have hs : ∀ w, (sizeOf 4).run Tryz.prog w = .ok 1 w := fun w => by kernel_rfl
  have e : (⟨hb, 0, none⟩ : Addr).add i = ⟨hb, i, none⟩ := by unfold Addr.add; split <;> simp_all
  simp [Instr.indexAt, run_underlying Tryz.underlying94, asIntOf, hs, h, e]

/-- What the document's baker has of each action. -/
def outR (g : GrR) (t : ThT) (i : Nat) : ResR := valT t (nameAt g i)
def hasR (g : GrR) (t : ThT) (i : Nat) : Bool := isT t (nameAt g i)
/-- Block u is the document's baker with a build, made since w0; blocks ob and hb are what it has. -/
structure IsRf (w0 w : World) (u ob hb : Nat) (sv av lv : Value) (iv : Nat → Value) (g : GrR) (srcs : List SrcR) (st : Nat) (t : ThT) : Prop where
  blk : w.heap[u]? = some (.cells #[sv, av, lv, .int .i64 st, .slice (some ⟨ob, 0, none⟩) g.acts.length g.acts.length, .slice (some ⟨hb, 0, none⟩) g.acts.length g.acts.length] 96 (0, 0))
  out : w.heap[ob]? = some (.cells (resB g.acts.length (outR g t)) 47 (0, 0))
  has : w.heap[hb]? = some (.cells (boolB g.acts.length (hasR g t)) 4 (0, 0))
  base : Chg (fun _ => False) w0 w
  lo : w0.heap.size ≤ u ∧ w0.heap.size ≤ ob ∧ w0.heap.size ≤ hb
  nm : NamesAt w0 sv g.srcs
  ac : ActsAt w0 av g.acts iv
  ls : SrcsAt w0 lv srcs
section
variable {w0 w w' : World} {u ob hb : Nat} {sv av lv : Value} {iv : Nat → Value} {g : GrR} {srcs : List SrcR} {st : Nat} {t : ThT}
theorem IsRf.ne (h : IsRf w0 w u ob hb sv av lv iv g srcs st t) : u ≠ ob ∧ u ≠ hb ∧ ob ≠ hb := by
  refine ⟨fun e => ?_, fun e => ?_, fun e => ?_⟩
  · have h1 := h.blk
    rw [e, h.out] at h1
    simp at h1
  · have h1 := h.blk
    rw [e, h.has] at h1
    simp at h1
  · have h1 := h.out
    rw [e, h.has] at h1
    simp at h1
theorem IsRf.keep (h : IsRf w0 w u ob hb sv av lv iv g srcs st t) {F : Nat → Prop} (hc : Chg F w w') (hu : ¬ F u) (ho : ¬ F ob) (hh : ¬ F hb) (hF : ∀ k, k < w0.heap.size → ¬ F k) : IsRf w0 w' u ob hb sv av lv iv g srcs st t :=
  ⟨hc.obj h.blk hu, hc.obj h.out ho, hc.obj h.has hh, h.base.trans hc (fun k hk e => hF k hk e), h.lo, h.nm, h.ac, h.ls⟩
theorem IsRf.same (h : IsRf w0 w u ob hb sv av lv iv g srcs st t) (hc : Chg (fun _ => False) w w') : IsRf w0 w' u ob hb sv av lv iv g srcs st t := h.keep hc (fun h => h) (fun h => h) (fun h => h) (fun _ _ h => h)
theorem IsRf.now (h : IsRf w0 w u ob hb sv av lv iv g srcs st t) : NamesAt w sv g.srcs ∧ ActsAt w av g.acts iv ∧ SrcsAt w lv srcs := ⟨h.nm.chg h.base (fun _ _ h => h), h.ac.chg h.base (fun _ _ h => h), h.ls.chg h.base (fun _ _ h => h)⟩
theorem IsRf.outAt (h : IsRf w0 w u ob hb sv av lv iv g srcs st t) {j : Nat} (hj : j < g.acts.length) : ∃ off, (∀ W, (Instr.indexAt 58 (.slice (some ⟨ob, 0, none⟩) g.acts.length g.acts.length) (.int .i64 j)).run Tryz.prog W = .ok (.pointer (some ⟨ob, off, none⟩)) W) ∧ off = j * 2 ∧ w.cell? ⟨ob, off, none⟩ = some (.int .i64 (outR g t j).1) ∧ w.cell? ⟨ob, off + 1, none⟩ = some (.string (outR g t j).2) := by
  refine ⟨j * 2, fun W => index_res ob _ j hj W, rfl, ?_, ?_⟩
  · rw [cell_of h.out]
    have := resB_get g.acts.length (outR g t) j 0 hj (by decide)
    simpa [resL] using this
  · rw [cell_of h.out]
    have := resB_get g.acts.length (outR g t) j 1 hj (by decide)
    simpa [resL] using this
theorem IsRf.hasAt (h : IsRf w0 w u ob hb sv av lv iv g srcs st t) {j : Nat} (hj : j < g.acts.length) : (∀ W, (Instr.indexAt 94 (.slice (some ⟨hb, 0, none⟩) g.acts.length g.acts.length) (.int .i64 j)).run Tryz.prog W = .ok (.pointer (some ⟨hb, j, none⟩)) W) ∧ w.cell? ⟨hb, j, none⟩ = some (.bool (hasR g t j)) := by
  refine ⟨fun W => index_bool hb _ j hj W, ?_⟩
  rw [cell_of h.has, boolB_get _ _ j hj]
theorem load_resK {b off : Nat} {c : Int} {x : ByteArray} (h0 : w.cell? ⟨b, off, none⟩ = some (.int .i64 c)) (h1 : w.cell? ⟨b, off + 1, none⟩ = some (.string x)) : (loadVar 47 ⟨b, off, none⟩).run Tryz.prog w = .ok (.agg #[.int .i64 c, .string x]) w := by
  have hr : w.rangeAt b off [.int .i64 c, .string x] := by
    intro j y hy
    match j, hy with
    | 0, hy => simp at hy; rw [← hy]; exact h0
    | 1, hy => simp at hy; rw [← hy]; exact h1
    | n + 2, hy => simp at hy
  have := run_loadVar_mid (P := Tryz.prog) w b off 47 _ _ hr Tryz.underlying47 rfl (by kernel_rfl)
  simpa using this
theorem load_bools {b off : Nat} {v : Value} (h : w.cell? ⟨b, off, none⟩ = some v) : (loadVar 94 ⟨b, off, none⟩).run Tryz.prog w = .ok v w := by
  simp [go_sem, h]
theorem load_boolK {b off : Nat} {v : Value} (h : w.cell? ⟨b, off, none⟩ = some v) : (loadVar 4 ⟨b, off, none⟩).run Tryz.prog w = .ok v w := by
  simp [go_sem, h]
theorem srcT_val {srcs : List SrcR} (hn : (srcs.map Prod.fst).Nodup) {k : Nat} (hk : k < srcs.length) : valT (srcT srcs) srcs[k].1 = (0, srcs[k].2) := by
  unfold valT
  rw [srcT_mem hn (List.getElem_mem hk)]
  rfl
def InPost (w : World) (t : ThT) (s : Nm) (e : Ending) (w' : World) : Prop := e = .returned (.tuple #[resW (valT t s), .bool (isT t s)]) ∧ Chg (fun _ => False) w w'
set_option maxRecDepth 100000 in
set_option maxHeartbeats 4000000 in
theorem rinput_any (h : IsRf w0 w u ob hb sv av lv iv g srcs st t) (hD : Done g srcs) (hT : TOK g srcs t) (s : Nm) (hs : s ∈ g.srcs ∨ ∃ j, j < g.acts.length ∧ nameAt g j = s) :
    Calls Tryz.prog 85 #[.pointer (some ⟨u, 0, none⟩), .string (bs s)] w (InPost w t s) := by
  obtain ⟨hn, ha, hl⟩ := h.now
  obtain ⟨lo, lc, rfl⟩ := hl.form
  have hll := hl.len
  have hmx := hl.rows.le
  unfold maxLen at hmx
  have HC1 := hid (al_chg w (.cells #[.int .i64 0, .string ByteArray.empty] 47))
  have HG1 := hid (heap_alloc_new' w (.cells #[.int .i64 0, .string ByteArray.empty] 47))
  have H := hid h
  have HD := hid hD
  have HT := hid hT
  have HS := hid hs
  have HL := hid hl
  clear h hD hT hs hn ha hl
  go_enter Tryz.func85, Tryz.ntmps85
  go_upto_region 2 with fail
  obtain ⟨W0, hW0⟩ : ∃ W0, W0 = w.alloc (.cells #[.int .i64 0, .string { data := #[] }] 47) := ⟨_, rfl⟩
  have hC1 := HC1.out
  have hG1 := HG1.out
  rw [show (ByteArray.empty : ByteArray) = { data := #[] } by rfl, ← hW0] at hC1 hG1
  rw [← hW0]
  obtain ⟨rb, hrb⟩ : ∃ rb, rb = w.heap.size := ⟨_, rfl⟩
  rw [← hrb] at hG1 ⊢
  have HC0 := hid hC1
  have HCW := hid hC1
  have HRW : Hid (∀ z, z < w.heap.size → ¬ z = rb) := hid (fun z hz e => by omega)
  have HG0 := hid hG1
  have H0 := hid (H.out.same hC1)
  have HRB : Hid (u ≠ rb ∧ ob ≠ rb ∧ hb ≠ rb) := hid (by
    have h1 := heap_lt H.out.blk; have h2 := heap_lt H.out.out; have h3 := heap_lt H.out.has
    omega)
  clear hC1 hG1 hW0 hrb HC1 HG1
  go_loopw [6] (fun i wr => ∃ k : Nat, k ≤ srcs.length ∧ i = .int .i64 k ∧ Chg (fun _ => False) W0 wr ∧ ∀ j (h : j < srcs.length), j < k → ¬ srcs[j].1 = s) (fun i _ => srcs.length - (intOf i).toNat)
  case atStart => exact ⟨0, Nat.zero_le _, rfl, Chg.refl _ _, fun j _ h => absurd h (Nat.not_lt_zero _)⟩
  case round =>
    obtain ⟨k, hk, rfl, hch, hall⟩ := hrel
    have HAL := hid hall
    have HC := hid hch
    have HW := hid (H0.out.same hch)
    have u0 := cell_of HW.out.blk 0
    have u1 := cell_of HW.out.blk 1
    have u2 := cell_of HW.out.blk 2
    have u4 := cell_of HW.out.blk 4
    have u5 := cell_of HW.out.blk 5
    simp at u0 u1 u2 u4 u5
    have hg := hch.obj HG0.out (fun h => h)
    have HGR := hid hg
    clear hall hch
    by_cases hkn : k < srcs.length
    · have hkn' : (k : Int) < srcs.length := by omega
      obtain ⟨bb, oo, hix, e0, e1, _⟩ := HW.out.now.2.2.ix k hkn
      have hse := bs_eq srcs[k].1 s
      by_cases he : srcs[k].1 = s
      · have hv := srcT_val HD.out.fit.nd hkn
        have hsm : s ∈ g.srcs := (HD.out.fit.mem s).1 (List.mem_map.2 ⟨_, List.getElem_mem hkn, he⟩)
        have hi := HT.out.srcIs HD.out hsm
        have hv2 : valT t s = (0, srcs[k].2) := by
          rw [← hv, he]
          unfold valT
          rw [HT.out.src s hsm]
        rw [decide_eq_true he] at hse
        have HV := hid hv2
        have HI := hid hi
        generalize srcs[k].1 = nm at *
        generalize srcs[k].2 = x at *
        clear hv hv2 hi hsm he HAL
        go_wp2_with (first | (guard_target =~ wpList _ _ _ (Oper.mk none (Op.store _ (Operand.tmp 4) _) _ _ _ _ :: _) _ _; refine wpList_store0 rfl 47 _ _ rfl rb _ #[.int .i64 0, .string x] rfl rfl hg (fun w => by kernel_rfl) rfl rfl ?_; intro x2 hk2 hs2 hc2; have HK2 := hid hk2; have HC2 := hid hc2; clear hk2 hs2 hc2))
        refine bodyPost_ret (v := .tuple #[.agg #[.int .i64 0, .string x], .bool true]) (results_cell2 Tryz.results85 _ _ rb rfl _ (load_resK (by rw [cell_of HK2.out]; rfl) (by rw [cell_of HK2.out]; rfl)) _ rfl) rfl ⟨?_, ?_⟩
        · rw [HV.out, HI.out]
          rfl
        · exact HCW.out.trans ((HC.out.mono (G := fun k => k = rb) (fun _ _ h => h.elim)).trans HC2.out (fun _ _ h => h)) (fun z hz e => HRW.out z hz e)
      · rw [decide_eq_false he] at hse
        have HE := hid he
        generalize srcs[k].2 = x at *
        clear he
        go_wp2_with fail
        go_roundw
        case rel => exact ⟨k + 1, by omega, by go_num, HC.out, fun j h hj => by rcases Nat.lt_or_eq_of_le (Nat.le_of_lt_succ hj) with h1 | rfl; exact HAL.out j h h1; exact HE.out⟩
        case measure => simp [intOf]; omega
    · obtain rfl : k = srcs.length := by omega
      have hns : s ∉ g.srcs := fun hm => by
        obtain ⟨q, hq, e⟩ := List.mem_map.1 ((HD.out.fit.mem s).2 hm)
        obtain ⟨j, hj, rfl⟩ := List.mem_iff_getElem.1 hq
        exact HAL.out j hj hj e
      obtain ⟨j, hj, hjn⟩ := HS.out.resolve_left hns
      have hpz : placeZ g s = (j : Int) := by unfold placeZ; rw [← hjn, HD.out.can.w.place hj]
      have HRA := hid (rat_any g s (.agg #[sv, av]) wr ⟨sv, av, iv, rfl, HW.out.now.1, HW.out.now.2.1⟩)
      rw [hpz] at HRA
      have HJN := hid hjn
      have HJ := hid hj
      clear hns hpz hjn HAL
      go_upto_region 7 with (go_at_call 91; refine HRA.out.mono ?_; rintro e w2 ⟨rfl, hc2⟩; have HC2 := hid hc2; clear hc2)
      have HW2 := hid (HW.out.same HC2.out)
      obtain ⟨off, hixo, _, o0, o1⟩ := HW2.out.outAt HJ.out
      obtain ⟨hixh, h0⟩ := HW2.out.hasAt HJ.out
      have hg2 := HC2.out.obj HGR.out (fun h => h)
      have u4b := cell_of HW2.out.blk 4
      have u5b := cell_of HW2.out.blk 5
      simp at u4b u5b
      have HOV : Hid (valT t s = ((outR g t j).1, (outR g t j).2)) := hid (by rw [← HJN.out]; rfl)
      have HHV : Hid (isT t s = hasR g t j) := hid (by rw [← HJN.out]; rfl)
      have hcd := (Chg.refl (fun _ => False) w2).drew
      have HG2 := hid (hcd.obj hg2 (fun h => h))
      generalize (outR g t j).1 = oc at *
      generalize (outR g t j).2 = ox at *
      generalize hasR g t j = oh at *
      clear u0 u1 u2 u4 u5 hg hg2 hcd
      have HF : Hid (∀ W, Chg (fun k => k = rb) w2 W → W.cell? ⟨u, 4, none⟩ = some (.slice (some ⟨ob, 0, none⟩) g.acts.length g.acts.length) ∧ W.cell? ⟨u, 5, none⟩ = some (.slice (some ⟨hb, 0, none⟩) g.acts.length g.acts.length) ∧ W.cell? ⟨ob, off, none⟩ = some (.int .i64 oc) ∧ W.cell? ⟨ob, off + 1, none⟩ = some (.string ox) ∧ W.cell? ⟨hb, j, none⟩ = some (.bool oh)) := hid (fun W hW => ⟨hW.cell u4b HRB.out.1, hW.cell u5b HRB.out.1, hW.cell o0 HRB.out.2.1, hW.cell o1 HRB.out.2.1, hW.cell h0 HRB.out.2.2⟩)
      clear u4b u5b o0 o1 h0
      refine wp_region_held_drew (S := fun W => Chg (fun k => k = rb) w2 W) (by kernel_rfl) ((Chg.refl _ w2).drew) (fun hd => ?_)
      refine wpAnyH_takeDK (i := 0) (v := .pointer (some ⟨u, 0, none⟩)) (some 43) rfl (by kernel_rfl) (by kernel_rfl) (by kernel_rfl) (by kernel_rfl) (fun _ _ _ h => h) (.inl ⟨by kernel_rfl, fun W _ => by kernel_rfl⟩) hd ?_
      refine wpAnyH_takeDK (i := 1) (v := .pointer (some ⟨u, 0, none⟩)) (some 44) rfl (by kernel_rfl) (by kernel_rfl) (by kernel_rfl) (by kernel_rfl) (fun _ _ _ h => h) (.inl ⟨by kernel_rfl, fun W _ => by kernel_rfl⟩) hd ?_
      refine wpAnyH_takeDK (i := 2) (v := .pointer (some ⟨u, 4, none⟩)) (some 45) rfl (by kernel_rfl) (by kernel_rfl) (by kernel_rfl) (by kernel_rfl) (fun _ _ _ h => h) (.inl ⟨by kernel_rfl, fun W _ => by kernel_rfl⟩) hd ?_
      refine wpAnyH_takeDK (i := 3) (v := .slice (some ⟨ob, 0, none⟩) g.acts.length g.acts.length) (some 46) rfl (by kernel_rfl) (by kernel_rfl) (by kernel_rfl) (by kernel_rfl) (fun _ _ _ h => h) (yieldsIf_load1K (by kernel_rfl) 58 (.tmp 45) (by kernel_rfl) u 4 _ (by kernel_rfl) (fun W hW => load_ress2 (HF.out W hW).1)) hd ?_
      refine wpAnyH_takeDK (i := 4) (v := .int .i64 j) (some 47) rfl (by kernel_rfl) (by kernel_rfl) (by kernel_rfl) (by kernel_rfl) (fun _ _ _ h => h) (.inl ⟨by kernel_rfl, fun W _ => by kernel_rfl⟩) hd ?_
      refine wpAnyH_takeDK (i := 5) (v := .pointer (some ⟨ob, off, none⟩)) (some 48) rfl (by kernel_rfl) (by kernel_rfl) (by kernel_rfl) (by kernel_rfl) (fun _ _ _ h => h) (yieldsIf_index (by kernel_rfl) 58 (.tmp 46) (.tmp 47) (by kernel_rfl) _ _ _ (by kernel_rfl) (by kernel_rfl) (fun W => hixo W)) hd ?_
      refine wpAnyH_takeDK (i := 6) (v := .agg #[.int .i64 oc, .string ox]) (some 49) rfl (by kernel_rfl) (by kernel_rfl) (by kernel_rfl) (by kernel_rfl) (fun _ _ _ h => h) (yieldsIf_load1K (by kernel_rfl) 47 (.tmp 48) (by kernel_rfl) ob off _ (by kernel_rfl) (fun W hW => load_resK (HF.out W hW).2.2.1 (HF.out W hW).2.2.2.1)) hd ?_
      refine wpAnyH_takeDK (i := 7) (v := .pointer (some ⟨u, 0, none⟩)) (some 50) rfl (by kernel_rfl) (by kernel_rfl) (by kernel_rfl) (by kernel_rfl) (fun _ _ _ h => h) (.inl ⟨by kernel_rfl, fun W _ => by kernel_rfl⟩) hd ?_
      refine wpAnyH_takeDK (i := 8) (v := .pointer (some ⟨u, 0, none⟩)) (some 51) rfl (by kernel_rfl) (by kernel_rfl) (by kernel_rfl) (by kernel_rfl) (fun _ _ _ h => h) (.inl ⟨by kernel_rfl, fun W _ => by kernel_rfl⟩) hd ?_
      refine wpAnyH_takeDK (i := 9) (v := .pointer (some ⟨u, 5, none⟩)) (some 52) rfl (by kernel_rfl) (by kernel_rfl) (by kernel_rfl) (by kernel_rfl) (fun _ _ _ h => h) (.inl ⟨by kernel_rfl, fun W _ => by kernel_rfl⟩) hd ?_
      refine wpAnyH_takeDK (i := 10) (v := .slice (some ⟨hb, 0, none⟩) g.acts.length g.acts.length) (some 53) rfl (by kernel_rfl) (by kernel_rfl) (by kernel_rfl) (by kernel_rfl) (fun _ _ _ h => h) (yieldsIf_load1K (by kernel_rfl) 94 (.tmp 52) (by kernel_rfl) u 5 _ (by kernel_rfl) (fun W hW => load_bools (HF.out W hW).2.1)) hd ?_
      refine wpAnyH_takeDK (i := 11) (v := .int .i64 j) (some 54) rfl (by kernel_rfl) (by kernel_rfl) (by kernel_rfl) (by kernel_rfl) (fun _ _ _ h => h) (.inl ⟨by kernel_rfl, fun W _ => by kernel_rfl⟩) hd ?_
      refine wpAnyH_takeDK (i := 12) (v := .pointer (some ⟨hb, j, none⟩)) (some 55) rfl (by kernel_rfl) (by kernel_rfl) (by kernel_rfl) (by kernel_rfl) (fun _ _ _ h => h) (yieldsIf_index (by kernel_rfl) 94 (.tmp 53) (.tmp 54) (by kernel_rfl) _ _ _ (by kernel_rfl) (by kernel_rfl) (fun W => hixh W)) hd ?_
      refine wpAnyH_takeDK (i := 13) (v := .bool oh) (some 56) rfl (by kernel_rfl) (by kernel_rfl) (by kernel_rfl) (by kernel_rfl) (fun _ _ _ h => h) (yieldsIf_load1K (by kernel_rfl) 4 (.tmp 55) (by kernel_rfl) hb j _ (by kernel_rfl) (fun W hW => load_boolK (HF.out W hW).2.2.2.2)) hd ?_
      try simp only [Act.put, List.setIfInBounds_toArray, List.set_cons_zero, List.set_cons_succ]
      refine wpAnyH_all (rs := [14]) (by kernel_rfl) (by simp) (fun i hi => ?_)
      obtain rfl : i = 14 := by simpa using hi
      refine wpOp_step rfl (fun K1 hK1 => ?_)
      refine Eq.mpr (if_pos (by kernel_rfl)) ?_
      refine wp_storeO 47 (.tmp 4) (.tmp 49) rfl rb 0 47 _ #[.int .i64 oc, .string ox] _ (by kernel_rfl) (by kernel_rfl) HG2.out (fun w => by kernel_rfl) (Nat.le_refl 2) rfl rfl ?_
      intro x2 hk2 hs2 hc2
      have HK2 := hid hk2
      have hd1 := hd.trans hc2 (fun _ _ h => h)
      refine hK1 _ _ ⟨hd1, ?_⟩
      refine wpAnyH_takeDK (i := 15) (v := .bool oh) (some 5) rfl (by kernel_rfl) (by kernel_rfl) (by kernel_rfl) (by kernel_rfl) (fun _ _ _ h => h) (.inl ⟨by kernel_rfl, fun W _ => by kernel_rfl⟩) hd1 ?_
      try simp only [Act.put, List.setIfInBounds_toArray]
      refine wpAnyH_done (by kernel_rfl) ?_ _
      have HC3 := hid hd1
      clear hk2 hs2 hc2 hd hd1
      go_wp2_with fail
      refine bodyPost_ret (v := .tuple #[.agg #[.int .i64 oc, .string ox], .bool oh]) (results_cell2 Tryz.results85 _ _ rb rfl _ (load_resK (by rw [cell_of HK2.out]; rfl) (by rw [cell_of HK2.out]; rfl)) _ rfl) rfl ⟨?_, ?_⟩
      · rw [HOV.out, HHV.out]
        rfl
      · exact HCW.out.trans (((HC.out.trans HC2.out (fun _ _ h => h)).mono (G := fun k => k = rb) (fun _ _ h => h.elim)).trans HC3.out (fun _ _ h => h)) (fun z hz e => HRW.out z hz e)
end
end Go.Proofs.YthglfmacjoecgaaGreatDoor
namespace Go.Proofs.YthglfmacjoecgaaGreatDoor
open Go.RowKit

section
variable {P : Program} {w : World} {o : Oper} {a : Act} {K : Act → World → Prop} {Q : Exit → Act → World → Prop}
theorem wp_store1 (t : TypeId) (x y : Operand) (hop : o.op = Op.store t x y) (b off : Nat) (T : TypeId) (c : Array Value) (v : Value) (hx : a.eval x = .pointer (some ⟨b, off, none⟩)) (hy : a.eval y = v) (hv : v.cells = #[v])
    (hb : w.heap[b]? = some (.cells c T (0, 0))) (hs : ∀ w, (sizeOf t).run P w = .ok 1 w) (hc : off < c.size) (h1 : v.oneCell' = true) (hd : o.dst = none)
    (h : ∀ w', w'.heap[b]? = some (.cells (c.setIfInBounds off v) T (0, 0)) → w'.heap.size = w.heap.size → Chg (fun k => k = b) w w' → K a w') : Oper.wp P o a w K Q := by
  have hst := run_storeCells_at P b off T [v] 0 c w hb (by simp; omega) (fun u hu => by simp at hu; rw [hu]; exact h1)
  have e : (c.toList.take (off + 0) ++ [v] ++ c.toList.drop (off + 0 + [v].length)).toArray = c.setIfInBounds off v := by
    apply Array.toList_inj.1
    simp [List.set_eq_take_append_cons_drop, hc]
  rw [e] at hst
  have hrun : (Instr.storeAt t (.pointer (some ⟨b, off, none⟩)) v).run P w = .ok () (w.setRow b (c.setIfInBounds off v)) := by
    simp [Instr.storeAt, Instr.sureAddr, storeVar, hs, hv, hst]
  unfold Oper.wp
  simp only [execOp, hop, Sem.run_bind, hx, hy, hrun, Result.andThen, Sem.run_pure, Oper.upon]
  rw [hd]
  exact h _ (setRow_heap w b c _ T _ hb) (by simp [World.setRow]) ((Chg.refl (fun k => k = b) w).setRow (fun _ => rfl) _)
theorem wp_storeN (t : TypeId) (x y : Operand) (hop : o.op = Op.store t x y) (b off : Nat) (T : TypeId) (c zc c' : Array Value) (hx : a.eval x = .pointer (some ⟨b, off, none⟩)) (hy : a.eval y = .agg zc)
    (hb : w.heap[b]? = some (.cells c T (0, 0))) (hs : ∀ w, (sizeOf t).run P w = .ok zc.size w) (hc : off + zc.size ≤ c.size) (h1 : zc.toList.all Value.oneCell' = true) (hc' : (c.toList.take off ++ zc.toList ++ c.toList.drop (off + zc.size)).toArray = c') (hd : o.dst = none)
    (h : ∀ w', w'.heap[b]? = some (.cells c' T (0, 0)) → w'.heap.size = w.heap.size → Chg (fun k => k = b) w w' → K a w') : Oper.wp P o a w K Q :=
  wp_storeO t x y hop b off T c zc c' hx hy hb hs hc h1 hc' (fun w' h2 h3 h4 => by rw [hd]; exact h w' h2 h3 h4)
theorem wp_allocO (k : Tmp) (hd : o.dst = some k) (t : TypeId) (hop : o.op = Op.alloc t) (zc : Array Value) (hr : (Instr.alloc t true (.tuple #[])).run P w = .ok (.pointer (some ⟨w.heap.size, 0, none⟩)) (w.alloc (.cells zc t)))
    (h : ∀ b w', b = w.heap.size → w'.heap[b]? = some (.cells zc t (0, 0)) → w'.heap.size = b + 1 → Chg (fun _ => False) w w' → K (a.put (some k) (.pointer (some ⟨b, 0, none⟩))) w') : Oper.wp P o a w K Q := by
  unfold Oper.wp
  rw [← hd] at h
  simp only [execOp, hop, Sem.run_bind, hr, Result.andThen, Sem.run_pure, Oper.upon]
  exact h _ _ rfl (heap_alloc_new w _) (by simp) ((Chg.refl _ w).alloc _)
theorem load_act3 {b off : Nat} {x y v : Value} (h0 : w.cell? ⟨b, off, none⟩ = some x) (h1 : w.cell? ⟨b, off + 1, none⟩ = some y) (h2 : w.cell? ⟨b, off + 2, none⟩ = some v) : (loadVar 43 ⟨b, off, none⟩).run Tryz.prog w = .ok (.agg #[x, y, v]) w := by
  have hr : w.rangeAt b off [x, y, v] := by
    intro j z hz
    match j, hz with
    | 0, hz => simp at hz; rw [← hz]; exact h0
    | 1, hz => simp at hz; rw [← hz]; exact h1
    | 2, hz => simp at hz; rw [← hz]; exact h2
    | n + 3, hz => simp at hz
  have := run_loadVar_mid (P := Tryz.prog) w b off 43 _ _ hr Tryz.underlying43 rfl (by kernel_rfl)
  simpa using this
end
section
variable {w0 w w' : World} {u ob hb : Nat} {sv av lv : Value} {iv : Nat → Value} {g : GrR} {srcs : List SrcR} {st : Nat} {t : ThT}
theorem index_int (gb n cap k : Nat) (h : k < n) (w : World) : (Instr.indexAt 75 (.slice (some ⟨gb, 0, none⟩) n cap) (.int .i64 k)).run Tryz.prog w = .ok (.pointer (some ⟨gb, k, none⟩)) w := by
  have hs : ∀ w, (sizeOf 3).run Tryz.prog w = .ok 1 w := fun w => by kernel_rfl
  have e : (⟨gb, 0, none⟩ : Addr).add k = ⟨gb, k, none⟩ := by unfold Addr.add; split <;> simp_all
  simp [Instr.indexAt, run_underlying Tryz.underlying75, asIntOf, hs, h, e]
/-- A row of the call's own lies where it lies. -/
theorem ints_fix {v : Value} {l : List Nat} (h : w.ownsRow 0 3 1 v l.length (l.map natV)) {F : Nat → Prop} (hF : ∀ k, v.ownBlock = some k → ¬ F k) (k : Nat) (hk : k < l.length) :
    ∃ ib io, (∀ W, (Instr.indexAt 75 v (.int .i64 k)).run Tryz.prog W = .ok (.pointer (some ⟨ib, io, none⟩)) W) ∧ ¬ F ib ∧ ∀ W, Chg F w W → W.cell? ⟨ib, io, none⟩ = some (.int .i64 l[k]) := by
  rcases h.2 with ⟨_, h0⟩ | ⟨gb, cap, cur, rfl, _⟩
  · omega
  have h1 := index_int gb l.length cap k hk
  refine ⟨gb, k, h1, hF gb rfl, fun W hW => ?_⟩
  obtain ⟨ib2, io2, h2, h3, _⟩ := (IntsAt.of_owns (hW.owns h hF)).ix k hk
  have h4 := (h1 W).symm.trans (h2 W)
  simp only [Result.ok.injEq, Value.pointer.injEq, Option.some.injEq, Addr.mk.injEq, and_true] at h4
  rw [show (⟨gb, k, none⟩ : Addr) = ⟨ib2, io2, none⟩ by rw [h4.1, h4.2]]
  exact h3
theorem IsRf.own (h : IsRf w0 w u ob hb sv av lv iv g srcs st t) {v : Value} {n : Nat} {xs : List Value} (ho : w.ownsRow 0 3 1 v n xs) : ∀ k, v.ownBlock = some k → ¬ (k = u ∨ k = ob ∨ k = hb) := by
  intro k hk e
  rcases ho.2 with ⟨rfl, _⟩ | ⟨b, cap, cur, rfl, _, hg, _⟩
  · cases hk
  · simp only [Value.ownBlock, Option.some.injEq] at hk
    subst hk
    rcases e with e | e | e
    · have h1 := h.blk; rw [← e, hg] at h1; simp at h1
    · have h1 := h.out; rw [← e, hg] at h1; simp at h1
    · have h1 := h.has; rw [← e, hg] at h1; simp at h1
theorem IsRf.congr (h : IsRf w0 w u ob hb sv av lv iv g srcs st t) {s : ThT} (he : ∀ j, j < g.acts.length → outR g t j = outR g s j ∧ hasR g t j = hasR g s j) : IsRf w0 w u ob hb sv av lv iv g srcs st s :=
  ⟨h.blk, by rw [← resB_congr (fun j hj => (he j hj).1)]; exact h.out, by rw [← boolB_congr (fun j hj => (he j hj).2)]; exact h.has, h.base, h.lo, h.nm, h.ac, h.ls⟩
theorem outR_put (hD : Done g srcs) (t : ThT) {i : Nat} (hi : i < g.acts.length) (r : ResR) (j : Nat) (hj : j < g.acts.length) : outR g (lput (nameAt g i) r t) j = if j = i then r else outR g t j := by
  unfold outR
  rw [valT_put]
  by_cases e : j = i
  · subst e; simp
  · rw [if_neg e, if_neg (fun h => e (hD.can.w.inj hj hi h))]
theorem hasR_put (hD : Done g srcs) (t : ThT) {i : Nat} (hi : i < g.acts.length) (r : ResR) (j : Nat) (hj : j < g.acts.length) : hasR g (lput (nameAt g i) r t) j = if j = i then true else hasR g t j := by
  unfold hasR
  rw [isT_put]
  by_cases e : j = i
  · subst e; simp
  · rw [if_neg e]
    have : nameAt g j ≠ nameAt g i := fun h => e (hD.can.w.inj hj hi h)
    simp [this]
/-- A result is put: first the row of results, then the row of truth values. -/
theorem IsRf.put (h : IsRf w0 w u ob hb sv av lv iv g srcs st t) (hD : Done g srcs) {i : Nat} (hi : i < g.acts.length) (r : ResR) {w1 w2 : World} (h1 : w1.heap[ob]? = some (.cells (resB g.acts.length (fun j => if j = i then r else outR g t j)) 47 (0, 0))) (hc1 : Chg (fun k => k = ob) w w1)
    (h2 : w2.heap[hb]? = some (.cells (boolB g.acts.length (fun j => if j = i then true else hasR g t j)) 4 (0, 0))) (hc2 : Chg (fun k => k = hb) w1 w2) : IsRf w0 w2 u ob hb sv av lv iv g srcs st (lput (nameAt g i) r t) := by
  have hne := h.ne
  have hlo := h.lo
  refine ⟨hc2.obj (hc1.obj h.blk hne.1) hne.2.1, ?_, ?_, ?_, h.lo, h.nm, h.ac, h.ls⟩
  · rw [resB_congr (fun j hj => outR_put hD t hi r j hj)]
    exact hc2.obj h1 hne.2.2
  · rw [boolB_congr (fun j hj => hasR_put hD t hi r j hj)]
    exact h2
  · exact (h.base.trans hc1 (fun k hk e => by omega)).trans hc2 (fun k hk e => by omega)
theorem IsRf.setSt (h : IsRf w0 w u ob hb sv av lv iv g srcs st t) {st' : Nat} {w1 : World} (h1 : w1.heap[u]? = some (.cells #[sv, av, lv, .int .i64 st', .slice (some ⟨ob, 0, none⟩) g.acts.length g.acts.length, .slice (some ⟨hb, 0, none⟩) g.acts.length g.acts.length] 96 (0, 0))) (hc : Chg (fun k => k = u) w w1) : IsRf w0 w1 u ob hb sv av lv iv g srcs st' t := by
  have hne := h.ne
  have hlo := h.lo
  exact ⟨h1, hc.obj h.out (fun e => hne.1 e.symm), hc.obj h.has (fun e => hne.2.1 e.symm), h.base.trans hc (fun k hk e => by omega), h.lo, h.nm, h.ac, h.ls⟩
/-- What the first inputs of an action do to it. -/
def failTo (nm : Nm) (ins : List Nm) (t : ThT) : ThT := if ins.any (failT t) then lput nm depR t else t
theorem failTo_val {nm : Nm} {ins : List Nm} {t : ThT} {s : Nm} (h : s ≠ nm) : valT (failTo nm ins t) s = valT t s ∧ isT (failTo nm ins t) s = isT t s := by
  unfold failTo
  split
  · rw [valT_put, isT_put, if_neg h]
    simp [h]
  · exact ⟨rfl, rfl⟩
theorem failTo_tok (hD : Done g srcs) (h : TOK g srcs t) {i : Nat} (hi : i < g.acts.length) (ins : List Nm) : TOK g srcs (failTo (nameAt g i) ins t) := by
  unfold failTo
  split
  · exact h.put hD hi _
  · exact h
theorem failTo_all {i : Nat} (hi : i < g.acts.length) (t : ThT) : failTo (nameAt g i) g.acts[i].ins t = settle1 g t i := by
  unfold failTo settle1 failI
  rw [insAt_lt g i hi]
/-- One input more. -/
theorem failTo_step (_hD : Done g srcs) {i : Nat} (hi : i < g.acts.length) (t : ThT) {q : Nat} (hq : q < g.acts[i].ins.length) (hf : failT t g.acts[i].ins[q] = false) : failTo (nameAt g i) (g.acts[i].ins.take (q + 1)) t = failTo (nameAt g i) (g.acts[i].ins.take q) t := by
  unfold failTo
  rw [List.take_succ_eq_append_getElem hq, List.any_append]
  simp [hf]
theorem failTo_hit (hD : Done g srcs) {i : Nat} (hi : i < g.acts.length) (t : ThT) {q : Nat} (hq : q < g.acts[i].ins.length) (hf : failT t g.acts[i].ins[q] = true) : ∀ j, j < g.acts.length →
    outR g (lput (nameAt g i) depR (failTo (nameAt g i) (g.acts[i].ins.take q) t)) j = outR g (failTo (nameAt g i) (g.acts[i].ins.take (q + 1)) t) j ∧ hasR g (lput (nameAt g i) depR (failTo (nameAt g i) (g.acts[i].ins.take q) t)) j = hasR g (failTo (nameAt g i) (g.acts[i].ins.take (q + 1)) t) j := by
  intro j hj
  have e : failTo (nameAt g i) (g.acts[i].ins.take (q + 1)) t = lput (nameAt g i) depR t := by
    unfold failTo
    rw [List.take_succ_eq_append_getElem hq, List.any_append]
    simp [hf]
  rw [e, outR_put hD _ hi _ j hj, outR_put hD _ hi _ j hj, hasR_put hD _ hi _ j hj, hasR_put hD _ hi _ j hj]
  by_cases h : j = i
  · simp [h]
  · simp only [if_neg h]
    unfold outR hasR
    have hne : nameAt g j ≠ nameAt g i := fun h2 => h (hD.can.w.inj hj hi h2)
    exact failTo_val hne
def RfPost (w0 w : World) (u ob hb : Nat) (sv av lv : Value) (iv : Nat → Value) (g : GrR) (srcs : List SrcR) (st : Nat) (t : ThT) (w' : World) : Prop := Chg (fun k => k = u ∨ k = ob ∨ k = hb) w w' ∧ IsRf w0 w' u ob hb sv av lv iv g srcs st t
set_option maxRecDepth 100000 in
set_option maxHeartbeats 8000000 in
theorem rsettle_any (h : IsRf w0 w u ob hb sv av lv iv g srcs st t) (hD : Done g srcs) (hT : TOK g srcs t) :
    Calls Tryz.prog 83 #[.pointer (some ⟨u, 0, none⟩)] w (Rets (.tuple #[]) (RfPost w0 w u ob hb sv av lv iv g srcs (if (settleL g (orderR g) t).length = g.srcs.length + g.acts.length then 2 else st) (settleL g (orderR g) t))) := by
  generalize hst2 : (if (settleL g (orderR g) t).length = g.srcs.length + g.acts.length then 2 else st) = st2
  have HST2 := hid hst2
  clear hst2
  obtain ⟨hn, ha, hl⟩ := h.now
  obtain ⟨o1, c1, rfl⟩ := hn.form
  obtain ⟨o2, c2, rfl⟩ := ha.form
  have hmx := ha.rows.le
  unfold maxLen at hmx
  have hor := rorderL_any g (.agg #[.slice o1 g.srcs.length c1, .slice o2 g.acts.length c2]) w ⟨_, _, iv, rfl, hn, ha⟩
  rw [show ordR g = orderR g from if_pos (can_iff.2 hD.can)] at hor
  unfold IntsPost at hor
  have HOR := hid hor
  have u0 := cell_of h.blk 0
  have u1 := cell_of h.blk 1
  simp at u0 u1
  have H := hid h
  have HD := hid hD
  have HT := hid hT
  have HOD := hid (orderR_ordd g)
  have hol : (orderR g).length ≤ g.acts.length := (orderR_ordd g).le
  clear h hD hT hn ha hl hor
  go_enter Tryz.func83, Tryz.ntmps83
  go_upto_region 1 with (go_at_call 84; refine HOR.out.mono ?_; rintro e w2 ⟨hc2, ov, rfl, ho2⟩; have HC2 := hid hc2; have HO2 := hid ho2; clear hc2 ho2)
  obtain ⟨oo, oc, rfl⟩ := (IntsAt.of_owns HO2.out).form
  have hlo := (IntsAt.of_owns HO2.out).len
  have H2 := hid (H.out.same HC2.out)
  have HIX := hid (ints_fix (F := fun k => k = u ∨ k = ob ∨ k = hb) HO2.out (H2.out.own HO2.out))
  generalize hord : orderR g = ord at *
  have HORD := hid hord
  clear hord u0 u1 HOR
  go_wp2_with fail
  go_loopw [3] (fun i wr => ∃ k : Nat, k ≤ ord.length ∧ i = .int .i64 k ∧ Chg (fun k => k = u ∨ k = ob ∨ k = hb) w2 wr ∧ IsRf w0 wr u ob hb (.slice o1 g.srcs.length c1) (.slice o2 g.acts.length c2) lv iv g srcs st (settleL g (ord.take k) t)) (fun i _ => ord.length - (intOf i).toNat)
  case atStart => exact ⟨0, Nat.zero_le _, rfl, Chg.refl _ _, H2.out⟩
  case round =>
    obtain ⟨k, hk, rfl, hch, hrf⟩ := hrel
    have HC := hid hch
    have HR := hid hrf
    have HTK : Hid (TOK g srcs (settleL g (ord.take k) t)) := hid (TOK.settleL HD.out _ (fun i hi => HOD.out.lt i (List.mem_of_mem_take hi)) HT.out)
    clear hch hrf
    by_cases hkn : k < ord.length
    · have hkn' : (k : Int) < ord.length := by omega
      obtain ⟨ib, io, hix0, hib, hic⟩ := HIX.out k hkn
      have hin := HOD.out.lt _ (List.getElem_mem hkn)
      have HSUP : Hid (∀ s ∈ insAt g ord[k], s ≠ nameAt g ord[k] ∧ (s ∈ g.srcs ∨ ∃ j, j < g.acts.length ∧ nameAt g j = s)) := hid (fun s hs => by
        rcases HOD.out.sup k hkn s hs with h1 | ⟨j, hj, h1⟩
        · exact ⟨fun e => HD.out.can.w.apart hin (e ▸ h1), .inl h1⟩
        · have hjl := HOD.out.lt _ (List.getElem_mem (show j < ord.length by omega))
          refine ⟨fun e => ?_, .inr ⟨_, hjl, h1⟩⟩
          have e2 := HD.out.can.w.inj hjl hin (h1.trans e)
          have e3 := (List.getElem_inj HOD.out.nd).1 e2
          omega)
      have HST := hid (settle_take (g := g) t hkn)
      have HIC := hid hic
      have HIB0 : Hid (ib ≠ ob ∧ ib ≠ hb) := hid ⟨fun e => hib (.inr (.inl e)), fun e => hib (.inr (.inr e))⟩
      have hic1 := hic wr HC.out
      have hu0 := cell_of HR.out.blk 0
      have hu1 := cell_of HR.out.blk 1
      simp at hu0 hu1
      generalize ord[k] = i at *
      generalize settleL g (ord.take k) t = t' at *
      obtain ⟨bb, bo, hix, hlt, e0, e1, e2, hns, hw1, hw2⟩ := HR.out.now.2.1.at i hin
      obtain ⟨oi, ci, hiv⟩ := hns.form
      rw [hiv] at e1 hns
      have hin' : (i : Int) < g.acts.length := by omega
      have HIN := hid hin
      have HFS := hid (fun q hq hf => failTo_step HD.out hin t' (q := q) hq hf)
      have HFH := hid (fun q hq hf => failTo_hit HD.out hin t' (q := q) hq hf)
      have HFA := hid (failTo_all hin t')
      have HFT := hid (fun l => failTo_tok HD.out HTK.out hin l)
      have hsup := HSUP.out
      rw [insAt_lt g i hin] at hsup
      have HSP := hid hsup
      have HNSF := hid (fun (W : World) (T : ThT) (hW : IsRf w0 W u ob hb (.slice o1 g.srcs.length c1) (.slice o2 g.acts.length c2) lv iv g srcs st T) => show NamesAt W (.slice oi g.acts[i].ins.length ci) g.acts[i].ins from by
        obtain ⟨_, _, _, _, _, _, _, hns2, _⟩ := hW.now.2.1.at i hin
        rw [hiv] at hns2
        exact hns2)
      clear hw1 hw2 hlt hns hic hib hiv hsup HSUP
      generalize hins : g.acts[i].ins = ins at *
      generalize g.acts[i].name = anm at *
      generalize g.acts[i].code = acd at *
      have HINS := hid hins
      clear hins
      go_upto_region 4 with fail
      have HF : Hid (∀ W, Chg (fun _ => False) wr W → W.cell? ⟨u, 1, none⟩ = some (.slice o2 g.acts.length c2) ∧ W.cell? ⟨ib, io, none⟩ = some (.int .i64 i) ∧ W.cell? ⟨bb, bo, none⟩ = some (.string (bs anm)) ∧ W.cell? ⟨bb, bo + 1, none⟩ = some (.slice oi ins.length ci) ∧ W.cell? ⟨bb, bo + 2, none⟩ = some (.string (bs acd))) := hid (fun W hW => ⟨hW.cell hu1 (fun h => h), hW.cell hic1 (fun h => h), hW.cell e0 (fun h => h), hW.cell e1 (fun h => h), hW.cell e2 (fun h => h)⟩)
      refine wp_region_held_drew (S := fun W => Chg (fun _ => False) wr W) (by kernel_rfl) ((Chg.refl _ wr).drew) (fun hd => ?_)
      refine wpAnyH_takeDK (i := 0) (v := .pointer (some ⟨u, 0, none⟩)) (some 21) rfl (by kernel_rfl) (by kernel_rfl) (by kernel_rfl) (by kernel_rfl) (fun _ _ _ h => h) (.inl ⟨by kernel_rfl, fun W _ => by kernel_rfl⟩) hd ?_
      refine wpAnyH_takeDK (i := 1) (v := .pointer (some ⟨u, 0, none⟩)) (some 22) rfl (by kernel_rfl) (by kernel_rfl) (by kernel_rfl) (by kernel_rfl) (fun _ _ _ h => h) (.inl ⟨by kernel_rfl, fun W _ => by kernel_rfl⟩) hd ?_
      refine wpAnyH_takeDK (i := 2) (v := .pointer (some ⟨u, 0, none⟩)) (some 23) rfl (by kernel_rfl) (by kernel_rfl) (by kernel_rfl) (by kernel_rfl) (fun _ _ _ h => h) (.inl ⟨by kernel_rfl, fun W _ => by kernel_rfl⟩) hd ?_
      refine wpAnyH_takeDK (i := 3) (v := .pointer (some ⟨u, 1, none⟩)) (some 24) rfl (by kernel_rfl) (by kernel_rfl) (by kernel_rfl) (by kernel_rfl) (fun _ _ _ h => h) (.inl ⟨by kernel_rfl, fun W _ => by kernel_rfl⟩) hd ?_
      refine wpAnyH_takeDK (i := 4) (v := .slice o2 g.acts.length c2) (some 25) rfl (by kernel_rfl) (by kernel_rfl) (by kernel_rfl) (by kernel_rfl) (fun _ _ _ h => h) (yieldsIf_load1K (by kernel_rfl) 23 (.tmp 24) (by kernel_rfl) u 1 _ (by kernel_rfl) (fun W hW => load_acts (HF.out W hW).1)) hd ?_
      refine wpAnyH_takeDK (i := 5) (v := .slice oo ord.length oc) (some 26) rfl (by kernel_rfl) (by kernel_rfl) (by kernel_rfl) (by kernel_rfl) (fun _ _ _ h => h) (.inl ⟨by kernel_rfl, fun W _ => by kernel_rfl⟩) hd ?_
      refine wpAnyH_takeDK (i := 6) (v := .int .i64 k) (some 27) rfl (by kernel_rfl) (by kernel_rfl) (by kernel_rfl) (by kernel_rfl) (fun _ _ _ h => h) (.inl ⟨by kernel_rfl, fun W _ => by kernel_rfl⟩) hd ?_
      refine wpAnyH_takeDK (i := 7) (v := .pointer (some ⟨ib, io, none⟩)) (some 28) rfl (by kernel_rfl) (by kernel_rfl) (by kernel_rfl) (by kernel_rfl) (fun _ _ _ h => h) (yieldsIf_index (by kernel_rfl) 75 (.tmp 26) (.tmp 27) (by kernel_rfl) _ _ _ (by kernel_rfl) (by kernel_rfl) (fun W => hix0 W)) hd ?_
      refine wpAnyH_takeDK (i := 8) (v := .int .i64 i) (some 29) rfl (by kernel_rfl) (by kernel_rfl) (by kernel_rfl) (by kernel_rfl) (fun _ _ _ h => h) (yieldsIf_load1K (by kernel_rfl) 3 (.tmp 28) (by kernel_rfl) ib io _ (by kernel_rfl) (fun W hW => load_int (HF.out W hW).2.1)) hd ?_
      refine wpAnyH_takeDK (i := 9) (v := .pointer (some ⟨bb, bo, none⟩)) (some 30) rfl (by kernel_rfl) (by kernel_rfl) (by kernel_rfl) (by kernel_rfl) (fun _ _ _ h => h) (yieldsIf_index (by kernel_rfl) 23 (.tmp 25) (.tmp 29) (by kernel_rfl) _ _ _ (by kernel_rfl) (by kernel_rfl) (fun W => hix W)) hd ?_
      refine wpAnyH_takeDK (i := 10) (v := .agg #[.string (bs anm), .slice oi ins.length ci, .string (bs acd)]) (some 31) rfl (by kernel_rfl) (by kernel_rfl) (by kernel_rfl) (by kernel_rfl) (fun _ _ _ h => h) (yieldsIf_load1K (by kernel_rfl) 43 (.tmp 30) (by kernel_rfl) bb bo _ (by kernel_rfl) (fun W hW => load_act3 (HF.out W hW).2.2.1 (HF.out W hW).2.2.2.1 (HF.out W hW).2.2.2.2)) hd ?_
      try simp only [Act.put, List.setIfInBounds_toArray, List.set_cons_zero, List.set_cons_succ]
      refine wpAnyH_all (rs := [11]) (by kernel_rfl) (by simp) (fun i hi => ?_)
      obtain rfl : i = 11 := by simpa using hi
      refine wpOp_step rfl (fun K1 hK1 => ?_)
      refine Eq.mpr (if_pos (by kernel_rfl)) ?_
      refine wp_allocO 4 rfl 43 rfl #[.string { data := #[] }, .slice none 0 0, .string { data := #[] }] (by kernel_rfl) ?_
      intro ba x5 hba hk5 hs5 hc5
      have hd1 := hd.trans hc5 (fun _ _ h => h)
      refine hK1 _ _ ⟨hd1, ?_⟩
      try simp only [Act.put, List.setIfInBounds_toArray, List.set_cons_zero, List.set_cons_succ]
      refine wpAnyH_all (rs := [12]) (by kernel_rfl) (by simp) (fun i hi => ?_)
      obtain rfl : i = 12 := by simpa using hi
      refine wpOp_step rfl (fun K2 hK2 => ?_)
      refine Eq.mpr (if_pos (by kernel_rfl)) ?_
      refine wp_storeN 43 (.tmp 4) (.tmp 31) rfl ba 0 43 _ #[.string (bs anm), .slice oi ins.length ci, .string (bs acd)] _ (by kernel_rfl) (by kernel_rfl) hk5 (fun w => by kernel_rfl) (Nat.le_refl 3) rfl rfl rfl ?_
      intro W5 k5 hs6 hc6
      have hd2 := hd1.trans hc6 (fun z hz e => by rw [e, hba] at hz; exact absurd hz (Nat.lt_irrefl _))
      refine hK2 _ _ ⟨hd2, ?_⟩
      try simp only [Act.put, List.setIfInBounds_toArray, List.set_cons_zero, List.set_cons_succ, Array.toArray_toList]
      refine wpAnyH_done (by kernel_rfl) ?_ _
      have hal : Chg (fun _ => False) wr W5 := hd2
      replace hba : ba = wr.heap.size := hba
      have HBA : Hid (¬ (ba = u ∨ ba = ob ∨ ba = hb)) := hid (by have h1 := heap_lt HR.out.blk; have h2 := heap_lt HR.out.out; have h3 := heap_lt HR.out.has; omega)
      have HK5 := hid k5
      have HB5 := hid (HR.out.same hal)
      have HC5 := hid (HC.out.trans hal (fun _ _ h => h.elim))
      have HIX0 := hid hix0
      clear hal k5 hba hd hd1 hd2 hs5 hs6 hk5 hc5 hc6 HF hix hix0 e0 e1 e2 hic1 hu0 hu1
      go_wp2_with fail
      go_loopw [5] (fun i5 wr => ∃ q : Nat, q ≤ ins.length ∧ i5 = .int .i64 q ∧ Chg (fun k => k = u ∨ k = ob ∨ k = hb) W5 wr ∧ IsRf w0 wr u ob hb (.slice o1 g.srcs.length c1) (.slice o2 g.acts.length c2) lv iv g srcs st (failTo (nameAt g i) (ins.take q) t')) (fun i5 _ => ins.length - (intOf i5).toNat)
      case atStart => exact ⟨0, Nat.zero_le _, rfl, Chg.refl _ _, HB5.out⟩
      case round =>
        obtain ⟨q, hq, rfl, hcq, hrq⟩ := hrel
        have HCQ := hid hcq
        have HRQ := hid hrq
        have a1 := cell_of (hcq.obj HK5.out HBA.out) 1
        simp at a1
        have hnq := HNSF.out _ _ hrq
        have hnl := hnq.len
        have hnm := hnq.le
        unfold maxLen at hnm
        clear hcq hrq
        by_cases hqn : q < ins.length
        · have hqn' : (q : Int) < ins.length := by omega
          obtain ⟨na, hixn, n0, _⟩ := hnq.ix q hqn
          obtain ⟨hs1, hs2⟩ := HSP.out _ (List.getElem_mem hqn)
          have hval := failTo_val (ins := ins.take q) (t := t') hs1
          have hip := rinput_any HRQ.out HD.out (HFT.out (ins.take q)) ins[q] hs2
          unfold InPost at hip
          rw [hval.1, hval.2] at hip
          have HFSq := hid (HFS.out q hqn)
          have HFHq := hid (HFH.out q hqn)
          generalize ins[q] = s at *
          have hft : failT t' s = decide ((valT t' s).1 ≠ 0) := rfl
          have hfi : failT t' s = true → isT t' s = true := fail_is
          rw [hft] at hfi
          rw [hft] at HFSq HFHq
          obtain ⟨c, hc⟩ : ∃ c, c = (valT t' s).1 := ⟨_, rfl⟩
          obtain ⟨x, hx⟩ : ∃ x, x = (valT t' s).2 := ⟨_, rfl⟩
          rw [show resW (valT t' s) = .agg #[.int .i64 c, .string x] by unfold resW; rw [hc, hx]] at hip
          rw [← hc] at hfi HFSq HFHq
          generalize isT t' s = B at *
          have HIP := hid hip
          have HFI := hid hfi
          clear hip hfi hft hc hx hval hs1 hs2 hnq
          go_upto_region 9 with (go_at_call 85; refine HIP.out.mono ?_; rintro e w7 ⟨rfl, hc7⟩; have HC7 := hid hc7; clear hc7)
          obtain ⟨W7, hW7⟩ : ∃ W7, W7 = w7.alloc (.cells #[.int .i64 c, .string x] 47) := ⟨_, rfl⟩
          have hal7 : Chg (fun _ => False) w7 W7 := hW7 ▸ (Chg.refl _ w7).alloc _
          have k7 : W7.heap[w7.heap.size]? = some (.cells #[.int .i64 c, .string x] 47 (0, 0)) := hW7 ▸ heap_alloc_new' w7 _
          rw [← hW7]
          have b0 := cell_of k7 0
          simp at b0
          obtain ⟨rb, hrb⟩ : ∃ rb, rb = w7.heap.size := ⟨_, rfl⟩
          rw [← hrb] at b0 ⊢
          have HR7 := hid (HRQ.out.same (HC7.out.trans hal7 (fun _ _ h => h)))
          have HCQ7 := hid (HCQ.out.trans (HC7.out.trans hal7 (fun _ _ h => h)) (fun _ _ h => h.elim))
          clear hW7 hal7 k7 hrb a1 n0 hixn hnl HIP
          by_cases hc0 : c = 0
          · have d0 : (c != 0) = false := by rw [bne_eq_false_iff_eq]; exact hc0
            have hfq := HFSq.out (by simp [hc0])
            have HFQ := hid hfq
            have hr7 := HR7.out
            rw [← HFQ.out] at hr7
            have HR8 := hid hr7
            clear hc0 hfq hr7
            cases B with
            | true =>
              go_wp2_with fail
              go_roundw
              case rel => exact ⟨q + 1, by omega, by go_num, HCQ7.out, HR8.out⟩
              case measure => simp [intOf]; omega
            | false =>
              go_wp2_with fail
              go_roundw
              case rel => exact ⟨q + 1, by omega, by go_num, HCQ7.out, HR8.out⟩
              case measure => simp [intOf]; omega
          · have d0 : (c != 0) = true := by rw [bne_iff_ne]; exact hc0
            obtain rfl : B = true := HFI.out (by simp [hc0])
            have HFQ := hid (HFHq.out (by simp [hc0]))
            have hu4 := cell_of HR7.out.blk 4
            have hu5 := cell_of HR7.out.blk 5
            simp at hu4 hu5
            have HNE := hid HR7.out.ne
            have hic7 := HIC.out W7 (HC5.out.trans HCQ7.out (fun _ _ h => h))
            have HIB : Hid (ib ≠ ob ∧ ib ≠ hb) := hid (HIB0.out)
            have HOUT := hid HR7.out.out
            have HHAS := hid HR7.out.has
            have hixo := index_res ob g.acts.length i HIN.out
            have hixh := index_bool hb g.acts.length i HIN.out
            clear hc0
            go_upto_region 10 with fail
            have HF : Hid (∀ W, Chg (fun k => k = ob) W7 W → W.cell? ⟨u, 4, none⟩ = some (.slice (some ⟨ob, 0, none⟩) g.acts.length g.acts.length) ∧ W.cell? ⟨ib, io, none⟩ = some (.int .i64 i) ∧ W.cell? ⟨u, 5, none⟩ = some (.slice (some ⟨hb, 0, none⟩) g.acts.length g.acts.length)) := hid (fun W hW => ⟨hW.cell hu4 HNE.out.1, hW.cell hic7 HIB.out.1, hW.cell hu5 HNE.out.1⟩)
            clear hu4 hu5 hic7
            refine wp_region_held_drew (S := fun W => Chg (fun k => k = ob) W7 W) (by kernel_rfl) ((Chg.refl _ W7).drew) (fun hd => ?_)
            refine wpAnyH_takeDK (i := 0) (v := .pointer (some ⟨u, 0, none⟩)) (some 55) rfl (by kernel_rfl) (by kernel_rfl) (by kernel_rfl) (by kernel_rfl) (fun _ _ _ h => h) (.inl ⟨by kernel_rfl, fun W _ => by kernel_rfl⟩) hd ?_
            refine wpAnyH_takeDK (i := 1) (v := .pointer (some ⟨u, 0, none⟩)) (some 56) rfl (by kernel_rfl) (by kernel_rfl) (by kernel_rfl) (by kernel_rfl) (fun _ _ _ h => h) (.inl ⟨by kernel_rfl, fun W _ => by kernel_rfl⟩) hd ?_
            refine wpAnyH_takeDK (i := 2) (v := .pointer (some ⟨u, 4, none⟩)) (some 57) rfl (by kernel_rfl) (by kernel_rfl) (by kernel_rfl) (by kernel_rfl) (fun _ _ _ h => h) (.inl ⟨by kernel_rfl, fun W _ => by kernel_rfl⟩) hd ?_
            refine wpAnyH_takeDK (i := 3) (v := .slice (some ⟨ob, 0, none⟩) g.acts.length g.acts.length) (some 58) rfl (by kernel_rfl) (by kernel_rfl) (by kernel_rfl) (by kernel_rfl) (fun _ _ _ h => h) (yieldsIf_load1K (by kernel_rfl) 58 (.tmp 57) (by kernel_rfl) u 4 _ (by kernel_rfl) (fun W hW => load_ress2 (HF.out W hW).1)) hd ?_
            refine wpAnyH_takeDK (i := 4) (v := .slice oo ord.length oc) (some 59) rfl (by kernel_rfl) (by kernel_rfl) (by kernel_rfl) (by kernel_rfl) (fun _ _ _ h => h) (.inl ⟨by kernel_rfl, fun W _ => by kernel_rfl⟩) hd ?_
            refine wpAnyH_takeDK (i := 5) (v := .int .i64 k) (some 60) rfl (by kernel_rfl) (by kernel_rfl) (by kernel_rfl) (by kernel_rfl) (fun _ _ _ h => h) (.inl ⟨by kernel_rfl, fun W _ => by kernel_rfl⟩) hd ?_
            refine wpAnyH_takeDK (i := 6) (v := .pointer (some ⟨ib, io, none⟩)) (some 61) rfl (by kernel_rfl) (by kernel_rfl) (by kernel_rfl) (by kernel_rfl) (fun _ _ _ h => h) (yieldsIf_index (by kernel_rfl) 75 (.tmp 59) (.tmp 60) (by kernel_rfl) _ _ _ (by kernel_rfl) (by kernel_rfl) (fun W => HIX0.out W)) hd ?_
            refine wpAnyH_takeDK (i := 7) (v := .int .i64 i) (some 62) rfl (by kernel_rfl) (by kernel_rfl) (by kernel_rfl) (by kernel_rfl) (fun _ _ _ h => h) (yieldsIf_load1K (by kernel_rfl) 3 (.tmp 61) (by kernel_rfl) ib io _ (by kernel_rfl) (fun W hW => load_int (HF.out W hW).2.1)) hd ?_
            refine wpAnyH_takeDK (i := 8) (v := .agg #[.int .i64 34, .string { data := #[] }]) (some 63) rfl (by kernel_rfl) (by kernel_rfl) (by kernel_rfl) (by kernel_rfl) (fun _ _ _ h => h) (.inl ⟨by kernel_rfl, fun W _ => by kernel_rfl⟩) hd ?_
            refine wpAnyH_takeDK (i := 9) (v := .pointer (some ⟨ob, i * 2, none⟩)) (some 64) rfl (by kernel_rfl) (by kernel_rfl) (by kernel_rfl) (by kernel_rfl) (fun _ _ _ h => h) (yieldsIf_index (by kernel_rfl) 58 (.tmp 58) (.tmp 62) (by kernel_rfl) _ _ _ (by kernel_rfl) (by kernel_rfl) (fun W => hixo W)) hd ?_
            try simp only [Act.put, List.setIfInBounds_toArray, List.set_cons_zero, List.set_cons_succ]
            refine wpAnyH_all (rs := [10]) (by kernel_rfl) (by simp) (fun i hi => ?_)
            obtain rfl : i = 10 := by simpa using hi
            refine wpOp_step rfl (fun K1 hK1 => ?_)
            refine Eq.mpr (if_pos (by kernel_rfl)) ?_
            refine wp_storeN 47 (.tmp 64) (.tmp 63) rfl ob (i * 2) 47 _ #[.int .i64 34, .string { data := #[] }] _ (by kernel_rfl) (by kernel_rfl) HOUT.out (fun w => by kernel_rfl) (by rw [resB_size]; have : (i + 1) * 2 ≤ g.acts.length * 2 := Nat.mul_le_mul_right _ HIN.out; show i * 2 + 2 ≤ _; omega) (by rfl) (resB_put g.acts.length _ i HIN.out depR) rfl ?_
            intro x8 hk8 hs8 hc8
            have hd1 := hd.trans hc8 (fun _ _ h => h)
            refine hK1 _ _ ⟨hd1, ?_⟩
            try simp only [Act.put, List.setIfInBounds_toArray, List.set_cons_zero, List.set_cons_succ, Array.toArray_toList]
            refine wpAnyH_done (by kernel_rfl) ?_ _
            have HC8 := hid hd1
            have HK8 := hid hk8
            have hf8 := HF.out x8 hd1
            have HHAS8 := hid (hd1.obj HHAS.out (fun e => HNE.out.2.2 e.symm))
            clear hd hd1 hk8 hs8 hc8
            go_upto_region 11 with fail
            have HF2 : Hid (∀ W, Chg (fun k => k = hb) x8 W → W.cell? ⟨ib, io, none⟩ = some (.int .i64 i) ∧ W.cell? ⟨u, 5, none⟩ = some (.slice (some ⟨hb, 0, none⟩) g.acts.length g.acts.length)) := hid (fun W hW => ⟨hW.cell hf8.2.1 HIB.out.2, hW.cell hf8.2.2 HNE.out.2.1⟩)
            clear hf8
            refine wp_region_held_drew (S := fun W => Chg (fun k => k = hb) x8 W) (by kernel_rfl) ((Chg.refl _ x8).drew) (fun hd => ?_)
            refine wpAnyH_takeDK (i := 0) (v := .pointer (some ⟨u, 0, none⟩)) (some 65) rfl (by kernel_rfl) (by kernel_rfl) (by kernel_rfl) (by kernel_rfl) (fun _ _ _ h => h) (.inl ⟨by kernel_rfl, fun W _ => by kernel_rfl⟩) hd ?_
            refine wpAnyH_takeDK (i := 1) (v := .pointer (some ⟨u, 0, none⟩)) (some 66) rfl (by kernel_rfl) (by kernel_rfl) (by kernel_rfl) (by kernel_rfl) (fun _ _ _ h => h) (.inl ⟨by kernel_rfl, fun W _ => by kernel_rfl⟩) hd ?_
            refine wpAnyH_takeDK (i := 2) (v := .pointer (some ⟨u, 5, none⟩)) (some 67) rfl (by kernel_rfl) (by kernel_rfl) (by kernel_rfl) (by kernel_rfl) (fun _ _ _ h => h) (.inl ⟨by kernel_rfl, fun W _ => by kernel_rfl⟩) hd ?_
            refine wpAnyH_takeDK (i := 3) (v := .slice (some ⟨hb, 0, none⟩) g.acts.length g.acts.length) (some 68) rfl (by kernel_rfl) (by kernel_rfl) (by kernel_rfl) (by kernel_rfl) (fun _ _ _ h => h) (yieldsIf_load1K (by kernel_rfl) 94 (.tmp 67) (by kernel_rfl) u 5 _ (by kernel_rfl) (fun W hW => load_bools (HF2.out W hW).2)) hd ?_
            refine wpAnyH_takeDK (i := 4) (v := .slice oo ord.length oc) (some 69) rfl (by kernel_rfl) (by kernel_rfl) (by kernel_rfl) (by kernel_rfl) (fun _ _ _ h => h) (.inl ⟨by kernel_rfl, fun W _ => by kernel_rfl⟩) hd ?_
            refine wpAnyH_takeDK (i := 5) (v := .int .i64 k) (some 70) rfl (by kernel_rfl) (by kernel_rfl) (by kernel_rfl) (by kernel_rfl) (fun _ _ _ h => h) (.inl ⟨by kernel_rfl, fun W _ => by kernel_rfl⟩) hd ?_
            refine wpAnyH_takeDK (i := 6) (v := .pointer (some ⟨ib, io, none⟩)) (some 71) rfl (by kernel_rfl) (by kernel_rfl) (by kernel_rfl) (by kernel_rfl) (fun _ _ _ h => h) (yieldsIf_index (by kernel_rfl) 75 (.tmp 69) (.tmp 70) (by kernel_rfl) _ _ _ (by kernel_rfl) (by kernel_rfl) (fun W => HIX0.out W)) hd ?_
            refine wpAnyH_takeDK (i := 7) (v := .int .i64 i) (some 72) rfl (by kernel_rfl) (by kernel_rfl) (by kernel_rfl) (by kernel_rfl) (fun _ _ _ h => h) (yieldsIf_load1K (by kernel_rfl) 3 (.tmp 71) (by kernel_rfl) ib io _ (by kernel_rfl) (fun W hW => load_int (HF2.out W hW).1)) hd ?_
            refine wpAnyH_takeDK (i := 8) (v := .pointer (some ⟨hb, i, none⟩)) (some 73) rfl (by kernel_rfl) (by kernel_rfl) (by kernel_rfl) (by kernel_rfl) (fun _ _ _ h => h) (yieldsIf_index (by kernel_rfl) 94 (.tmp 68) (.tmp 72) (by kernel_rfl) _ _ _ (by kernel_rfl) (by kernel_rfl) (fun W => hixh W)) hd ?_
            try simp only [Act.put, List.setIfInBounds_toArray, List.set_cons_zero, List.set_cons_succ]
            refine wpAnyH_all (rs := [9]) (by kernel_rfl) (by simp) (fun i hi => ?_)
            obtain rfl : i = 9 := by simpa using hi
            refine wpOp_step rfl (fun K1 hK1 => ?_)
            refine Eq.mpr (if_pos (by kernel_rfl)) ?_
            refine wp_store1 4 (.tmp 73) (.const (.bool true)) rfl hb i 4 _ (.bool true) (by kernel_rfl) (by kernel_rfl) rfl HHAS8.out (fun w => by kernel_rfl) (by rw [boolB_size]; exact HIN.out) rfl rfl ?_
            intro x9 hk9 hs9 hc9
            have hd1 := hd.trans hc9 (fun _ _ h => h)
            refine hK1 _ _ ⟨hd1, ?_⟩
            try simp only [Act.put, List.setIfInBounds_toArray, List.set_cons_zero, List.set_cons_succ, Array.toArray_toList]
            refine wpAnyH_done (by kernel_rfl) ?_ _
            rw [boolB_put _ _ _ _ HIN.out] at hk9
            have hput := HR7.out.put HD.out HIN.out depR HK8.out HC8.out hk9 hd1
            have HR9 := hid (hput.congr HFQ.out)
            have HC9 := hid (HCQ7.out.trans ((HC8.out.mono (G := fun k => k = u ∨ k = ob ∨ k = hb) (fun _ _ e => .inr (.inl e))).trans (hd1.mono (G := fun k => k = u ∨ k = ob ∨ k = hb) (fun _ _ e => .inr (.inr e))) (fun _ _ h => h)) (fun _ _ h => h))
            clear hd hd1 hk9 hs9 hc9 hput
            go_wp2_with fail
            go_roundw
            case rel => exact ⟨q + 1, by omega, by go_num, HC9.out, HR9.out⟩
            case measure => simp [intOf]; omega
        · obtain rfl : q = ins.length := by omega
          have hrq2 := HRQ.out
          rw [List.take_length, HFA.out, ← HST.out] at hrq2
          have HRX := hid hrq2
          clear hrq2 hnq
          go_wp2_with fail
          go_roundw
          case rel => exact ⟨k + 1, by omega, by go_num, HC5.out.trans HCQ.out (fun _ _ h => h), HRX.out⟩
          case measure => simp [intOf]; omega
    · obtain rfl : k = ord.length := by omega
      have hr2 := HR.out
      rw [List.take_length] at hr2
      have htk2 := HTK.out
      rw [List.take_length] at htk2
      have HR2 := hid hr2
      have HTK2 := hid htk2
      clear hr2 htk2 HTK HR
      have hu5 := cell_of HR2.out.blk 5
      have hu3 := cell_of HR2.out.blk 3
      simp at hu5 hu3
      go_upto_region 14 with fail
      go_loopw [8, 9] (fun o i wx => ∃ (n : Nat) (B : Bool), n ≤ g.acts.length ∧ o = .bool B ∧ i = .int .i64 n ∧ Hid (B = true ↔ ∀ j, j < n → hasR g (settleL g ord t) j = true) ∧ wx = wr) (fun _ i _ => g.acts.length - (intOf i).toNat)
      case atStart => exact ⟨0, true, Nat.zero_le _, rfl, rfl, hid (by simp), rfl⟩
      case round =>
        obtain ⟨n, B, hn, rfl, rfl, HB, rfl⟩ := hrel
        by_cases hnn : n < g.acts.length
        · have hnn' : (n : Int) < g.acts.length := by omega
          obtain ⟨hixh, h0⟩ := HR2.out.hasAt hnn
          have HB2 : Hid (∀ C, C = (B && hasR g (settleL g ord t) n) → (C = true ↔ ∀ j, j < n + 1 → hasR g (settleL g ord t) j = true)) := hid (fun C hC => by
            rw [hC, Bool.and_eq_true, HB.out]
            constructor
            · rintro ⟨h1, h2⟩ j hj
              rcases Nat.lt_or_eq_of_le (Nat.le_of_lt_succ hj) with h3 | rfl
              · exact h1 j h3
              · exact h2
            · exact fun h1 => ⟨fun j hj => h1 j (by omega), h1 n (by omega)⟩)
          generalize hasR g (settleL g ord t) n = C at *
          cases B with
          | true =>
            go_wp2_with fail
            go_roundw
            case rel => exact ⟨n + 1, C, by omega, rfl, by go_num, hid (HB2.out C (by simp)), trivial⟩
            case measure => simp [intOf]; omega
          | false =>
            go_wp2_with fail
            go_roundw
            case rel => exact ⟨n + 1, false, by omega, rfl, by go_num, hid (HB2.out false (by simp)), trivial⟩
            case measure => simp [intOf]; omega
        · obtain rfl : n = g.acts.length := by omega
          have HFU : Hid (B = true ↔ (settleL g ord t).length = g.srcs.length + g.acts.length) := hid (HB.out.trans (HTK2.out.full HD.out).symm)
          have hst := HST2.out
          have HS2 := hid hst
          clear hst HST2
          cases B with
          | true =>
            have e2 : st2 = 2 := by rw [← HS2.out, if_pos (HFU.out.1 rfl)]
            have HE2 := hid e2
            clear e2
            have hfz := frozen_of HR2.out.blk 3
            go_wp2_with fail
            go_end0
            have hk3 := heap_set_same HR2.out.blk 3 (.int .i64 2)
            have hc3 : Chg (fun k => k = u) wr (wr.setCell ⟨u, 3, none⟩ (.int .i64 2)) := (Chg.refl (fun k => k = u) wr).setCell (p := ⟨u, 3, none⟩) (fun _ => rfl) _
            rw [HE2.out]
            refine ⟨rfl, ((HC2.out.mono (G := fun k => k = u ∨ k = ob ∨ k = hb) (fun _ _ h => h.elim)).trans HC.out (fun _ _ h => h)).trans (hc3.mono (fun _ _ e => .inl e)) (fun _ _ h => h), HR2.out.setSt (st' := 2) hk3 hc3⟩
          | false =>
            have e2 : st2 = st := by rw [← HS2.out, if_neg (fun h => by have := HFU.out.2 h; cases this)]
            have HE2 := hid e2
            clear e2
            go_wp2_with fail
            go_end0
            rw [HE2.out]
            exact ⟨rfl, (HC2.out.mono (fun _ _ h => h.elim)).trans HC.out (fun _ _ h => h), HR2.out⟩
end
end Go.Proofs.YthglfmacjoecgaaGreatDoor
namespace Go.Proofs.YthglfmacjoecgaaGreatDoor
open Go.RowKit

theorem owns_empty2 (W : World) (e : TypeId) (sz : Nat) : (W.alloc (.cells #[] e)).ownsRow 0 e sz (.slice (some ⟨W.heap.size, 0, none⟩) 0 0) 0 [] :=
  ⟨by simp, .inr ⟨W.heap.size, 0, #[], rfl, Nat.zero_le _, heap_alloc_new' W _, Nat.le_refl _, Nat.zero_le _, by simp, by simp⟩⟩
theorem jobA_nm (nm x : ByteArray) (pl : Int) (cd : ByteArray) (inV : Value) (key : Nat → UInt8) : (jobA nm pl cd inV key).setIfInBounds 0 (.string x) = jobA x pl cd inV key := by
  apply Array.toList_inj.1
  simp [jobA]
theorem owns_blk {w : World} {e : TypeId} {sz n : Nat} {v : Value} {xs : List Value} (h : w.ownsRow 0 e sz v n xs) : ∀ k, v.ownBlock = some k → k < w.heap.size := by
  intro k hk
  rcases h.2 with ⟨rfl, _⟩ | ⟨b, cap, cur, rfl, _, hg, _⟩
  · cases hk
  · simp only [Value.ownBlock, Option.some.injEq] at hk
    subst hk
    exact heap_lt hg
theorem job_whole (nm : ByteArray) (pl : Int) (cd : ByteArray) (inV : Value) (K : Nat → UInt8) : (noJob.toList.take 0 ++ (jobA nm pl cd inV K).toList ++ noJob.toList.drop (0 + (jobA nm pl cd inV K).size)).toArray = jobA nm pl cd inV K := by
  have h1 : noJob.toList.length = 36 := by rw [Array.length_toList]; unfold noJob; exact jobA_size _ _ _ _ _
  rw [jobA_size, List.take_zero, List.nil_append, List.drop_eq_nil_of_le (by omega), List.append_nil]
section
variable {w0 w w' : World} {u ob hb : Nat} {sv av lv : Value} {iv : Nat → Value} {g : GrR} {srcs : List SrcR} {st : Nat} {t : ThT}
set_option maxRecDepth 100000 in
set_option maxHeartbeats 8000000 in
theorem rnext_any (h : IsRf w0 w u ob hb sv av lv iv g srcs st t) (hD : Done g srcs) (hT : TOK g srcs t) (hz : BkSize ⟨g, st, orderR g, t⟩) :
    Calls Tryz.prog 47 #[.pointer (some ⟨u, 0, none⟩)] w (NextPost w ⟨g, st, orderR g, t⟩) := by
  obtain ⟨hn, ha, hl⟩ := h.now
  obtain ⟨o1, c1, rfl⟩ := hn.form
  obtain ⟨o2, c2, rfl⟩ := ha.form
  have hmx := ha.rows.le
  unfold maxLen at hmx
  have HOR := hid (fun (W : World) (hW : Chg (fun _ => False) w W) => rorderL_any g (.agg #[.slice o1 g.srcs.length c1, .slice o2 g.acts.length c2]) W ⟨_, _, iv, rfl, hn.chg hW (fun _ _ h => h), ha.chg hW (fun _ _ h => h)⟩)
  rw [show ordR g = orderR g from if_pos (can_iff.2 hD.can)] at HOR
  unfold IntsPost at HOR
  have H := hid h
  have HD := hid hD
  have HT := hid hT
  have HZ := hid hz
  have HOD := hid (orderR_ordd g)
  have hol : (orderR g).length ≤ g.acts.length := (orderR_ordd g).le
  generalize hs : (⟨g, st, orderR g, t⟩ : BkS) = s at *
  have HS := hid hs
  generalize orderR g = ord at *
  clear h hD hT hn ha hl hz hs
  go_enter Tryz.func47, Tryz.ntmps47
  go_upto_region 2 with (first | (guard_target =~ wpList _ _ _ (Oper.mk (some 2) _ _ _ _ _ :: _) _ _; refine wpList_alloc0 rfl 85 rfl noJob (allocJob _) ?_; intro w2 hk2 hs2 hc2; have HK2 := hid hk2; have HC2 := hid hc2; have HS2 := hid hs2; clear hk2 hc2 hs2) | (guard_target =~ wpList _ _ _ (Oper.mk (some 14) _ _ _ _ _ :: _) _ _; refine wpList_build0 rfl 85 rfl _ (buildJob0 _) ?_) | (guard_target =~ wpList _ _ _ (Oper.mk (some 4) _ _ _ _ _ :: _) _ _; refine wpList_alloc0 rfl 85 rfl noJob (allocJob _) ?_; intro w4 hk4 hs4 hc4; have HK4 := hid hk4; have HC4 := hid (HC2.out.trans hc4 (fun _ _ h => h)); have HK24 := hid (hc4.obj HK2.out (fun h => h)); clear hk4 hc4 hs4) | (guard_target =~ wpList _ _ _ (Oper.mk none (Op.store _ (Operand.tmp 4) _) _ _ _ _ :: _) _ _; refine wpList_store0 rfl 85 _ _ rfl w2.heap.size noJob noJob rfl rfl HK4.out (by unfold noJob; rw [jobA_size]; exact sizeJob) rfl (jobA_one _ _ _ _ rfl _) ?_; intro x5 hk5 hs5 hc5; have HK5 := hid hk5; have HC5 := hid (HC4.out.trans hc5 (fun z hz e => by have := HC2.out.size; omega)); have HK25 := hid (hc5.obj HK24.out (fun e => by have := HS2.out; omega)); clear hk5 hs5 hc5))
  obtain ⟨b2, hb2⟩ : ∃ b2, b2 = w.heap.size := ⟨_, rfl⟩
  obtain ⟨b4, hb4⟩ : ∃ b4, b4 = w2.heap.size := ⟨_, rfl⟩
  rw [← hb2] at HK25 ⊢
  rw [← hb4] at HK5 ⊢
  have HB2 : Hid (∀ z, z < w.heap.size → ¬ z = b2) := hid (fun z hz e => by omega)
  have H5 := hid (H.out.same HC5.out)
  have q3 := cell_of H5.out.blk 3
  have q0 := cell_of H5.out.blk 0
  have q1 := cell_of H5.out.blk 1
  simp at q3 q0 q1
  clear hb2 hb4 HK2 HC2 HS2 HK4 HC4 HK24
  by_cases hst : st = 1
  · have hst' : ((st : Int) != 1) = false := by rw [bne_eq_false_iff_eq]; omega
    have HN := hid (show s.next = ord.find? (readyT g t) by rw [← HS.out]; exact next_is hst)
    clear hst
    go_upto_region 5 with (go_at_call 84; refine (HOR.out _ HC5.out).mono ?_; rintro e x6 ⟨hc6, ov, rfl, ho6⟩; have HC6 := hid hc6; have HO6 := hid ho6; clear hc6 ho6)
    clear q3 q0 q1 hst'
    have hio := IntsAt.of_owns HO6.out
    obtain ⟨oo, oc, rfl⟩ := hio.form
    have hlo := hio.len
    have HIO := hid hio
    have HK6 := hid (HC6.out.obj HK5.out (fun h => h))
    have HK26 := hid (HC6.out.obj HK25.out (fun h => h))
    have H6 := hid (H5.out.same HC6.out)
    have HC06 := hid (HC5.out.trans HC6.out (fun _ _ h => h))
    clear hio HO6 HC6 HK5 HK25 H5
    go_wp2_with fail
    go_loopw [6] (fun i wr => ∃ k : Nat, k ≤ ord.length ∧ i = .int .i64 k ∧ Chg (fun _ => False) x6 wr ∧ ∀ j (h : j < ord.length), j < k → readyT g t ord[j] = false) (fun i _ => ord.length - (intOf i).toNat)
    case atStart => exact ⟨0, Nat.zero_le _, rfl, Chg.refl _ _, fun j _ h => absurd h (Nat.not_lt_zero _)⟩
    case round =>
      obtain ⟨k, hk, rfl, hch, hall⟩ := hrel
      have HCH := hid hch
      have HALL := hid hall
      have HR := hid (H6.out.same hch)
      clear hch hall
      by_cases hkn : k < ord.length
      · have hkn' : (k : Int) < ord.length := by omega
        obtain ⟨ib, io, hix0, hic1, _⟩ := (HIO.out.chg HCH.out (fun _ _ h => h)).ix k hkn
        have hin := HOD.out.lt _ (List.getElem_mem hkn)
        have HNX : Hid (∀ (_ : readyT g t ord[k] = true), s.next = some ord[k]) := hid (fun hr => by rw [HN.out]; exact find_at hkn HALL.out hr)
        have HNN : Hid (∀ (_ : readyT g t ord[k] = false), ∀ j (h : j < ord.length), j < k + 1 → readyT g t ord[j] = false) := hid (fun hr j hj hjk => by
          by_cases e : j = k
          · subst e; exact hr
          · exact HALL.out j hj (by omega))
        have HSUP : Hid (∀ s ∈ insAt g ord[k], s ∈ g.srcs ∨ ∃ j, j < g.acts.length ∧ nameAt g j = s) := hid (fun s hs => by
          rcases HOD.out.sup k hkn s hs with h1 | ⟨j, hj, h1⟩
          · exact .inl h1
          · exact .inr ⟨_, HOD.out.lt _ (List.getElem_mem (show j < ord.length by omega)), h1⟩)
        have hu1 := cell_of HR.out.blk 1
        have hu5 := cell_of HR.out.blk 5
        simp at hu1 hu5
        generalize ord[k] = i at *
        obtain ⟨bb, bo, hix, hlt, e0, e1, e2, hns, hw1, hw2⟩ := HR.out.now.2.1.at i hin
        obtain ⟨oi, ci, hiv⟩ := hns.form
        rw [hiv] at e1 hns
        obtain ⟨hixh, hh0⟩ := HR.out.hasAt hin
        have HRD : Hid (readyT g t i = (!hasR g t i && g.acts[i].ins.all (isT t))) := hid (by unfold readyT hasR; rw [insAt_lt g i hin])
        have HIS : Hid (insT2 g t i = g.acts[i].ins.map (valT t)) := hid (by unfold insT2; rw [insAt_lt g i hin])
        have HNM : Hid (bs (nameAt g i) = bs g.acts[i].name ∧ bs (codeAt g i) = bs g.acts[i].code) := hid (by rw [nameAt_lt g i hin, codeAt_lt g i hin]; exact ⟨rfl, rfl⟩)
        have hsz := HZ.out
        rw [← HS.out] at hsz
        have HSM := hid (hsz.act _ (List.getElem_mem hin))
        have HVL := hid hsz.val
        have HNSF := hid (fun (W : World) (hW : IsRf w0 W u ob hb (.slice o1 g.srcs.length c1) (.slice o2 g.acts.length c2) lv iv g srcs st t) => show NamesAt W (.slice oi g.acts[i].ins.length ci) g.acts[i].ins from by
          obtain ⟨_, _, _, _, _, _, _, hns2, _⟩ := hW.now.2.1.at i hin
          rw [hiv] at hns2
          exact hns2)
        have hsup := HSUP.out
        rw [insAt_lt g i hin] at hsup
        have HSP := hid hsup
        have HIN := hid hin
        have HNS := hid hns
        generalize g.acts[i].ins = ins at *
        generalize g.acts[i].name = nm at *
        generalize g.acts[i].code = cd at *
        generalize hasR g t i = HH at *
        clear hw1 hw2 hlt hns hiv hsup HSUP hsz hin
        go_upto_region 8 with fail
        have HF : Hid (∀ W, Chg (fun _ => False) wr W → W.cell? ⟨u, 1, none⟩ = some (.slice o2 g.acts.length c2) ∧ W.cell? ⟨ib, io, none⟩ = some (.int .i64 i) ∧ W.cell? ⟨bb, bo, none⟩ = some (.string (bs nm)) ∧ W.cell? ⟨bb, bo + 1, none⟩ = some (.slice oi ins.length ci) ∧ W.cell? ⟨bb, bo + 2, none⟩ = some (.string (bs cd))) := hid (fun W hW => ⟨hW.cell hu1 (fun h => h), hW.cell hic1 (fun h => h), hW.cell e0 (fun h => h), hW.cell e1 (fun h => h), hW.cell e2 (fun h => h)⟩)
        refine wp_region_held_drew (S := fun W => Chg (fun _ => False) wr W) (by kernel_rfl) ((Chg.refl _ wr).drew) (fun hd => ?_)
        refine wpAnyH_takeDK (i := 0) (v := .pointer (some ⟨u, 0, none⟩)) (some 32) rfl (by kernel_rfl) (by kernel_rfl) (by kernel_rfl) (by kernel_rfl) (fun _ _ _ h => h) (.inl ⟨by kernel_rfl, fun W _ => by kernel_rfl⟩) hd ?_
        refine wpAnyH_takeDK (i := 1) (v := .pointer (some ⟨u, 0, none⟩)) (some 33) rfl (by kernel_rfl) (by kernel_rfl) (by kernel_rfl) (by kernel_rfl) (fun _ _ _ h => h) (.inl ⟨by kernel_rfl, fun W _ => by kernel_rfl⟩) hd ?_
        refine wpAnyH_takeDK (i := 2) (v := .pointer (some ⟨u, 0, none⟩)) (some 34) rfl (by kernel_rfl) (by kernel_rfl) (by kernel_rfl) (by kernel_rfl) (fun _ _ _ h => h) (.inl ⟨by kernel_rfl, fun W _ => by kernel_rfl⟩) hd ?_
        refine wpAnyH_takeDK (i := 3) (v := .pointer (some ⟨u, 1, none⟩)) (some 35) rfl (by kernel_rfl) (by kernel_rfl) (by kernel_rfl) (by kernel_rfl) (fun _ _ _ h => h) (.inl ⟨by kernel_rfl, fun W _ => by kernel_rfl⟩) hd ?_
        refine wpAnyH_takeDK (i := 4) (v := .slice o2 g.acts.length c2) (some 36) rfl (by kernel_rfl) (by kernel_rfl) (by kernel_rfl) (by kernel_rfl) (fun _ _ _ h => h) (yieldsIf_load1K (by kernel_rfl) 23 (.tmp 35) (by kernel_rfl) u 1 _ (by kernel_rfl) (fun W hW => load_acts (HF.out W hW).1)) hd ?_
        refine wpAnyH_takeDK (i := 5) (v := .slice oo ord.length oc) (some 37) rfl (by kernel_rfl) (by kernel_rfl) (by kernel_rfl) (by kernel_rfl) (fun _ _ _ h => h) (.inl ⟨by kernel_rfl, fun W _ => by kernel_rfl⟩) hd ?_
        refine wpAnyH_takeDK (i := 6) (v := .int .i64 k) (some 38) rfl (by kernel_rfl) (by kernel_rfl) (by kernel_rfl) (by kernel_rfl) (fun _ _ _ h => h) (.inl ⟨by kernel_rfl, fun W _ => by kernel_rfl⟩) hd ?_
        refine wpAnyH_takeDK (i := 7) (v := .pointer (some ⟨ib, io, none⟩)) (some 39) rfl (by kernel_rfl) (by kernel_rfl) (by kernel_rfl) (by kernel_rfl) (fun _ _ _ h => h) (yieldsIf_index (by kernel_rfl) 75 (.tmp 37) (.tmp 38) (by kernel_rfl) _ _ _ (by kernel_rfl) (by kernel_rfl) (fun W => hix0 W)) hd ?_
        refine wpAnyH_takeDK (i := 8) (v := .int .i64 i) (some 40) rfl (by kernel_rfl) (by kernel_rfl) (by kernel_rfl) (by kernel_rfl) (fun _ _ _ h => h) (yieldsIf_load1K (by kernel_rfl) 3 (.tmp 39) (by kernel_rfl) ib io _ (by kernel_rfl) (fun W hW => load_int (HF.out W hW).2.1)) hd ?_
        refine wpAnyH_takeDK (i := 9) (v := .pointer (some ⟨bb, bo, none⟩)) (some 41) rfl (by kernel_rfl) (by kernel_rfl) (by kernel_rfl) (by kernel_rfl) (fun _ _ _ h => h) (yieldsIf_index (by kernel_rfl) 23 (.tmp 36) (.tmp 40) (by kernel_rfl) _ _ _ (by kernel_rfl) (by kernel_rfl) (fun W => hix W)) hd ?_
        refine wpAnyH_takeDK (i := 10) (v := .agg #[.string (bs nm), .slice oi ins.length ci, .string (bs cd)]) (some 42) rfl (by kernel_rfl) (by kernel_rfl) (by kernel_rfl) (by kernel_rfl) (fun _ _ _ h => h) (yieldsIf_load1K (by kernel_rfl) 43 (.tmp 41) (by kernel_rfl) bb bo _ (by kernel_rfl) (fun W hW => load_act3 (HF.out W hW).2.2.1 (HF.out W hW).2.2.2.1 (HF.out W hW).2.2.2.2)) hd ?_
        try simp only [Act.put, List.setIfInBounds_toArray, List.set_cons_zero, List.set_cons_succ]
        refine wpAnyH_all (rs := [11]) (by kernel_rfl) (by simp) (fun i hi => ?_)
        obtain rfl : i = 11 := by simpa using hi
        refine wpOp_step rfl ?_
        intro K1 hK1
        refine Eq.mpr (if_pos (by kernel_rfl)) ?_
        refine wp_allocO 7 rfl 43 rfl #[.string { data := #[] }, .slice none 0 0, .string { data := #[] }] (by kernel_rfl) ?_
        intro ba x7 hba hk7 hs7 hc7
        have hd1 := hd.trans hc7 (fun _ _ h => h)
        refine hK1 _ _ ⟨hd1, ?_⟩
        try simp only [Act.put, List.setIfInBounds_toArray, List.set_cons_zero, List.set_cons_succ]
        refine wpAnyH_all (rs := [12]) (by kernel_rfl) (by simp) (fun i hi => ?_)
        obtain rfl : i = 12 := by simpa using hi
        refine wpOp_step rfl ?_
        intro K2 hK2
        refine Eq.mpr (if_pos (by kernel_rfl)) ?_
        refine wp_storeN 43 (.tmp 7) (.tmp 42) rfl ba 0 43 _ #[.string (bs nm), .slice oi ins.length ci, .string (bs cd)] _ (by kernel_rfl) (by kernel_rfl) hk7 (fun w => by kernel_rfl) (Nat.le_refl 3) rfl rfl rfl ?_
        intro W7 k7 hs8 hc8
        have hd2 := hd1.trans hc8 (fun z hz e => by rw [e, hba] at hz; exact absurd hz (Nat.lt_irrefl _))
        refine hK2 _ _ ⟨hd2, ?_⟩
        try simp only [Act.put, List.setIfInBounds_toArray, List.set_cons_zero, List.set_cons_succ, Array.toArray_toList]
        refine wpAnyH_done (by kernel_rfl) ?_ _
        have HC7 := hid hd2
        have HK7 := hid k7
        have HR7 := hid (HR.out.same hd2)
        have HIX0 := hid hix0
        have HNS7 := hid (HNS.out.chg hd2 (fun _ _ h => h))
        have hic7 := hd2.cell hic1 (fun h => h)
        have hu57 := hd2.cell hu5 (fun h => h)
        have hh7 := hd2.cell hh0 (fun h => h)
        clear hba hd hd1 hd2 hs7 hs8 hk7 hc7 hc8 k7 HF hix e0 e1 e2 hic1 hu1 hu5 hh0 HNS
        go_upto_region 9 with fail
        go_quiet (fail)
        have HIC7 := hid hic7
        clear hic7 hu57 hh7 hixh hix0
        go_upto_region 11 with fail
        have HW9 := hid (show Chg (fun _ => False) W7 ((W7.drewN nq).alloc (.cells #[] 47)) from ((Chg.refl (fun _ => False) W7).drewN nq).alloc _)
        have HO9 := hid (owns_empty2 (W7.drewN nq) 47 2)
        obtain ⟨W9, hW9⟩ : ∃ W9, W9 = (W7.drewN nq).alloc (.cells #[] 47) := ⟨_, rfl⟩
        have hw9 := HW9.out
        have ho9 := HO9.out
        rw [← hW9] at hw9 ho9 ⊢
        have HW9' := hid hw9
        have ho9' : W9.ownsRow 0 47 2 (.slice (some ⟨W7.heap.size, 0, none⟩) 0 0) 0 [] := ho9
        have HO9' := hid ho9'
        have HR9 := hid (HR7.out.same hw9)
        have HC9 := hid ((HCH.out.trans HC7.out (fun _ _ h => h)).trans hw9 (fun _ _ h => h))
        have HNS9 := hid (HNS7.out.chg hw9 (fun _ _ h => h))
        have HK9 := hid (hw9.obj HK7.out (fun h => h))
        obtain ⟨b9, hb9⟩ : ∃ b9, b9 = W7.heap.size := ⟨_, rfl⟩
        rw [← hb9] at HO9' ⊢
        have HLO : Hid (w.heap.size ≤ b9 ∧ x6.heap.size ≤ b9 ∧ b2 < b9 ∧ u < b9 ∧ ob < b9 ∧ hb < b9 ∧ ba < b9 ∧ W9.heap.size = b9 + 1) := hid (by
          have h1 := HC06.out.size
          have h2 := (HCH.out.trans HC7.out (fun _ _ h => h)).size
          have h3 := heap_lt HR7.out.blk
          have h4 := heap_lt HR7.out.out
          have h5 := heap_lt HR7.out.has
          have h6 := heap_lt HK7.out
          have h7 := heap_lt HK26.out
          have h8 : W9.heap.size = W7.heap.size + 1 := by rw [hW9]; simp
          omega)
        have HIC9 : Hid (∀ W, Chg (fun z => z = b9) W9 W → W.cell? ⟨ib, io, none⟩ = some (.int .i64 i)) := hid (fun W hW => hW.cell (hw9.cell HIC7.out (fun h => h)) (fun e => by have h1 := World.block_lt_of_cell? W7 _ HIC7.out; simp only at h1 e; omega))
        clear HW9 HO9 hW9 hw9 ho9 ho9' hb9 HR7 HC7 HNS7 HK7 HW9'
        obtain ⟨R0, hR0⟩ : ∃ R0, R0 = !HH := ⟨_, rfl⟩
        rw [← hR0]
        have HR0 := hid hR0
        clear hR0
        go_wp2_with fail
        go_loopw [8, 9, 10] (fun rv v iq wx => ∃ (q : Nat) (x : Value) (R : Bool), q ≤ ins.length ∧ rv = .bool R ∧ v = x ∧ iq = .int .i64 q ∧ Hid (R = (R0 && (ins.take q).all (isT t))) ∧ wx.ownsRow 0 47 2 x q (((ins.take q).map (valT t)).flatMap resL) ∧ (∀ z, x.ownBlock = some z → b9 ≤ z) ∧ Chg (fun z => z = b9) W9 wx) (fun _ _ iq _ => ins.length - (intOf iq).toNat)
        case atStart => exact ⟨0, _, R0, Nat.zero_le _, rfl, rfl, rfl, hid (by simp), HO9'.out, (fun z h => by simp [Value.ownBlock] at h; omega), Chg.refl _ _⟩
        case round =>
          obtain ⟨q, xv, R, hq, rfl, rfl, rfl, HRB, hown, hbl, hcx⟩ := hrel
          have HOWN := hid hown
          have HBL := hid hbl
          have HCX := hid hcx
          have HRX := hid (HR9.out.keep hcx (by have := HLO.out; omega) (by have := HLO.out; omega) (by have := HLO.out; omega) (fun z hz e => by have h1 := HLO.out; have h2 := HR9.out.lo; omega))
          have hka := hcx.obj HK9.out (by have := HLO.out; omega)
          have HKA := hid hka
          have a1 := cell_of hka 1
          simp at a1
          have hnq := HNSF.out _ HRX.out
          have hnl := hnq.len
          have hi32 := HSM.out.2
          clear hown hbl hcx hka
          by_cases hqn : q < ins.length
          · have hqn' : (q : Int) < ins.length := by omega
            obtain ⟨na, hixn, n0, _⟩ := hnq.ix q hqn
            have hip := rinput_any HRX.out HD.out HT.out ins[q] (HSP.out _ (List.getElem_mem hqn))
            unfold InPost at hip
            have HTK : Hid (((ins.take (q + 1)).map (valT t)).flatMap resL = ((ins.take q).map (valT t)).flatMap resL ++ resL (valT t ins[q])) := hid (by
              rw [List.take_succ_eq_append_getElem hqn, List.map_append, List.flatMap_append]
              simp)
            have HALQ : Hid ((ins.take (q + 1)).all (isT t) = ((ins.take q).all (isT t) && isT t ins[q])) := hid (by
              rw [List.take_succ_eq_append_getElem hqn, List.all_append]
              simp)
            generalize ins[q] = s3 at *
            obtain ⟨c, hc⟩ : ∃ c, c = (valT t s3).1 := ⟨_, rfl⟩
            obtain ⟨x, hx⟩ : ∃ x, x = (valT t s3).2 := ⟨_, rfl⟩
            rw [show resW (valT t s3) = .agg #[.int .i64 c, .string x] by unfold resW; rw [hc, hx]] at hip
            have HVX : Hid (resL (valT t s3) = [.int .i64 c, .string x]) := hid (by unfold resL; rw [hc, hx])
            generalize isT t s3 = B at *
            have HIP := hid hip
            clear hip hc hx hnq
            go_upto_region 15 with (go_at_call 85; refine HIP.out.mono ?_; rintro e w12 ⟨rfl, hc12⟩; have HC12 := hid hc12; clear hc12)
            obtain ⟨W12, hW12⟩ : ∃ W12, W12 = w12.alloc (.cells #[.int .i64 c, .string x] 47) := ⟨_, rfl⟩
            have hal12 : Chg (fun _ => False) w12 W12 := hW12 ▸ (Chg.refl _ w12).alloc _
            have k12 : W12.heap[w12.heap.size]? = some (.cells #[.int .i64 c, .string x] 47 (0, 0)) := hW12 ▸ heap_alloc_new' w12 _
            rw [← hW12]
            have b0 := cell_of k12 0
            have b1 := cell_of k12 1
            simp at b0 b1
            have HC12b := hid (HC12.out.trans hal12 (fun _ _ h => h))
            have HOWN12 := hid (HC12b.out.owns HOWN.out (fun _ _ h => h))
            obtain ⟨rb, hrb⟩ : ∃ rb, rb = w12.heap.size := ⟨_, rfl⟩
            rw [← hrb] at b0 b1 ⊢
            clear hW12 hal12 k12 hrb a1 n0 hixn HIP hnl
            cases R with
            | true =>
              go_upto_region 16 with fail
              go_wp2_with (at_builtin; refine wpList_append_new rfl _ _ 58 rfl elRes HOWN12.out rfl #[.int .i64 c, .string x] 1 1 rfl rfl rfl (by unfold maxLen; omega) (by omega) (by decide) ?_; intro g6 cap6 w6 hown6 hch6 hg6; have HOWN6 := hid hown6; have HCH6 := hid hch6; have HG6 := hid hg6; clear hown6 hch6 hg6)
              go_roundw
              case rel => exact ⟨q + 1, .slice (some ⟨g6, 0, none⟩) (q + 1) cap6, B, by omega, rfl, rfl, by go_num, hid (by rw [HALQ.out, ← Bool.and_assoc, ← HRB.out]; simp), by rw [HTK.out, HVX.out]; exact HOWN6.out, (fun z hz => by obtain rfl := own_eq hz; exact HG6.out.elim (fun e => HBL.out _ e) (fun e => by have h1 := HLO.out; have h2 := HC12b.out.size; have h3 := HCX.out.size; omega)), (HCX.out.trans HC12b.out (fun _ _ h => h.elim)).trans HCH6.out (fun z hz e => by have h1 := HBL.out z e; have h2 := HLO.out; omega)⟩
              case measure => simp [intOf]; omega
            | false =>
              go_upto_region 16 with fail
              go_wp2_with (at_builtin; refine wpList_append_new rfl _ _ 58 rfl elRes HOWN12.out rfl #[.int .i64 c, .string x] 1 1 rfl rfl rfl (by unfold maxLen; omega) (by omega) (by decide) ?_; intro g6 cap6 w6 hown6 hch6 hg6; have HOWN6 := hid hown6; have HCH6 := hid hch6; have HG6 := hid hg6; clear hown6 hch6 hg6)
              go_roundw
              case rel => exact ⟨q + 1, .slice (some ⟨g6, 0, none⟩) (q + 1) cap6, false, by omega, rfl, rfl, by go_num, hid (by rw [HALQ.out, ← Bool.and_assoc, ← HRB.out]; simp), by rw [HTK.out, HVX.out]; exact HOWN6.out, (fun z hz => by obtain rfl := own_eq hz; exact HG6.out.elim (fun e => HBL.out _ e) (fun e => by have h1 := HLO.out; have h2 := HC12b.out.size; have h3 := HCX.out.size; omega)), (HCX.out.trans HC12b.out (fun _ _ h => h.elim)).trans HCH6.out (fun z hz e => by have h1 := HBL.out z e; have h2 := HLO.out; omega)⟩
              case measure => simp [intOf]; omega
          · obtain rfl : q = ins.length := by omega
            have hrb := HRB.out
            rw [List.take_length, HR0.out, ← HRD.out] at hrb
            have HRR := hid hrb
            have HCXX := hid (HC9.out.trans HCX.out (fun z hz e => by have := HLO.out; omega))
            clear hrb hnq HRB
            cases R with
            | false =>
              go_wp2_with fail
              go_roundw
              case rel => exact ⟨k + 1, by omega, by go_num, HCXX.out, HNN.out HRR.out.symm⟩
              case measure => simp [intOf]; omega
            | true =>
              have HNXT := hid (HNX.out HRR.out.symm)
              have hown2 := HOWN.out
              rw [List.take_length] at hown2
              have hres := ResAt.of_owns (rs := ins.map (valT t)) (n := ins.length) (by simp) hown2 (by have := HSM.out; simp; omega) (fun r0 hr0 => by
                obtain ⟨n0, _, rfl⟩ := List.mem_map.1 hr0
                exact (HVL.out n0).1)
              obtain ⟨xo, xc, hxf⟩ := hres.form
              rw [List.length_map] at hxf
              subst hxf
              have HRES := hid hres
              have HOWN2 := hid (And.intro hown2 (And.intro (fun {V : World} (hV : Chg (fun _ => False) wr V) => hV.owns hown2 (fun _ _ h => h)) (owns_blk hown2)))
              have hkey := rkey_any (bs cd) (by rw [bs_size]; exact HSM.out.1) (ins.map (valT t)) (by rw [List.length_map]; exact HSM.out.2) (fun r0 hr0 => by obtain ⟨n0, _, rfl⟩ := List.mem_map.1 hr0; exact (HVL.out n0).1) (fun r0 hr0 => by obtain ⟨n0, _, rfl⟩ := List.mem_map.1 hr0; exact (HVL.out n0).2) (.slice xo ins.length xc)
              obtain ⟨K, hK⟩ : ∃ K, K = keyF (bs cd) (ins.map (valT t)) := ⟨_, rfl⟩
              rw [← hK] at hkey
              have HKK := hid hK
              have HKEY := hid (fun (W : World) (hW : Chg (fun _ => False) wr W) => hkey W (HRES.out.chg hW (fun _ _ h => h)))
              have ka0 := cell_of HKA.out 0
              have ka2 := cell_of HKA.out 2
              simp at ka0 ka2
              have HF : Hid (∀ W, Chg (fun _ => False) wr W → W.cell? ⟨ib, io, none⟩ = some (.int .i64 i) ∧ W.cell? ⟨ba, 2, none⟩ = some (.string (bs cd))) := hid (fun W hW => ⟨hW.cell (HIC9.out wr HCX.out) (fun h => h), hW.cell ka2 (fun h => h)⟩)
              clear hown2 hres hkey hK ka0 ka2
              go_upto_region 18 with fail
              clear a1 hnl
              obtain ⟨JV, hJV⟩ : ∃ JV, JV = Value.agg (jobA ByteArray.empty i (bs cd) (.slice xo ins.length xc) K) := ⟨_, rfl⟩
              have HJV := hid hJV
              clear hJV
              go_cut [13] from 81 to 92 (fun sv wx => ∃ bj, sv = .pointer (some ⟨bj, 0, none⟩) ∧ Hid (wx.heap[bj]? = some (.cells (jobA ByteArray.empty i (bs cd) (.slice xo ins.length xc) K) 85 (0, 0)) ∧ Chg (fun _ => False) wr wx ∧ wr.heap.size ≤ bj))
              case first =>
                refine wp_region_held_drew (S := fun W => Chg (fun _ => False) wr W) (by kernel_rfl) ((Chg.refl _ wr).drew) (fun hd => ?_)
                refine wpAnyH_takeDK (i := 0) (v := .slice oo ord.length oc) (some 81) rfl (by kernel_rfl) (by kernel_rfl) (by kernel_rfl) (by kernel_rfl) (fun _ _ _ h => h) (.inl ⟨by kernel_rfl, fun W _ => by kernel_rfl⟩) hd ?_
                refine wpAnyH_takeDK (i := 1) (v := .int .i64 k) (some 82) rfl (by kernel_rfl) (by kernel_rfl) (by kernel_rfl) (by kernel_rfl) (fun _ _ _ h => h) (.inl ⟨by kernel_rfl, fun W _ => by kernel_rfl⟩) hd ?_
                refine wpAnyH_takeDK (i := 2) (v := .pointer (some ⟨ib, io, none⟩)) (some 83) rfl (by kernel_rfl) (by kernel_rfl) (by kernel_rfl) (by kernel_rfl) (fun _ _ _ h => h) (yieldsIf_index (by kernel_rfl) 75 (.tmp 81) (.tmp 82) (by kernel_rfl) _ _ _ (by kernel_rfl) (by kernel_rfl) (fun W => HIX0.out W)) hd ?_
                refine wpAnyH_takeDK (i := 3) (v := .int .i64 i) (some 84) rfl (by kernel_rfl) (by kernel_rfl) (by kernel_rfl) (by kernel_rfl) (fun _ _ _ h => h) (yieldsIf_load1K (by kernel_rfl) 3 (.tmp 83) (by kernel_rfl) ib io _ (by kernel_rfl) (fun W hW => load_int (HF.out W hW).1)) hd ?_
                refine wpAnyH_takeDK (i := 4) (v := .pointer (some ⟨ba, 2, none⟩)) (some 85) rfl (by kernel_rfl) (by kernel_rfl) (by kernel_rfl) (by kernel_rfl) (fun _ _ _ h => h) (.inl ⟨by kernel_rfl, fun W _ => by kernel_rfl⟩) hd ?_
                refine wpAnyH_takeDK (i := 5) (v := .string (bs cd)) (some 86) rfl (by kernel_rfl) (by kernel_rfl) (by kernel_rfl) (by kernel_rfl) (fun _ _ _ h => h) (yieldsIf_load1K (by kernel_rfl) 9 (.tmp 85) (by kernel_rfl) ba 2 _ (by kernel_rfl) (fun W hW => load_strK (HF.out W hW).2)) hd ?_
                refine wpAnyH_takeDK (i := 6) (v := .slice xo ins.length xc) (some 87) rfl (by kernel_rfl) (by kernel_rfl) (by kernel_rfl) (by kernel_rfl) (fun _ _ _ h => h) (.inl ⟨by kernel_rfl, fun W _ => by kernel_rfl⟩) hd ?_
                refine wpAnyH_takeDK (i := 7) (v := .pointer (some ⟨ba, 2, none⟩)) (some 88) rfl (by kernel_rfl) (by kernel_rfl) (by kernel_rfl) (by kernel_rfl) (fun _ _ _ h => h) (.inl ⟨by kernel_rfl, fun W _ => by kernel_rfl⟩) hd ?_
                refine wpAnyH_takeDK (i := 8) (v := .string (bs cd)) (some 89) rfl (by kernel_rfl) (by kernel_rfl) (by kernel_rfl) (by kernel_rfl) (fun _ _ _ h => h) (yieldsIf_load1K (by kernel_rfl) 9 (.tmp 88) (by kernel_rfl) ba 2 _ (by kernel_rfl) (fun W hW => load_strK (HF.out W hW).2)) hd ?_
                refine wpAnyH_takeDK (i := 9) (v := .slice xo ins.length xc) (some 90) rfl (by kernel_rfl) (by kernel_rfl) (by kernel_rfl) (by kernel_rfl) (fun _ _ _ h => h) (.inl ⟨by kernel_rfl, fun W _ => by kernel_rfl⟩) hd ?_
                try simp only [Act.put, List.setIfInBounds_toArray, List.set_cons_zero, List.set_cons_succ]
                refine wpAnyH_all (rs := [10, 12]) (by kernel_rfl) (by simp) (fun i hi => ?_)
                have hi2 : i = 10 ∨ i = 12 := by simpa using hi
                rcases hi2 with rfl | rfl
                · refine wpOp_step rfl ?_
                  intro K1 hK1
                  refine Eq.mpr (if_pos (by kernel_rfl)) ?_
                  go_wp2_with (go_at_call 32; refine (HKEY.out _ hd).mono ?_; rintro e w13 ⟨rfl, hc13⟩)
                  have hd1 := hd.trans hc13 (fun _ _ h => h)
                  refine ⟨hd1, ?_⟩
                  refine wpAnyH_takeDK (i := 11) (v := JV) (some 92) rfl (by kernel_rfl) (by kernel_rfl) (by kernel_rfl) (by kernel_rfl) (fun _ _ _ h => h) (.inl ⟨by kernel_rfl, fun W _ => by rw [HJV.out]; kernel_rfl⟩) hd1 ?_
                  try simp only [Act.put, List.setIfInBounds_toArray, List.set_cons_zero, List.set_cons_succ]
                  refine wpAnyH_all (rs := [12]) (by kernel_rfl) (by simp) (fun i hi => ?_)
                  obtain rfl : i = 12 := by simpa using hi
                  refine wpOp_step rfl ?_
                  intro K2 hK2
                  refine Eq.mpr (if_pos (by kernel_rfl)) ?_
                  refine wp_allocO 13 rfl 85 rfl noJob (allocJob _) ?_
                  intro bj x14 hbj hk14 hs14 hc14
                  have HBJ := hid hbj
                  clear hbj hs14
                  have hd2 := hd1.trans hc14 (fun _ _ h => h)
                  refine hK2 _ _ ⟨hd2, ?_⟩
                  try simp only [Act.put, List.setIfInBounds_toArray, List.set_cons_zero, List.set_cons_succ]
                  refine wpAnyH_all (rs := [13]) (by kernel_rfl) (by simp) (fun i hi => ?_)
                  obtain rfl : i = 13 := by simpa using hi
                  refine wpOp_step (o := ⟨none, Op.store 85 (.tmp 13) (.tmp 92), _, _, _, _⟩) rfl ?_
                  intro K3 hK3
                  refine Eq.mpr (if_pos (by kernel_rfl)) ?_
                  refine wp_storeN 85 (.tmp 13) (.tmp 92) rfl bj 0 85 _ (jobA ByteArray.empty i (bs cd) (.slice xo ins.length xc) K) _ (by kernel_rfl) HJV.out hk14 (by rw [jobA_size]; exact sizeJob) (by unfold noJob; rw [jobA_size, jobA_size]; decide) (jobA_one _ _ _ _ rfl _) (job_whole _ _ _ _ _) rfl ?_
                  intro x15 hk15 hs15 hc15
                  have hd3 := hd2.trans hc15 (fun z hz e => by have h1 := hd1.size; rw [e, HBJ.out] at hz; exact absurd hz (by omega))
                  refine hK3 _ _ ⟨hd3, ?_⟩
                  try simp only [Act.put, List.setIfInBounds_toArray, List.set_cons_zero, List.set_cons_succ, Array.toArray_toList]
                  refine wpAnyH_done (by kernel_rfl) ?_ _
                  go_wp2_with fail
                  go_meet
                  case rel => exact ⟨bj, rfl, hid ⟨hk15, hd3, by have h1 := hd1.size; rw [HBJ.out]; exact h1⟩⟩
                · refine wpOp_step rfl ?_
                  intro K1 hK1
                  refine Eq.mpr (if_pos (by kernel_rfl)) ?_
                  refine wp_allocO 13 rfl 85 rfl noJob (allocJob _) ?_
                  intro bj x14 hbj hk14 hs14 hc14
                  have HBJ := hid hbj
                  clear hbj hs14
                  have hd1 := hd.trans hc14 (fun _ _ h => h)
                  refine hK1 _ _ ⟨hd1, ?_⟩
                  try simp only [Act.put, List.setIfInBounds_toArray, List.set_cons_zero, List.set_cons_succ]
                  refine wpAnyH_all (rs := [10]) (by kernel_rfl) (by simp) (fun i hi => ?_)
                  obtain rfl : i = 10 := by simpa using hi
                  refine wpOp_step rfl ?_
                  intro K2 hK2
                  refine Eq.mpr (if_pos (by kernel_rfl)) ?_
                  go_wp2_with (go_at_call 32; refine (HKEY.out _ hd1).mono ?_; rintro e w13 ⟨rfl, hc13⟩)
                  have hd2 := hd1.trans hc13 (fun _ _ h => h)
                  refine ⟨hd2, ?_⟩
                  refine wpAnyH_takeDK (i := 11) (v := JV) (some 92) rfl (by kernel_rfl) (by kernel_rfl) (by kernel_rfl) (by kernel_rfl) (fun _ _ _ h => h) (.inl ⟨by kernel_rfl, fun W _ => by rw [HJV.out]; kernel_rfl⟩) hd2 ?_
                  try simp only [Act.put, List.setIfInBounds_toArray, List.set_cons_zero, List.set_cons_succ]
                  refine wpAnyH_all (rs := [13]) (by kernel_rfl) (by simp) (fun i hi => ?_)
                  obtain rfl : i = 13 := by simpa using hi
                  refine wpOp_step (o := ⟨none, Op.store 85 (.tmp 13) (.tmp 92), _, _, _, _⟩) rfl ?_
                  intro K3 hK3
                  refine Eq.mpr (if_pos (by kernel_rfl)) ?_
                  refine wp_storeN 85 (.tmp 13) (.tmp 92) rfl bj 0 85 _ (jobA ByteArray.empty i (bs cd) (.slice xo ins.length xc) K) _ (by kernel_rfl) HJV.out (hc13.obj hk14 (fun h => h)) (by rw [jobA_size]; exact sizeJob) (by unfold noJob; rw [jobA_size, jobA_size]; decide) (jobA_one _ _ _ _ rfl _) (job_whole _ _ _ _ _) rfl ?_
                  intro x15 hk15 hs15 hc15
                  have hd3 := hd2.trans hc15 (fun z hz e => by have h1 := hd.size; rw [e, HBJ.out] at hz; exact absurd hz (by omega))
                  refine hK3 _ _ ⟨hd3, ?_⟩
                  try simp only [Act.put, List.setIfInBounds_toArray, List.set_cons_zero, List.set_cons_succ, Array.toArray_toList]
                  refine wpAnyH_done (by kernel_rfl) ?_ _
                  go_wp2_with fail
                  go_meet
                  case rel => exact ⟨bj, rfl, hid ⟨hk15, hd3, by have h1 := hd.size; rw [HBJ.out]; exact h1⟩⟩
              case rest =>
                obtain ⟨bj, rfl, HB⟩ := hcut
                have hkj := HB.out.1
                have ka0 := cell_of (HB.out.2.1.obj HKA.out (fun h => h)) 0
                simp at ka0
                have j0 := (job_cells hkj).1
                have jf := frozen_of hkj 0
                have hset := heap_set_same hkj 0 (.string (bs nm))
                rw [jobA_nm] at hset
                have hc16 : Chg (fun z => z = bj) wc (wc.setCell ⟨bj, 0, none⟩ (.string (bs nm))) := (Chg.refl (fun z => z = bj) wc).setCell (p := ⟨bj, 0, none⟩) (fun _ => rfl) _
                have HSET := hid hset
                have HC16 := hid hc16
                have HBJ : Hid (b2 ≠ bj ∧ wr.heap.size ≤ bj) := hid ⟨fun e => by have h1 := HB.out.2.2; have h2 := HLO.out; have h3 := HCX.out.size; omega, HB.out.2.2⟩
                have HK2W := hid (hc16.obj (HB.out.2.1.obj (HCXX.out.obj HK26.out (fun h => h)) (fun h => h)) HBJ.out.1)
                clear hkj hset hc16 HJV HF HKEY
                go_upto_region 20 with fail
                clear ka0 j0 jf
                go_wp2_with (first | (guard_target =~ wpList _ _ _ (Oper.mk (some 98) _ _ _ _ _ :: _) _ _; refine wpList_load0 rfl 85 _ rfl bj (jobA (bs nm) i (bs cd) (.slice xo ins.length xc) K) (.struct _) rfl HSET.out Tryz.underlying85 rfl (by rw [jobA_size]; kernel_rfl) ?_) | (guard_target =~ wpList _ _ _ (Oper.mk none (Op.store _ (Operand.tmp 2) _) _ _ _ _ :: _) _ _; refine wpList_store0 rfl 85 _ _ rfl b2 noJob (jobA (bs nm) i (bs cd) (.slice xo ins.length xc) K) rfl rfl HK2W.out (by rw [jobA_size]; exact sizeJob) (by unfold noJob; rw [jobA_size, jobA_size]) (jobA_one _ _ _ _ rfl _) ?_; intro x17 hk17 hs17 hc17))
                have hsx := HS.out
                subst hsx
                refine bodyPost_ret (v := .tuple #[.agg (jobA (bs nm) i (bs cd) (.slice xo ins.length xc) K), .bool true]) (results_cell2 Tryz.results47 _ _ b2 rfl _ (load_job hk17) _ rfl) rfl ⟨?_, .inr ⟨i, .slice xo ins.length xc, HNXT.out, HIN.out, ?_, ?_⟩⟩
                · exact (((HC06.out.trans HCXX.out (fun _ _ h => h)).trans HB.out.2.1 (fun _ _ h => h)).trans HC16.out (fun z hz e => by have h1 := HBJ.out.2; have h2 := HLO.out; have h3 := HCX.out.size; omega)).trans hc17 (fun z hz e => HB2.out z hz e)
                · rw [HNM.out.1, HNM.out.2, HIS.out, ← HKK.out]
                · rw [HIS.out]
                  have hown3 := (HOWN2.out.2.1 HB.out.2.1)
                  have hown4 := HC16.out.owns hown3 (fun z hz e => by have h1 := HOWN2.out.2.2 z hz; have h2 := HBJ.out.2; omega)
                  have hown5 := hc17.owns hown4 (fun z hz e => by have h1 := HBL.out z hz; have h2 := HLO.out; omega)
                  exact ResAt.of_owns (rs := ins.map (valT t)) (n := ins.length) (by simp) hown5 (by have := HSM.out; simp; omega) (fun r0 hr0 => by
                    obtain ⟨n0, _, rfl⟩ := List.mem_map.1 hr0
                    exact (HVL.out n0).1)
      · obtain rfl : k = ord.length := by omega
        have HJW := hid (HCH.out.obj HK26.out (fun h => h))
        have HJ4 := hid (HCH.out.obj HK6.out (fun h => h))
        have HNO := hid (HN.out.trans (find_none_take (fun j hj => HALL.out j hj hj)))
        go_wp2_with (first | (guard_target =~ wpList _ _ _ (Oper.mk (some 99) _ _ _ _ _ :: _) _ _; refine wpList_load0 rfl 85 _ rfl b4 noJob (.struct _) rfl HJ4.out Tryz.underlying85 rfl (by unfold noJob; rw [jobA_size]; kernel_rfl) ?_) | (guard_target =~ wpList _ _ _ (Oper.mk none (Op.store _ (Operand.tmp 2) _) _ _ _ _ :: _) _ _; refine wpList_store0 rfl 85 _ _ rfl b2 noJob noJob rfl rfl HJW.out (by unfold noJob; rw [jobA_size]; exact sizeJob) rfl (jobA_one _ _ _ _ rfl _) ?_; intro x9 hk9 hs9 hc9))
        refine bodyPost_ret (v := .tuple #[.agg noJob, .bool false]) (results_cell2 Tryz.results47 _ _ b2 rfl _ (load_job hk9) _ rfl) rfl (NextPost.none HNO.out rfl ((HC06.out.trans HCH.out (fun _ _ h => h)).trans hc9 (fun z hz e => HB2.out z hz e)))
  · have hst' : ((st : Int) != 1) = true := by rw [bne_iff_ne]; omega
    have HN := hid (show s.next = none by rw [← HS.out]; exact next_not hst)
    clear hst
    go_wp2_with (first | (guard_target =~ wpList _ _ _ (Oper.mk (some 20) _ _ _ _ _ :: _) _ _; refine wpList_load0 rfl 85 _ rfl b4 noJob (.struct _) rfl HK5.out Tryz.underlying85 rfl (by unfold noJob; rw [jobA_size]; kernel_rfl) ?_) | (guard_target =~ wpList _ _ _ (Oper.mk none (Op.store _ (Operand.tmp 2) _) _ _ _ _ :: _) _ _; refine wpList_store0 rfl 85 _ _ rfl b2 noJob noJob rfl rfl HK25.out (by unfold noJob; rw [jobA_size]; exact sizeJob) rfl (jobA_one _ _ _ _ rfl _) ?_; intro x9 hk9 hs9 hc9))
    refine bodyPost_ret (v := .tuple #[.agg noJob, .bool false]) (results_cell2 Tryz.results47 _ _ b2 rfl _ (load_job hk9) _ rfl) rfl (NextPost.none HN.out rfl (HC5.out.trans hc9 (fun z hz e => HB2.out z hz e)))
end
end Go.Proofs.YthglfmacjoecgaaGreatDoor
namespace Go.Proofs.YthglfmacjoecgaaGreatDoor
open Go.RowKit

section
variable {w0 w w' : World} {u ob hb : Nat} {sv av lv : Value} {iv : Nat → Value} {g : GrR} {srcs : List SrcR} {st : Nat} {t : ThT}
theorem rjob_any (h : IsRf w0 w u ob hb sv av lv iv g srcs st t) (hD : Done g srcs) (hT : TOK g srcs t) (hz : BkSize ⟨g, st, orderR g, t⟩) :
    Calls Tryz.prog 47 #[.pointer (some ⟨u, 0, none⟩)] w (JobPost w ⟨g, st, orderR g, t⟩) := by
  refine (rnext_any h hD hT hz).mono (fun e w' ⟨h1, h2⟩ => ⟨h1, ?_⟩)
  unfold BkS.jn BkS.jp BkS.jc BkS.jk BkS.js BkS.ji
  rcases h2 with ⟨hn, he⟩ | ⟨i, inV, hn, _, he, hr⟩
  · rw [hn]
    exact ⟨_, he, ResAt.nil w'⟩
  · rw [hn]
    exact ⟨inV, he, hr⟩
def RGivePost (w0 w : World) (u ob hb : Nat) (sv av lv : Value) (iv : Nat → Value) (g : GrR) (srcs : List SrcR) (s : BkS) (place : Int) (x : ResR) (e : Ending) (w' : World) : Prop :=
  e = .returned (.int .i64 (s.give place x).1) ∧ RfPost w0 w u ob hb sv av lv iv g srcs (s.give place x).2.st (s.give place x).2.t w'
set_option maxRecDepth 100000 in
set_option maxHeartbeats 8000000 in
theorem rgive_any (h : IsRf w0 w u ob hb sv av lv iv g srcs st t) (hL : Live g srcs ⟨g, st, orderR g, t⟩) (hz : BkSize ⟨g, st, orderR g, t⟩) (place : Int) (rc : Int) (rb : ByteArray) (hrb : rb.size ≤ maxLen) :
    Calls Tryz.prog 46 #[.pointer (some ⟨u, 0, none⟩), .int .i64 place, .agg #[.int .i64 rc, .string rb]] w (RGivePost w0 w u ob hb sv av lv iv g srcs ⟨g, st, orderR g, t⟩ place (rc, rb)) := by
  obtain ⟨s, hs⟩ : ∃ s : BkS, s = ⟨g, st, orderR g, t⟩ := ⟨_, rfl⟩
  have hj := fun (W : World) (hW : Chg (fun _ => False) w W) => rjob_any (h.same hW) hL.done hL.tok hz
  unfold JobPost at hj
  rw [← hs] at hj hL hz ⊢
  have HJ := hid hj
  have H := hid h
  have HL := hid hL
  have HS := hid hs
  have HC1 := hid (al_chg w (.cells #[.int .i64 rc, .string rb] 47))
  have HG1 := hid (heap_alloc_new' w (.cells #[.int .i64 rc, .string rb] 47))
  have HGN := hid (fun h : s.js = false => give_gone h place (rc, rb))
  have HGF := hid (fun (h : s.js = true) (hp : place ≠ s.jp) => give_far h hp (rc, rb))
  have HGB := hid (fun (h : s.js = true) (hx : resOK (rc, rb) = false) => give_badR h hx)
  unfold maxLen at hrb
  clear h hL hz hs hj
  obtain ⟨jn, hjn⟩ : ∃ jn, jn = s.jn := ⟨_, rfl⟩
  obtain ⟨jp, hjp⟩ : ∃ jp, jp = s.jp := ⟨_, rfl⟩
  obtain ⟨jc, hjc⟩ : ∃ jc, jc = s.jc := ⟨_, rfl⟩
  obtain ⟨jk, hjk⟩ : ∃ jk, jk = s.jk := ⟨_, rfl⟩
  obtain ⟨ji, hji⟩ : ∃ ji, ji = s.ji := ⟨_, rfl⟩
  rw [← hjn, ← hjp, ← hjc, ← hjk, ← hji] at HJ
  have HJP := hid hjp
  have HJ1 := hid (HJ.out _ HC1.out)
  clear hjn hjp hjc hjk hji
  cases hjs : s.js with
  | false =>
    rw [hjs] at HJ1
    have hgn := HGN.out hjs
    unfold RGivePost
    rw [hgn]
    have HSS := hid (show s.st = st ∧ s.t = t by rw [HS.out]; exact ⟨rfl, rfl⟩)
    clear hjs hgn
    go_enter Tryz.func46, Tryz.ntmps46
    go_wp2_with (first | (go_at_call 47; refine HJ1.out.mono ?_; rintro e u2 ⟨hc2, iv2, rfl, hin2⟩; obtain ⟨io2, ic2, rfl⟩ := hin2.form; have HIN2 := hid hin2; have HCA2 := hid hc2; clear hin2 hc2) | (guard_target =~ wpList _ _ _ (Oper.mk (some 7) _ _ _ _ _ :: _) _ _; refine wpList_alloc0 rfl 85 rfl noJob (allocJob _) ?_; intro v2 hk2 hs2 hc2; have HKA2 := hid hk2; have HCB2 := hid hc2; clear hk2 hs2 hc2) | (guard_target =~ wpList _ _ _ (Oper.mk none (Op.store _ (Operand.tmp 7) _) _ _ _ _ :: _) _ _; refine wpList_store0 rfl 85 _ _ rfl u2.heap.size noJob (jobA jn jp jc (.slice io2 ji.length ic2) jk) rfl rfl HKA2.out (by rw [jobA_size]; exact sizeJob) (by unfold noJob; rw [jobA_size, jobA_size]) (jobA_one _ _ _ _ rfl _) ?_; intro x2 hk2 hs2 hc2; have HK2 := hid hk2; have HD2 := hid (HCB2.out.trans hc2 (fun z hz e => by omega)); clear hk2 hs2 hc2 HKA2 HCB2))
    go_ret
    have hc := (HC1.out.trans HCA2.out (fun _ _ h => h)).trans HD2.out (fun _ _ h => h)
    rw [HSS.out.1, HSS.out.2]
    exact ⟨rfl, hc.mono (fun _ _ h => h.elim), H.out.same hc⟩
  | true =>
    rw [hjs] at HJ1
    have HSS := hid (show s.st = st ∧ s.t = t by rw [HS.out]; exact ⟨rfl, rfl⟩)
    by_cases hpj : place = (jp : Int)
    · subst hpj
      have hpe : ((jp : Int) != (jp : Int)) = false := by simp
      have hbe := str_beqK rb ByteArray.empty
      by_cases h512 : (512 : Int) < (rb.size : Int)
      · have hgb := HGB.out hjs (by unfold resOK; simp; omega)
        rw [← HJP.out] at hgb
        unfold RGivePost
        rw [hgb]
        clear hjs hgb
        by_cases hc0 : rc = 0
        · have d0 : (rc != 0) = false := by rw [bne_eq_false_iff_eq]; exact hc0
          clear hc0
          go_enter Tryz.func46, Tryz.ntmps46
          go_upto_region 2 with (first | (go_at_call 47; refine HJ1.out.mono ?_; rintro e u2 ⟨hc2, iv2, rfl, hin2⟩; obtain ⟨io2, ic2, rfl⟩ := hin2.form; have HIN2 := hid hin2; have HCA2 := hid hc2; clear hin2 hc2) | (guard_target =~ wpList _ _ _ (Oper.mk (some 7) _ _ _ _ _ :: _) _ _; refine wpList_alloc0 rfl 85 rfl noJob (allocJob _) ?_; intro v2 hk2 hs2 hc2; have HKA2 := hid hk2; have HCB2 := hid hc2; clear hk2 hs2 hc2) | (guard_target =~ wpList _ _ _ (Oper.mk none (Op.store _ (Operand.tmp 7) _) _ _ _ _ :: _) _ _; refine wpList_store0 rfl 85 _ _ rfl u2.heap.size noJob (jobA jn jp jc (.slice io2 ji.length ic2) jk) rfl rfl HKA2.out (by rw [jobA_size]; exact sizeJob) (by unfold noJob; rw [jobA_size, jobA_size]) (jobA_one _ _ _ _ rfl _) ?_; intro x2 hk2 hs2 hc2; have HK2 := hid hk2; have HD2 := hid (HCB2.out.trans hc2 (fun z hz e => by omega)); clear hk2 hs2 hc2 HKA2 HCB2))
          have hz2 := HCA2.out.trans HD2.out (fun _ _ h => h)
          have hg2 := hz2.obj HG1.out (fun h => h)
          have r0 := cell_of hg2 0
          have r1 := cell_of hg2 1
          simp at r0 r1
          obtain ⟨y0, y1, y2, y3⟩ := job_cells HK2.out
          clear hg2
          go_wp2_with fail
          go_ret
          have hc := HC1.out.trans hz2 (fun _ _ h => h)
          rw [HSS.out.1, HSS.out.2]
          exact ⟨rfl, hc.mono (fun _ _ h => h.elim), H.out.same hc⟩
        · have d0 : (rc != 0) = true := by rw [bne_iff_ne]; exact hc0
          clear hc0
          by_cases hx : rb = ByteArray.empty
          · exfalso; rw [hx] at h512; exact absurd h512 (by decide)
          · rw [decide_eq_false hx] at hbe
            have XE : ¬ rb.toList = [] := fun e => hx (ByteArray.ext (Array.toList_inj.1 (by rw [← Lib.toList_data, e]; rfl)))
            go_enter Tryz.func46, Tryz.ntmps46
            go_upto_region 2 with (first | (go_at_call 47; refine HJ1.out.mono ?_; rintro e u2 ⟨hc2, iv2, rfl, hin2⟩; obtain ⟨io2, ic2, rfl⟩ := hin2.form; have HIN2 := hid hin2; have HCA2 := hid hc2; clear hin2 hc2) | (guard_target =~ wpList _ _ _ (Oper.mk (some 7) _ _ _ _ _ :: _) _ _; refine wpList_alloc0 rfl 85 rfl noJob (allocJob _) ?_; intro v2 hk2 hs2 hc2; have HKA2 := hid hk2; have HCB2 := hid hc2; clear hk2 hs2 hc2) | (guard_target =~ wpList _ _ _ (Oper.mk none (Op.store _ (Operand.tmp 7) _) _ _ _ _ :: _) _ _; refine wpList_store0 rfl 85 _ _ rfl u2.heap.size noJob (jobA jn jp jc (.slice io2 ji.length ic2) jk) rfl rfl HKA2.out (by rw [jobA_size]; exact sizeJob) (by unfold noJob; rw [jobA_size, jobA_size]) (jobA_one _ _ _ _ rfl _) ?_; intro x2 hk2 hs2 hc2; have HK2 := hid hk2; have HD2 := hid (HCB2.out.trans hc2 (fun z hz e => by omega)); clear hk2 hs2 hc2 HKA2 HCB2))
            have hz2 := HCA2.out.trans HD2.out (fun _ _ h => h)
            have hg2 := hz2.obj HG1.out (fun h => h)
            have r0 := cell_of hg2 0
            have r1 := cell_of hg2 1
            simp at r0 r1
            obtain ⟨y0, y1, y2, y3⟩ := job_cells HK2.out
            clear hg2
            go_wp2_with fail
            go_ret
            have hc := HC1.out.trans hz2 (fun _ _ h => h)
            rw [HSS.out.1, HSS.out.2]
            exact ⟨rfl, hc.mono (fun _ _ h => h.elim), H.out.same hc⟩
      · by_cases hok : resOK (rc, rb) = true
        · obtain ⟨i, hnx⟩ := js_some hjs
          obtain rfl : jp = i := HJP.out.trans (jp_some hnx)
          have hgt := give_took hjs hok
          rw [← HJP.out, took_some hnx] at hgt
          have HIN := hid (HL.out.next hnx).1
          have htok := HL.out.tok
          have e1 : (s.put jp (rc, rb)).st = if (settleL g (orderR g) (lput (nameAt g jp) (rc, rb) t)).length = g.srcs.length + g.acts.length then 2 else st := by rw [HS.out]; rfl
          have e2 : (s.put jp (rc, rb)).t = settleL g (orderR g) (lput (nameAt g jp) (rc, rb) t) := by rw [HS.out]; rfl
          rw [HS.out] at htok
          have HD := hid HL.out.done
          have HTK := hid (htok.put HL.out.done HIN.out (rc, rb))
          unfold RGivePost
          rw [hgt]
          simp only
          rw [e1, e2]
          have HSE := hid (fun (W : World) (hW : IsRf w0 W u ob hb sv av lv iv g srcs st (lput (nameAt g jp) (rc, rb) t)) => rsettle_any hW HD.out HTK.out)
          generalize (if (settleL g (orderR g) (lput (nameAt g jp) (rc, rb) t)).length = g.srcs.length + g.acts.length then 2 else st) = st2 at HSE ⊢
          generalize settleL g (orderR g) (lput (nameAt g jp) (rc, rb) t) = t2 at HSE ⊢
          have hcase : ((rc != 0) = false) ∨ ((rc != 0) = true ∧ rb = ByteArray.empty) := by
            by_cases h0 : rc = 0
            · exact .inl (by rw [bne_eq_false_iff_eq]; exact h0)
            · refine .inr ⟨by rw [bne_iff_ne]; exact h0, ?_⟩
              unfold resOK at hok
              simp [h0] at hok
              exact hok.2
          have HZZ := hid h512
          clear hjs hgt hok e1 e2 hnx htok HGB HGF HGN HTK HL HS
          go_enter Tryz.func46, Tryz.ntmps46
          go_upto_region 2 with (first | (go_at_call 47; refine HJ1.out.mono ?_; rintro e u2 ⟨hc2, iv2, rfl, hin2⟩; obtain ⟨io2, ic2, rfl⟩ := hin2.form; have HIN2 := hid hin2; have HCA2 := hid hc2; clear hin2 hc2) | (guard_target =~ wpList _ _ _ (Oper.mk (some 7) _ _ _ _ _ :: _) _ _; refine wpList_alloc0 rfl 85 rfl noJob (allocJob _) ?_; intro v2 hk2 hs2 hc2; have HKA2 := hid hk2; have HCB2 := hid hc2; clear hk2 hs2 hc2) | (guard_target =~ wpList _ _ _ (Oper.mk none (Op.store _ (Operand.tmp 7) _) _ _ _ _ :: _) _ _; refine wpList_store0 rfl 85 _ _ rfl u2.heap.size noJob (jobA jn jp jc (.slice io2 ji.length ic2) jk) rfl rfl HKA2.out (by rw [jobA_size]; exact sizeJob) (by unfold noJob; rw [jobA_size, jobA_size]) (jobA_one _ _ _ _ rfl _) ?_; intro x2 hk2 hs2 hc2; have HK2 := hid hk2; have HD2 := hid (HCB2.out.trans hc2 (fun z hz e => by omega)); clear hk2 hs2 hc2 HKA2 HCB2))
          have hz2 := HCA2.out.trans HD2.out (fun _ _ h => h)
          have hg2 := hz2.obj HG1.out (fun h => h)
          have r0 := cell_of hg2 0
          have r1 := cell_of hg2 1
          simp at r0 r1
          obtain ⟨y0, y1, y2, y3⟩ := job_cells HK2.out
          have HC2 := hid (HC1.out.trans hz2 (fun _ _ h => h))
          obtain ⟨rx, hrx⟩ : ∃ rx, rx = w.heap.size := ⟨_, rfl⟩
          rw [← hrx] at r0 r1 ⊢
          have H2 := hid (H.out.same HC2.out)
          have HRX : Hid (rx ≠ ob ∧ rx ≠ hb ∧ rx ≠ u) := hid (by
            have h1 := heap_lt H.out.blk; have h2 := heap_lt H.out.out; have h3 := heap_lt H.out.has
            omega)
          clear hg2 hz2 hrx HCA2 HD2 HIN2
          go_upto_region 4 with fail
          go_cut [35] from 22 to 35 (fun s wx => s = .bool false ∧ x2 = wx)
          case first =>
            rcases hcase with d0 | ⟨d0, hx⟩
            · go_wp2_with fail
              go_meet
              case rel => exact ⟨by first | rfl | (have := HZZ.out; simp; omega), rfl⟩
            · rw [decide_eq_true hx] at hbe
              have XE : rb.toList = [] := by rw [hx, Lib.toList_data]; rfl
              go_wp2_with fail
              go_meet
              case rel => exact ⟨by first | rfl | (have := HZZ.out; simp; omega), rfl⟩
          case rest =>
          obtain ⟨rfl, rfl⟩ := hcut
          have HX0 : Hid (x2.cell? ⟨rx, 0, none⟩ = some (.int .i64 rc) ∧ x2.cell? ⟨rx, 1, none⟩ = some (.string rb)) := hid ⟨r0, r1⟩
          have hu4 := cell_of H2.out.blk 4
          have hu5 := cell_of H2.out.blk 5
          simp at hu4 hu5
          have HNE := hid H2.out.ne
          have HOUT := hid H2.out.out
          have HHAS := hid H2.out.has
          have hixo := index_res ob g.acts.length jp HIN.out
          have hixh := index_bool hb g.acts.length jp HIN.out
          clear hcase r0 r1 y0 y1 y2 y3 h512 hbe HK2
          go_upto_region 6 with fail
          have HF : Hid (∀ W, Chg (fun k => k = ob) x2 W → W.cell? ⟨u, 4, none⟩ = some (.slice (some ⟨ob, 0, none⟩) g.acts.length g.acts.length) ∧ W.cell? ⟨u, 5, none⟩ = some (.slice (some ⟨hb, 0, none⟩) g.acts.length g.acts.length) ∧ W.cell? ⟨rx, 0, none⟩ = some (.int .i64 rc) ∧ W.cell? ⟨rx, 1, none⟩ = some (.string rb)) := hid (fun W hW => ⟨hW.cell hu4 HNE.out.1, hW.cell hu5 HNE.out.1, hW.cell HX0.out.1 HRX.out.1, hW.cell HX0.out.2 HRX.out.1⟩)
          clear hu4 hu5
          refine wp_region_held_drew (S := fun W => Chg (fun k => k = ob) x2 W) (by kernel_rfl) ((Chg.refl _ x2).drew) (fun hd => ?_)
          refine wpAnyH_takeDK (i := 0) (v := .pointer (some ⟨u, 0, none⟩)) (some 36) rfl (by kernel_rfl) (by kernel_rfl) (by kernel_rfl) (by kernel_rfl) (fun _ _ _ h => h) (.inl ⟨by kernel_rfl, fun W _ => by kernel_rfl⟩) hd ?_
          refine wpAnyH_takeDK (i := 1) (v := .pointer (some ⟨u, 0, none⟩)) (some 37) rfl (by kernel_rfl) (by kernel_rfl) (by kernel_rfl) (by kernel_rfl) (fun _ _ _ h => h) (.inl ⟨by kernel_rfl, fun W _ => by kernel_rfl⟩) hd ?_
          refine wpAnyH_takeDK (i := 2) (v := .pointer (some ⟨u, 4, none⟩)) (some 38) rfl (by kernel_rfl) (by kernel_rfl) (by kernel_rfl) (by kernel_rfl) (fun _ _ _ h => h) (.inl ⟨by kernel_rfl, fun W _ => by kernel_rfl⟩) hd ?_
          refine wpAnyH_takeDK (i := 3) (v := .slice (some ⟨ob, 0, none⟩) g.acts.length g.acts.length) (some 39) rfl (by kernel_rfl) (by kernel_rfl) (by kernel_rfl) (by kernel_rfl) (fun _ _ _ h => h) (yieldsIf_load1K (by kernel_rfl) 58 (.tmp 38) (by kernel_rfl) u 4 _ (by kernel_rfl) (fun W hW => load_ress2 (HF.out W hW).1)) hd ?_
          refine wpAnyH_takeDK (i := 4) (v := .int .i64 jp) (some 40) rfl (by kernel_rfl) (by kernel_rfl) (by kernel_rfl) (by kernel_rfl) (fun _ _ _ h => h) (.inl ⟨by kernel_rfl, fun W _ => by kernel_rfl⟩) hd ?_
          refine wpAnyH_takeDK (i := 5) (v := .agg #[.int .i64 rc, .string rb]) (some 41) rfl (by kernel_rfl) (by kernel_rfl) (by kernel_rfl) (by kernel_rfl) (fun _ _ _ h => h) (yieldsIf_load1K (by kernel_rfl) 47 (.tmp 5) (by kernel_rfl) rx 0 _ (by kernel_rfl) (fun W hW => load_resK (HF.out W hW).2.2.1 (HF.out W hW).2.2.2)) hd ?_
          refine wpAnyH_takeDK (i := 6) (v := .pointer (some ⟨ob, jp * 2, none⟩)) (some 42) rfl (by kernel_rfl) (by kernel_rfl) (by kernel_rfl) (by kernel_rfl) (fun _ _ _ h => h) (yieldsIf_index (by kernel_rfl) 58 (.tmp 39) (.tmp 40) (by kernel_rfl) _ _ _ (by kernel_rfl) (by kernel_rfl) (fun W => hixo W)) hd ?_
          try simp only [Act.put, List.setIfInBounds_toArray, List.set_cons_zero, List.set_cons_succ]
          refine wpAnyH_all (rs := [7]) (by kernel_rfl) (by simp) (fun i hi => ?_)
          obtain rfl : i = 7 := by simpa using hi
          refine wpOp_step rfl ?_
          intro K1 hK1
          refine Eq.mpr (if_pos (by kernel_rfl)) ?_
          refine wp_storeN 47 (.tmp 42) (.tmp 41) rfl ob (jp * 2) 47 _ #[.int .i64 rc, .string rb] _ (by kernel_rfl) (by kernel_rfl) HOUT.out (fun w => by kernel_rfl) (by rw [resB_size]; have : (jp + 1) * 2 ≤ g.acts.length * 2 := Nat.mul_le_mul_right _ HIN.out; show jp * 2 + 2 ≤ _; omega) (by rfl) (resB_put g.acts.length _ jp HIN.out (rc, rb)) rfl ?_
          intro x8 hk8 hs8 hc8
          have hd1 := hd.trans hc8 (fun _ _ h => h)
          refine hK1 _ _ ⟨hd1, ?_⟩
          try simp only [Act.put, List.setIfInBounds_toArray, List.set_cons_zero, List.set_cons_succ, Array.toArray_toList]
          refine wpAnyH_done (by kernel_rfl) ?_ _
          have HC8 := hid hd1
          have HK8 := hid hk8
          have hf8 := HF.out x8 hd1
          have HHAS8 := hid (hd1.obj HHAS.out (fun e => HNE.out.2.2 e.symm))
          clear hd hd1 hk8 hs8 hc8
          have hu58 := hf8.2.1
          have hh8 := cell_of HHAS8.out jp
          have fz8 := frozen_of HHAS8.out jp
          rw [boolB_get _ _ _ HIN.out] at hh8
          have hk9 := heap_set_same HHAS8.out jp (.bool true)
          rw [boolB_put _ _ _ _ HIN.out] at hk9
          have hd1 : Chg (fun k => k = hb) x8 (x8.setCell ⟨hb, jp, none⟩ (.bool true)) := (Chg.refl (fun k => k = hb) x8).setCell (p := ⟨hb, jp, none⟩) (fun _ => rfl) _
          have HR9 := hid (H2.out.put HD.out HIN.out (rc, rb) HK8.out HC8.out hk9 hd1)
          have HC9 := hid ((HC2.out.mono (G := fun k => k = u ∨ k = ob ∨ k = hb) (fun _ _ h => h.elim)).trans ((HC8.out.mono (G := fun k => k = u ∨ k = ob ∨ k = hb) (fun _ _ e => .inr (.inl e))).trans (hd1.mono (G := fun k => k = u ∨ k = ob ∨ k = hb) (fun _ _ e => .inr (.inr e))) (fun _ _ h => h)) (fun _ _ h => h))
          clear hd1 hk9 hf8
          go_upto_region 8 with fail
          go_wp2_with (go_at_call 83; refine (HSE.out _ HR9.out).mono ?_; rintro e w10 ⟨rfl, hc10, hr10⟩)
          go_ret
          exact ⟨rfl, HC9.out.trans hc10 (fun _ _ h => h), hr10⟩
        · have hbad : resOK (rc, rb) = false := by simpa using hok
          have hgb := HGB.out hjs hbad
          rw [← HJP.out] at hgb
          unfold RGivePost
          rw [hgb]
          have hx : ¬ rb = ByteArray.empty := fun e => by rw [e] at hok; exact hok (by unfold resOK; simp)
          have hc0 : ¬ rc = 0 := fun e => hok (by unfold resOK; simp [e]; omega)
          have d0 : (rc != 0) = true := by rw [bne_iff_ne]; exact hc0
          rw [decide_eq_false hx] at hbe
          have XE : ¬ rb.toList = [] := fun e => hx (ByteArray.ext (Array.toList_inj.1 (by rw [← Lib.toList_data, e]; rfl)))
          clear hjs hgb hok hbad hc0
          go_enter Tryz.func46, Tryz.ntmps46
          go_upto_region 2 with (first | (go_at_call 47; refine HJ1.out.mono ?_; rintro e u2 ⟨hc2, iv2, rfl, hin2⟩; obtain ⟨io2, ic2, rfl⟩ := hin2.form; have HIN2 := hid hin2; have HCA2 := hid hc2; clear hin2 hc2) | (guard_target =~ wpList _ _ _ (Oper.mk (some 7) _ _ _ _ _ :: _) _ _; refine wpList_alloc0 rfl 85 rfl noJob (allocJob _) ?_; intro v2 hk2 hs2 hc2; have HKA2 := hid hk2; have HCB2 := hid hc2; clear hk2 hs2 hc2) | (guard_target =~ wpList _ _ _ (Oper.mk none (Op.store _ (Operand.tmp 7) _) _ _ _ _ :: _) _ _; refine wpList_store0 rfl 85 _ _ rfl u2.heap.size noJob (jobA jn jp jc (.slice io2 ji.length ic2) jk) rfl rfl HKA2.out (by rw [jobA_size]; exact sizeJob) (by unfold noJob; rw [jobA_size, jobA_size]) (jobA_one _ _ _ _ rfl _) ?_; intro x2 hk2 hs2 hc2; have HK2 := hid hk2; have HD2 := hid (HCB2.out.trans hc2 (fun z hz e => by omega)); clear hk2 hs2 hc2 HKA2 HCB2))
          have hz2 := HCA2.out.trans HD2.out (fun _ _ h => h)
          have hg2 := hz2.obj HG1.out (fun h => h)
          have r0 := cell_of hg2 0
          have r1 := cell_of hg2 1
          simp at r0 r1
          obtain ⟨y0, y1, y2, y3⟩ := job_cells HK2.out
          clear hg2
          go_wp2_with fail
          go_ret
          have hc := HC1.out.trans hz2 (fun _ _ h => h)
          rw [HSS.out.1, HSS.out.2]
          exact ⟨rfl, hc.mono (fun _ _ h => h.elim), H.out.same hc⟩
    · have hgf := HGF.out hjs (by rw [← HJP.out]; exact hpj)
      unfold RGivePost
      rw [hgf]
      have hne : ((jp : Int) != place) = true := by rw [bne_iff_ne]; exact fun e => hpj e.symm
      clear hjs hgf hpj
      go_enter Tryz.func46, Tryz.ntmps46
      go_upto_region 2 with (first | (go_at_call 47; refine HJ1.out.mono ?_; rintro e u2 ⟨hc2, iv2, rfl, hin2⟩; obtain ⟨io2, ic2, rfl⟩ := hin2.form; have HIN2 := hid hin2; have HCA2 := hid hc2; clear hin2 hc2) | (guard_target =~ wpList _ _ _ (Oper.mk (some 7) _ _ _ _ _ :: _) _ _; refine wpList_alloc0 rfl 85 rfl noJob (allocJob _) ?_; intro v2 hk2 hs2 hc2; have HKA2 := hid hk2; have HCB2 := hid hc2; clear hk2 hs2 hc2) | (guard_target =~ wpList _ _ _ (Oper.mk none (Op.store _ (Operand.tmp 7) _) _ _ _ _ :: _) _ _; refine wpList_store0 rfl 85 _ _ rfl u2.heap.size noJob (jobA jn jp jc (.slice io2 ji.length ic2) jk) rfl rfl HKA2.out (by rw [jobA_size]; exact sizeJob) (by unfold noJob; rw [jobA_size, jobA_size]) (jobA_one _ _ _ _ rfl _) ?_; intro x2 hk2 hs2 hc2; have HK2 := hid hk2; have HD2 := hid (HCB2.out.trans hc2 (fun z hz e => by omega)); clear hk2 hs2 hc2 HKA2 HCB2))
      obtain ⟨y0, y1, y2, y3⟩ := job_cells HK2.out
      go_wp2_with fail
      go_ret
      have hc := (HC1.out.trans HCA2.out (fun _ _ h => h)).trans HD2.out (fun _ _ h => h)
      rw [HSS.out.1, HSS.out.2]
      exact ⟨rfl, hc.mono (fun _ _ h => h.elim), H.out.same hc⟩
end
end Go.Proofs.YthglfmacjoecgaaGreatDoor
namespace Go.Proofs.YthglfmacjoecgaaGreatDoor
open Go.RowKit

section
variable {w0 w w' : World} {u : Nat} {st : Nat} {x0 x1 x2 y0 y1 : Value}
set_option maxRecDepth 100000 in
set_option maxHeartbeats 8000000 in
theorem rnext_off (h : w.heap[u]? = some (.cells #[x0, x1, x2, .int .i64 st, y0, y1] 96 (0, 0))) (hst : st ≠ 1) :
    Calls Tryz.prog 47 #[.pointer (some ⟨u, 0, none⟩)] w (Rets (.tuple #[.agg noJob, .bool false]) (Chg (fun _ => False) w)) := by
  have H := hid h
  clear h
  go_enter Tryz.func47, Tryz.ntmps47
  go_upto_region 2 with (first | (guard_target =~ wpList _ _ _ (Oper.mk (some 2) _ _ _ _ _ :: _) _ _; refine wpList_alloc0 rfl 85 rfl noJob (allocJob _) ?_; intro w2 hk2 hs2 hc2; have HK2 := hid hk2; have HC2 := hid hc2; have HS2 := hid hs2; clear hk2 hc2 hs2) | (guard_target =~ wpList _ _ _ (Oper.mk (some 14) _ _ _ _ _ :: _) _ _; refine wpList_build0 rfl 85 rfl _ (buildJob0 _) ?_) | (guard_target =~ wpList _ _ _ (Oper.mk (some 4) _ _ _ _ _ :: _) _ _; refine wpList_alloc0 rfl 85 rfl noJob (allocJob _) ?_; intro w4 hk4 hs4 hc4; have HK4 := hid hk4; have HC4 := hid (HC2.out.trans hc4 (fun _ _ h => h)); have HK24 := hid (hc4.obj HK2.out (fun h => h)); clear hk4 hc4 hs4) | (guard_target =~ wpList _ _ _ (Oper.mk none (Op.store _ (Operand.tmp 4) _) _ _ _ _ :: _) _ _; refine wpList_store0 rfl 85 _ _ rfl w2.heap.size noJob noJob rfl rfl HK4.out (by unfold noJob; rw [jobA_size]; exact sizeJob) rfl (jobA_one _ _ _ _ rfl _) ?_; intro x5 hk5 hs5 hc5; have HK5 := hid hk5; have HC5 := hid (HC4.out.trans hc5 (fun z hz e => by have := HC2.out.size; omega)); have HK25 := hid (hc5.obj HK24.out (fun e => by have := HS2.out; omega)); clear hk5 hs5 hc5))
  obtain ⟨b2, hb2⟩ : ∃ b2, b2 = w.heap.size := ⟨_, rfl⟩
  obtain ⟨b4, hb4⟩ : ∃ b4, b4 = w2.heap.size := ⟨_, rfl⟩
  rw [← hb2] at HK25 ⊢
  rw [← hb4] at HK5 ⊢
  have HB2 : Hid (∀ z, z < w.heap.size → ¬ z = b2) := hid (fun z hz e => by omega)
  have q3 := cell_of (HC5.out.obj H.out (fun h => h)) 3
  simp at q3
  clear hb2 hb4 HK2 HC2 HS2 HK4 HC4 HK24
  have hst' : ((st : Int) != 1) = true := by rw [bne_iff_ne]; omega
  clear hst
  go_wp2_with (first | (guard_target =~ wpList _ _ _ (Oper.mk (some 20) _ _ _ _ _ :: _) _ _; refine wpList_load0 rfl 85 _ rfl b4 noJob (.struct _) rfl HK5.out Tryz.underlying85 rfl (by unfold noJob; rw [jobA_size]; kernel_rfl) ?_) | (guard_target =~ wpList _ _ _ (Oper.mk none (Op.store _ (Operand.tmp 2) _) _ _ _ _ :: _) _ _; refine wpList_store0 rfl 85 _ _ rfl b2 noJob noJob rfl rfl HK25.out (by unfold noJob; rw [jobA_size]; exact sizeJob) rfl (jobA_one _ _ _ _ rfl _) ?_; intro x9 hk9 hs9 hc9))
  refine bodyPost_ret (v := .tuple #[.agg noJob, .bool false]) (results_cell2 Tryz.results47 _ _ b2 rfl _ (load_job hk9) _ rfl) rfl ⟨rfl, HC5.out.trans hc9 (fun z hz e => HB2.out z hz e)⟩
theorem rjob_off {s : BkS} (h : w.heap[u]? = some (.cells #[x0, x1, x2, .int .i64 st, y0, y1] 96 (0, 0))) (hst : st ≠ 1) (hs : s.next = none) :
    Calls Tryz.prog 47 #[.pointer (some ⟨u, 0, none⟩)] w (JobPost w s) := by
  refine (rnext_off h hst).mono (fun e w' ⟨h1, h2⟩ => ⟨h2, ?_⟩)
  unfold BkS.jn BkS.jp BkS.jc BkS.jk BkS.js BkS.ji
  rw [hs]
  exact ⟨_, h1, ResAt.nil w'⟩
set_option maxRecDepth 100000 in
set_option maxHeartbeats 8000000 in
theorem rgive_off (h : w.heap[u]? = some (.cells #[x0, x1, x2, .int .i64 st, y0, y1] 96 (0, 0))) (hst : st ≠ 1) (place : Int) (rc : Int) (rb : ByteArray) :
    Calls Tryz.prog 46 #[.pointer (some ⟨u, 0, none⟩), .int .i64 place, .agg #[.int .i64 rc, .string rb]] w (Rets (.int .i64 12) (Chg (fun _ => False) w)) := by
  have HJ1 := hid (rjob_off (s := BkS.new) ((al_chg w (.cells #[.int .i64 rc, .string rb] 47)).obj h (fun h => h)) hst rfl)
  have HC1 := hid (al_chg w (.cells #[.int .i64 rc, .string rb] 47))
  unfold JobPost at HJ1
  clear h hst
  go_enter Tryz.func46, Tryz.ntmps46
  go_wp2_with (first | (go_at_call 47; refine HJ1.out.mono ?_; rintro e u2 ⟨hc2, iv2, rfl, hin2⟩; obtain ⟨io2, ic2, rfl⟩ := hin2.form; have HIN2 := hid hin2; have HCA2 := hid hc2; clear hin2 hc2) | (guard_target =~ wpList _ _ _ (Oper.mk (some 7) _ _ _ _ _ :: _) _ _; refine wpList_alloc0 rfl 85 rfl noJob (allocJob _) ?_; intro v2 hk2 hs2 hc2; have HKA2 := hid hk2; have HCB2 := hid hc2; clear hk2 hs2 hc2) | (guard_target =~ wpList _ _ _ (Oper.mk none (Op.store _ (Operand.tmp 7) _) _ _ _ _ :: _) _ _; refine wpList_store0 rfl 85 _ _ rfl u2.heap.size noJob (jobA ByteArray.empty 0 ByteArray.empty (.slice io2 0 ic2) zeroF) rfl rfl HKA2.out (by rw [jobA_size]; exact sizeJob) (by unfold noJob; rw [jobA_size, jobA_size]) (jobA_one _ _ _ _ rfl _) ?_; intro x2 hk2 hs2 hc2; have HK2 := hid hk2; have HD2 := hid (HCB2.out.trans hc2 (fun z hz e => by omega)); clear hk2 hs2 hc2 HKA2 HCB2))
  go_ret
  exact ⟨rfl, (HC1.out.trans HCA2.out (fun _ _ h => h)).trans HD2.out (fun _ _ h => h)⟩
theorem srcT_no {g : GrR} {srcs : List SrcR} (hD : Done g srcs) {i : Nat} (hi : i < g.acts.length) : outR g (srcT srcs) i = noRes ∧ hasR g (srcT srcs) i = false := by
  have h1 : hasR g (srcT srcs) i = false := by
    unfold hasR
    cases h : isT (srcT srcs) (nameAt g i) with
    | false => rfl
    | true => exact absurd ((hD.fit.mem _).1 ((srcT_some srcs hD.fit.nd _).1 h)) (hD.can.w.apart hi)
  refine ⟨?_, h1⟩
  unfold hasR isT at h1
  unfold outR valT
  cases h : lval (nameAt g i) (srcT srcs) with
  | none => rfl
  | some r => rw [h] at h1; cases h1
def RStartPost (w0 w : World) (u : Nat) (sv av lv : Value) (iv : Nat → Value) (g : GrR) (srcs : List SrcR) (e : Ending) (w' : World) : Prop :=
  e = .returned (.int .i64 (checkS g srcs)) ∧ Chg (fun k => k = u) w w' ∧
    ((checkS g srcs ≠ 0 ∧ ∃ z0 z1 z2, w'.heap[u]? = some (.cells #[z0, z1, z2, .int .i64 4, .slice none 0 0, .slice none 0 0] 96 (0, 0))) ∨
     (checkS g srcs = 0 ∧ ∃ ob hb, w.heap.size ≤ ob ∧ w.heap.size ≤ hb ∧ IsRf w0 w' u ob hb sv av lv iv g srcs (BkS.begun g srcs).st (BkS.begun g srcs).t))
set_option maxRecDepth 100000 in
set_option maxHeartbeats 8000000 in
theorem rstart_any (h : w.heap[u]? = some (.cells #[x0, x1, x2, .int .i64 st, y0, y1] 96 (0, 0))) (hc0 : Chg (fun _ => False) w0 w) (hlo : w0.heap.size ≤ u) {sv av lv : Value} {iv : Nat → Value} {g : GrR} {srcs : List SrcR}
    (nm : NamesAt w0 sv g.srcs) (ac : ActsAt w0 av g.acts iv) (ls : SrcsAt w0 lv srcs) :
    Calls Tryz.prog 45 #[.pointer (some ⟨u, 0, none⟩), .agg #[sv, av], lv] w (RStartPost w0 w u sv av lv iv g srcs) := by
  obtain ⟨o1, c1, rfl⟩ := nm.form
  obtain ⟨o2, c2, rfl⟩ := ac.form
  obtain ⟨o3, c3, rfl⟩ := ls.form
  have H := hid h
  have HC0 := hid hc0
  have HLO := hid hlo
  have HNM := hid nm
  have HAC := hid ac
  have HLS := hid ls
  obtain ⟨OG, hOG⟩ : ∃ OG, OG = Obj.cells #[.slice o1 g.srcs.length c1, .slice o2 g.acts.length c2] 25 (0, 0) := ⟨_, rfl⟩
  have HC1 := hid (al_chg w OG)
  have HG1 := hid (heap_alloc_new' w OG)
  have HU1 := hid (heap_alloc_old' h OG)
  rw [hOG] at HC1 HG1 HU1
  clear h hc0 hlo nm ac ls hOG
  have u4 := cell_of HU1.out 4
  have u5 := cell_of HU1.out 5
  have f4 := frozen_of HU1.out 4
  have f5 := frozen_of HU1.out 5
  simp at u4 u5
  go_enter Tryz.func45, Tryz.ntmps45
  go_upto_region 3 with fail
  have hne : ¬ w.heap.size = u := fun e => by have := heap_lt H.out; omega
  have HNE := hid hne
  obtain ⟨W3, hW3⟩ : ∃ W3, W3 = ((w.alloc (.cells #[.slice o1 g.srcs.length c1, .slice o2 g.acts.length c2] 25)).setCell ⟨u, 4, none⟩ (.slice none 0 0)).setCell ⟨u, 5, none⟩ (.slice none 0 0) := ⟨_, rfl⟩
  have hu3 : W3.heap[u]? = some (.cells #[x0, x1, x2, .int .i64 st, .slice none 0 0, .slice none 0 0] 96 (0, 0)) := by rw [hW3]; exact heap_set_same (heap_set_same HU1.out 4 _) 5 _
  have hg3 : W3.heap[w.heap.size]? = some (.cells #[.slice o1 g.srcs.length c1, .slice o2 g.acts.length c2] 25 (0, 0)) := by rw [hW3]; exact heap_set_other (heap_set_other HG1.out hne _) hne _
  have hc3 : Chg (fun k => k = u) w W3 := by
    rw [hW3]
    exact (((Chg.refl (fun k => k = u) w).alloc _).setCell (p := ⟨u, 4, none⟩) (fun _ => rfl) _).setCell (p := ⟨u, 5, none⟩) (fun _ => rfl) _
  rw [← hW3]
  obtain ⟨gb, hgb⟩ : ∃ gb, gb = w.heap.size := ⟨_, rfl⟩
  rw [← hgb] at hg3 hne ⊢
  have HGB : Hid (¬ gb = u ∧ w.heap.size ≤ gb) := hid ⟨hne, by omega⟩
  have hc03 : Chg (fun k => k = u) w0 W3 := (HC0.out.mono (G := fun k => k = u) (fun _ _ h => h.elim)).trans hc3 (fun _ _ h => h)
  have HNO : Hid (∀ k, k < w0.heap.size → ¬ k = u) := hid (fun k hk e => by have := HLO.out; omega)
  have HCK := hid (rcheckS_any g srcs (.agg #[.slice o1 g.srcs.length c1, .slice o2 g.acts.length c2]) (.slice o3 srcs.length c3) W3 ⟨_, _, iv, rfl, HNM.out.chg hc03 HNO.out, HAC.out.chg hc03 HNO.out⟩ (HLS.out.chg hc03 HNO.out))
  obtain ⟨cz, hcz⟩ : ∃ cz, cz = checkS g srcs := ⟨_, rfl⟩
  rw [← hcz] at HCK
  have HCZ := hid hcz
  clear hcz
  have HU3 := hid hu3
  have HG3 := hid hg3
  have HC3 := hid hc3
  have g0 := cell_of hg3 0
  have g1 := cell_of hg3 1
  simp at g0 g1
  clear hW3 hgb hu3 hg3 hc3 hne hc03 HG1 HU1 HC1 u4 u5 f4 f5
  go_upto_region 4 with (go_at_call 55; refine HCK.out.mono ?_; rintro e w4 ⟨rfl, hc4⟩; have HC4 := hid hc4; clear hc4)
  have HU4 := hid (HC4.out.obj HU3.out (fun h => h))
  have HG4 := hid (HC4.out.obj HG3.out (fun h => h))
  have HCW := hid (HC3.out.trans HC4.out (fun _ _ h => h.elim))
  have u3 := cell_of HU4.out 3
  have f3 := frozen_of HU4.out 3
  simp at u3
  clear g0 g1 HCK HU3 HG3 HC3 HC4
  by_cases hz : cz = 0
  · subst hz
    have HD := hid (checkS_zero.1 HCZ.out.symm)
    go_upto_region 7 with fail
    have u0 := cell_of HU4.out 0
    have u1 := cell_of HU4.out 1
    have u2 := cell_of HU4.out 2
    have f0 := frozen_of HU4.out 0
    have f1 := frozen_of HU4.out 1
    have f2 := frozen_of HU4.out 2
    have g0 := cell_of HG4.out 0
    have g1 := cell_of HG4.out 1
    simp at u0 u1 u2 g0 g1
    go_upto_region 10 with fail
    obtain ⟨W9, hW9⟩ : ∃ W9, W9 = (((w4.setCell ⟨u, 0, none⟩ (.slice o1 g.srcs.length c1)).setCell ⟨u, 1, none⟩ (.slice o2 g.acts.length c2)).setCell ⟨u, 2, none⟩ (.slice o3 srcs.length c3)).setCell ⟨u, 3, none⟩ (.int .i64 1) := ⟨_, rfl⟩
    have hu9 : W9.heap[u]? = some (.cells #[.slice o1 g.srcs.length c1, .slice o2 g.acts.length c2, .slice o3 srcs.length c3, .int .i64 1, .slice none 0 0, .slice none 0 0] 96 (0, 0)) := by rw [hW9]; exact heap_set_same (heap_set_same (heap_set_same (heap_set_same HU4.out 0 _) 1 _) 2 _) 3 _
    have hg9 : W9.heap[gb]? = some (.cells #[.slice o1 g.srcs.length c1, .slice o2 g.acts.length c2] 25 (0, 0)) := by rw [hW9]; exact heap_set_other (heap_set_other (heap_set_other (heap_set_other HG4.out HGB.out.1 _) HGB.out.1 _) HGB.out.1 _) HGB.out.1 _
    have hc9 : Chg (fun k => k = u) w4 W9 := by
      rw [hW9]
      exact ((((Chg.refl (fun k => k = u) w4).setCell (p := ⟨u, 0, none⟩) (fun _ => rfl) _).setCell (p := ⟨u, 1, none⟩) (fun _ => rfl) _).setCell (p := ⟨u, 2, none⟩) (fun _ => rfl) _).setCell (p := ⟨u, 3, none⟩) (fun _ => rfl) _
    rw [← hW9]
    have HC9 := hid (HCW.out.trans hc9 (fun _ _ h => h))
    have HNEU := hid H.out
    have HU9 := hid hu9
    have HG9 := hid hg9
    have g1' := cell_of hg9 1
    have hb9 := heap_alloc_old' hu9 (.cells (resB g.acts.length (fun _ => noRes)) 47)
    have hb0 := heap_alloc_new' W9 (.cells (resB g.acts.length (fun _ => noRes)) 47)
    have hbg := heap_alloc_old' hg9 (.cells (resB g.acts.length (fun _ => noRes)) 47)
    have HB9 := hid hb9
    have HB0 := hid hb0
    have HBG := hid hbg
    have u4 := cell_of hb9 4
    have f4 := frozen_of hb9 4
    simp at g1' u4
    have h12 : g.acts.length ≤ 1000 := by have := HD.out.can.w.acts12; omega
    have HMB := hid (run_makeBool g.acts.length h12)
    have hmr := run_makeRes g.acts.length h12
    clear hW9 hu9 hg9 hc9 u0 u1 u2 u3 f0 f1 f2 f3 g0 g1 HU4 HG4 HCW hb9 hb0 hbg
    go_upto_region 11 with fail
    obtain ⟨ob, hob⟩ : ∃ ob, ob = W9.heap.size := ⟨_, rfl⟩
    rw [← hob] at HB0
    obtain ⟨WA, hWA⟩ : ∃ WA, WA = (W9.alloc (.cells (resB g.acts.length (fun _ => noRes)) 47)).setCell ⟨u, 4, none⟩ (.slice (some ⟨ob, 0, none⟩) g.acts.length g.acts.length) := ⟨_, rfl⟩
    have hou : ¬ ob = u := fun e => by have := heap_lt HU9.out; omega
    have hua : WA.heap[u]? = some (.cells #[.slice o1 g.srcs.length c1, .slice o2 g.acts.length c2, .slice o3 srcs.length c3, .int .i64 1, .slice (some ⟨ob, 0, none⟩) g.acts.length g.acts.length, .slice none 0 0] 96 (0, 0)) := by rw [hWA]; exact heap_set_same HB9.out 4 _
    have hga : WA.heap[gb]? = some (.cells #[.slice o1 g.srcs.length c1, .slice o2 g.acts.length c2] 25 (0, 0)) := by rw [hWA]; exact heap_set_other HBG.out HGB.out.1 _
    have hra : WA.heap[ob]? = some (.cells (resB g.acts.length (fun _ => noRes)) 47 (0, 0)) := by rw [hWA]; exact heap_set_other HB0.out hou _
    have hca : Chg (fun k => k = u) W9 WA := by
      rw [hWA]
      exact ((Chg.refl (fun k => k = u) W9).alloc _).setCell (p := ⟨u, 4, none⟩) (fun _ => rfl) _
    have HOB : Hid (w.heap.size ≤ ob ∧ ¬ ob = u) := hid ⟨by have := HC9.out.size; omega, hou⟩
    rw [← hob, ← hWA]
    have HCA := hid (HC9.out.trans hca (fun _ _ h => h))
    have HRA := hid hra
    have hb9 := heap_alloc_old' hua (.cells (boolB g.acts.length (fun _ => false)) 4)
    have hb0 := heap_alloc_new' WA (.cells (boolB g.acts.length (fun _ => false)) 4)
    have HHB := hid hb0
    have HHU := hid hb9
    have u5 := cell_of hb9 5
    have f5 := frozen_of hb9 5
    have g1 := cell_of hga 1
    simp at g1 u5
    have hmb := HMB.out
    clear hmr g1' u4 f4 hWA hob hua hga hra hca hb9 hb0 hou HC9 HU9 HG9 HB9 HB0 HBG
    go_upto_region 12 with fail
    obtain ⟨hb, hhb⟩ : ∃ hb, hb = WA.heap.size := ⟨_, rfl⟩
    rw [← hhb] at HHB
    obtain ⟨WB, hWB⟩ : ∃ WB, WB = (WA.alloc (.cells (boolB g.acts.length (fun _ => false)) 4)).setCell ⟨u, 5, none⟩ (.slice (some ⟨hb, 0, none⟩) g.acts.length g.acts.length) := ⟨_, rfl⟩
    have hhu : ¬ hb = u := fun e => by have := heap_lt HRA.out; have h2 := HCA.out.size; have h3 := heap_lt HNEU.out; omega
    have hub : WB.heap[u]? = some (.cells #[.slice o1 g.srcs.length c1, .slice o2 g.acts.length c2, .slice o3 srcs.length c3, .int .i64 1, .slice (some ⟨ob, 0, none⟩) g.acts.length g.acts.length, .slice (some ⟨hb, 0, none⟩) g.acts.length g.acts.length] 96 (0, 0)) := by rw [hWB]; exact heap_set_same HHU.out 5 _
    have hrb : WB.heap[ob]? = some (.cells (resB g.acts.length (fun _ => noRes)) 47 (0, 0)) := by rw [hWB]; exact heap_set_other (heap_alloc_old' HRA.out _) HOB.out.2 _
    have hhb2 : WB.heap[hb]? = some (.cells (boolB g.acts.length (fun _ => false)) 4 (0, 0)) := by rw [hWB]; exact heap_set_other HHB.out hhu _
    have hcb : Chg (fun k => k = u) WA WB := by
      rw [hWB]
      exact ((Chg.refl (fun k => k = u) WA).alloc _).setCell (p := ⟨u, 5, none⟩) (fun _ => rfl) _
    have HHH : Hid (w.heap.size ≤ hb) := hid (by have := HCA.out.size; omega)
    rw [← hhb, ← hWB]
    have HCB := hid (HCA.out.trans hcb (fun _ _ h => h))
    have hrf : IsRf w0 WB u ob hb (.slice o1 g.srcs.length c1) (.slice o2 g.acts.length c2) (.slice o3 srcs.length c3) iv g srcs 1 (srcT srcs) :=
      ⟨hub, by rw [resB_congr (fun i hi => (srcT_no HD.out hi).1)]; exact hrb, by rw [boolB_congr (fun i hi => (srcT_no HD.out hi).2)]; exact hhb2, HC0.out.trans HCB.out (fun k hk e => HNO.out k hk e), ⟨HLO.out, Nat.le_trans HC0.out.size HOB.out.1, Nat.le_trans HC0.out.size HHH.out⟩, HNM.out, HAC.out, HLS.out⟩
    have HST := hid (rsettle_any hrf HD.out (TOK.begin HD.out))
    have HBG : Hid ((BkS.begun g srcs).st = (if (settleL g (orderR g) (srcT srcs)).length = g.srcs.length + g.acts.length then 2 else 1) ∧ (BkS.begun g srcs).t = settleL g (orderR g) (srcT srcs)) := hid ⟨rfl, rfl⟩
    rw [← HBG.out.1, ← HBG.out.2] at HST
    clear hmb u5 f5 g1 hWB hhb hhu hub hrb hhb2 hcb hrf
    go_wp2_with (go_at_call 83; refine HST.out.mono ?_; rintro e w14 ⟨rfl, hc14, hr14⟩)
    go_ret
    refine ⟨by rw [← HCZ.out]; rfl, HCB.out.trans hc14 (fun k hk e => ?_), .inr ⟨HCZ.out.symm, ob, hb, HOB.out.1, HHH.out, hr14⟩⟩
    rcases e with e | e | e
    · exact e
    · have := HOB.out.1; omega
    · have := HHH.out; omega
  · have HZ := hid hz
    have hze : ((cz : Int) != 0) = true := by rw [bne_iff_ne]; omega
    have hk5 := heap_set_same HU4.out 3 (.int .i64 4)
    have hc5 : Chg (fun k => k = u) w4 (w4.setCell ⟨u, 3, none⟩ (.int .i64 4)) := (Chg.refl (fun k => k = u) w4).setCell (p := ⟨u, 3, none⟩) (fun _ => rfl) _
    have HK5 := hid hk5
    have HC5 := hid hc5
    clear hz hk5 hc5
    go_wp2_with fail
    go_ret
    exact ⟨congrArg (fun z : Nat => Ending.returned (.int .i64 z)) HCZ.out, HCW.out.trans HC5.out (fun _ _ h => h), .inl ⟨fun e => HZ.out (HCZ.out.trans e), x0, x1, x2, HK5.out⟩⟩
end
end Go.Proofs.YthglfmacjoecgaaGreatDoor
namespace Go.Proofs.YthglfmacjoecgaaGreatDoor
open Go.RowKit

section
variable {P : Program} {w : World} {o : Oper} {a : Act} {K : Act → World → Prop} {Q : Exit → Act → World → Prop}
theorem wp_buildSO (k : Tmp) (hd : o.dst = some k) (t : TypeId) (n : Nat) (ps : Array (Nat × Operand)) (hop : o.op = Op.buildSlice t n ps) (arr : Array Value) (e : TypeId) (hr : (Instr.buildSlice t n (ps.map fun (i, x) => (i, a.eval x))).run P w = .ok (.slice (some ⟨w.heap.size, 0, none⟩) n n) (w.alloc (.cells arr e)))
    (h : K (a.put (some k) (.slice (some ⟨w.heap.size, 0, none⟩) n n)) (w.alloc (.cells arr e))) : Oper.wp P o a w K Q := by
  unfold Oper.wp
  rw [← hd] at h
  simp only [execOp, hop, Sem.run_bind, hr, Result.andThen, Sem.run_pure, Oper.upon]
  exact h
theorem wp_appendNO (k : Tmp) (hd : o.dst = some k) (s x : Operand) (t : TypeId)
    (ho : o.op = .call { callee := .builtin .append, args := #[s, x], argTypes := #[t, t] })
    {e : TypeId} {size bytes : Nat} (T : ElT P t e size bytes)
    {v : Value} {n : Nat} {xs : List Value} (hown : w.ownsRow 0 e size v n xs) (hs : a.eval s = v)
    (arr : Array Value) (m c : Nat) (hx : a.eval x = .slice (some ⟨w.heap.size, 0, none⟩) m c) (hl : arr.toList.length = m * size) (h1 : arr.toList.all Value.oneCell' = true)
    (h63 : n + m ≤ maxLen) (hbytes : (n + m) * bytes ≤ 140737488355328) (hm : m ≠ 0)
    (h : ∀ g cap w', w'.ownsRow 0 e size (.slice (some ⟨g, 0, none⟩) (n + m) cap) (n + m) (xs ++ arr.toList) → Chg (fun k => v.ownBlock = some k) w w' → (v.ownBlock = some g ∨ w.heap.size ≤ g) →
      K (a.put (some k) (.slice (some ⟨g, 0, none⟩) (n + m) cap)) w') : Oper.wp P o a (w.alloc (.cells arr e)) K Q := by
  obtain ⟨i, z, hi, hz, h2, h3, h4, _⟩ := T.info
  obtain ⟨v', w', hr, r2, r3, r4, r5⟩ := run_append_chg (P := P) (w.alloc (.cells arr e)) t o.type e i z size bytes T.ht hi hz h2 h3 h4 T.pos v n xs (hown.alloc _) _ m c arr.toList hl (cells_new w arr e) (fun u hu => List.all_eq_true.1 h1 u hu) h63 hbytes
  obtain ⟨g, cap, rfl⟩ := r5 hm
  unfold Oper.wp execOp
  rw [← hd] at h
  simp only [ho, resolve, invoke, builtin, Sem.run_bind, Sem.run_pure, Result.andThen_ok, List.map_toArray, List.map_cons, List.map_nil, hs, hx, hr]
  exact h g cap w' r2 (((Chg.refl _ w).alloc _).trans r3 (fun _ _ h => h)) ((r4 g rfl).imp id (fun h => by simp at h; omega))
end
section
variable {w0 w w' : World} {u ob hb : Nat} {sv av lv : Value} {iv : Nat → Value} {g : GrR} {srcs : List SrcR} {st : Nat} {t : ThT}
theorem outK2 (g : GrR) (t : ThT) (k : Nat) (h : k < g.acts.length) : resL2 g t (g.acts.take (k + 1)) = resL2 g t (g.acts.take k) ++ (if isT t g.acts[k].name then [(g.acts[k].name, valT t g.acts[k].name)] else []) := outK ⟨g, 0, [], t⟩ k h
theorem out_le2 (g : GrR) (t : ThT) (k : Nat) : (resL2 g t (g.acts.take k)).length ≤ g.acts.length := by
  unfold resL2
  rw [List.length_map]
  have := List.length_filter_le (fun a : ActR => isT t a.name) (g.acts.take k)
  simp at this ⊢
  omega
set_option maxRecDepth 100000 in
set_option maxHeartbeats 8000000 in
theorem rresults_any (h : IsRf w0 w u ob hb sv av lv iv g srcs st t) (h12 : g.acts.length ≤ 1000) :
    Calls Tryz.prog 50 #[.pointer (some ⟨u, 0, none⟩)] w (ResultsPost w (resL2 g t g.acts)) := by
  obtain ⟨hn, ha, hl⟩ := h.now
  obtain ⟨o1, c1, rfl⟩ := hn.form
  obtain ⟨o2, c2, rfl⟩ := ha.form
  have H := hid h
  have HO0 := hid (owns_empty2 w 53 3)
  have HC0 := hid (al_chg w (.cells #[] 53))
  clear h hn ha hl
  go_enter Tryz.func50, Tryz.ntmps50
  go_wp2_with fail
  generalize w.alloc (.cells #[] 53) = W0 at *
  go_loopw [3, 4] (fun v2 i wr => ∃ (k : Nat) (x : Value), x = v2 ∧ k ≤ g.acts.length ∧ i = .int .i64 k ∧ wr.ownsRow 0 53 3 x (resL2 g t (g.acts.take k)).length ((resL2 g t (g.acts.take k)).flatMap bltL) ∧ (∀ z, x.ownBlock = some z → w.heap.size ≤ z) ∧ Chg (fun _ => False) w wr) (fun _ i _ => g.acts.length - (intOf i).toNat)
  case atStart => exact ⟨0, _, rfl, Nat.zero_le _, rfl, HO0.out, (fun z hz => by simp [Value.ownBlock] at hz; omega), HC0.out⟩
  case round =>
    obtain ⟨k, x2, hx2, hk, rfl, hown, hbl, hch⟩ := hrel
    subst hx2
    have HOWN := hid hown
    have HBL := hid hbl
    have HCH := hid hch
    have HR := hid (H.out.same hch)
    have q1 := cell_of HR.out.blk 1
    have q4 := cell_of HR.out.blk 4
    have q5 := cell_of HR.out.blk 5
    simp at q1 q4 q5
    clear hown hbl hch
    by_cases hkn : k < g.acts.length
    · have hkn' : (k : Int) < g.acts.length := by omega
      obtain ⟨bb, oo, hix, hlt, e00, e1, e2, hns, hw1, hw2⟩ := H.out.now.2.1.at k hkn
      have e0 := HCH.out.cell e00 (fun h => h)
      clear e00
      obtain ⟨hixh, h0⟩ := HR.out.hasAt hkn
      obtain ⟨off, hixo, hoff, o0, o1⟩ := HR.out.outAt hkn
      clear hoff
      have HTK := hid (outK2 g t k hkn)
      have hlen : (resL2 g t (g.acts.take k)).length ≤ 1000 := Nat.le_trans (out_le2 g t k) h12
      have hho : hasR g t k = isT t g.acts[k].name ∧ outR g t k = valT t g.acts[k].name := by unfold hasR outR; rw [nameAt_lt g k hkn]; exact ⟨rfl, rfl⟩
      rw [hho.1] at h0
      rw [hho.2] at o0 o1
      clear hns hw1 hw2 e1 e2 hho
      generalize g.acts[k].name = nm at *
      generalize resL2 g t (g.acts.take k) = L at *
      obtain ⟨rc, hrc⟩ : ∃ rc, rc = (valT t nm).1 := ⟨_, rfl⟩
      obtain ⟨rb, hrb⟩ : ∃ rb, rb = (valT t nm).2 := ⟨_, rfl⟩
      have HVL : Hid (bltL (nm, valT t nm) = [.string (bs nm), .int .i64 rc, .string rb]) := hid (by unfold bltL; rw [hrc, hrb])
      rw [← hrc] at o0
      rw [← hrb] at o1
      clear hrc hrb
      generalize isT t nm = T at *
      cases T with
      | false =>
        go_wp2_with fail
        go_roundw
        case rel => exact ⟨k + 1, x2, rfl, by omega, by go_num, by rw [HTK.out]; simpa using HOWN.out, HBL.out, HCH.out⟩
        case measure => simp [intOf]; omega
      | true =>
        go_upto_region 6 with fail
        have HOD := hid (owns_drew HOWN.out)
        have HLT : Hid (u < w.heap.size ∧ ob < w.heap.size ∧ bb < w.heap.size) := hid ⟨heap_lt H.out.blk, heap_lt H.out.out, hlt⟩
        have HF : Hid (∀ W, Chg (fun z => w.heap.size ≤ z) wr W → W.cell? ⟨u, 1, none⟩ = some (.slice o2 g.acts.length c2) ∧ W.cell? ⟨bb, oo, none⟩ = some (.string (bs nm)) ∧ W.cell? ⟨u, 4, none⟩ = some (.slice (some ⟨ob, 0, none⟩) g.acts.length g.acts.length) ∧ W.cell? ⟨ob, off, none⟩ = some (.int .i64 rc) ∧ W.cell? ⟨ob, off + 1, none⟩ = some (.string rb)) := hid (fun W hW => ⟨hW.cell q1 (by have := HLT.out; show ¬ w.heap.size ≤ u; omega), hW.cell e0 (by have := HLT.out; show ¬ w.heap.size ≤ bb; omega), hW.cell q4 (by have := HLT.out; show ¬ w.heap.size ≤ u; omega), hW.cell o0 (by have := HLT.out; show ¬ w.heap.size ≤ ob; omega), hW.cell o1 (by have := HLT.out; show ¬ w.heap.size ≤ ob; omega)⟩)
        clear q1 q4 q5 e0 o0 o1 h0 hixh hlt
        refine wp_region_held_drew (S := fun W => Chg (fun z => w.heap.size ≤ z) wr W) (by kernel_rfl) ((Chg.refl _ wr).drew) (fun hd => ?_)
        refine wpAnyH_takeDK (i := 0) (v := x2) (some 22) rfl (by kernel_rfl) (by kernel_rfl) (by kernel_rfl) (by kernel_rfl) (fun _ _ _ h => h) (.inl ⟨by kernel_rfl, fun W _ => by kernel_rfl⟩) hd ?_
        refine wpAnyH_takeDK (i := 1) (v := .pointer (some ⟨u, 0, none⟩)) (some 23) rfl (by kernel_rfl) (by kernel_rfl) (by kernel_rfl) (by kernel_rfl) (fun _ _ _ h => h) (.inl ⟨by kernel_rfl, fun W _ => by kernel_rfl⟩) hd ?_
        refine wpAnyH_takeDK (i := 2) (v := .pointer (some ⟨u, 0, none⟩)) (some 24) rfl (by kernel_rfl) (by kernel_rfl) (by kernel_rfl) (by kernel_rfl) (fun _ _ _ h => h) (.inl ⟨by kernel_rfl, fun W _ => by kernel_rfl⟩) hd ?_
        refine wpAnyH_takeDK (i := 3) (v := .pointer (some ⟨u, 0, none⟩)) (some 25) rfl (by kernel_rfl) (by kernel_rfl) (by kernel_rfl) (by kernel_rfl) (fun _ _ _ h => h) (.inl ⟨by kernel_rfl, fun W _ => by kernel_rfl⟩) hd ?_
        refine wpAnyH_takeDK (i := 4) (v := .pointer (some ⟨u, 1, none⟩)) (some 26) rfl (by kernel_rfl) (by kernel_rfl) (by kernel_rfl) (by kernel_rfl) (fun _ _ _ h => h) (.inl ⟨by kernel_rfl, fun W _ => by kernel_rfl⟩) hd ?_
        refine wpAnyH_takeDK (i := 5) (v := .slice o2 g.acts.length c2) (some 27) rfl (by kernel_rfl) (by kernel_rfl) (by kernel_rfl) (by kernel_rfl) (fun _ _ _ h => h) (yieldsIf_load1K (by kernel_rfl) 23 (.tmp 26) (by kernel_rfl) u 1 _ (by kernel_rfl) (fun W hW => load_acts (HF.out W hW).1)) hd ?_
        refine wpAnyH_takeDK (i := 6) (v := .int .i64 k) (some 28) rfl (by kernel_rfl) (by kernel_rfl) (by kernel_rfl) (by kernel_rfl) (fun _ _ _ h => h) (.inl ⟨by kernel_rfl, fun W _ => by kernel_rfl⟩) hd ?_
        refine wpAnyH_takeDK (i := 7) (v := .pointer (some ⟨bb, oo, none⟩)) (some 29) rfl (by kernel_rfl) (by kernel_rfl) (by kernel_rfl) (by kernel_rfl) (fun _ _ _ h => h) (yieldsIf_index (by kernel_rfl) 23 (.tmp 27) (.tmp 28) (by kernel_rfl) _ _ _ (by kernel_rfl) (by kernel_rfl) (fun W => hix W)) hd ?_
        refine wpAnyH_takeDK (i := 8) (v := .pointer (some ⟨bb, oo, none⟩)) (some 30) rfl (by kernel_rfl) (by kernel_rfl) (by kernel_rfl) (by kernel_rfl) (fun _ _ _ h => h) (.inl ⟨by kernel_rfl, fun W _ => by kernel_rfl⟩) hd ?_
        refine wpAnyH_takeDK (i := 9) (v := .pointer (some ⟨bb, oo, none⟩)) (some 31) rfl (by kernel_rfl) (by kernel_rfl) (by kernel_rfl) (by kernel_rfl) (fun _ _ _ h => h) (.inl ⟨by kernel_rfl, fun W _ => by kernel_rfl⟩) hd ?_
        refine wpAnyH_takeDK (i := 10) (v := .string (bs nm)) (some 32) rfl (by kernel_rfl) (by kernel_rfl) (by kernel_rfl) (by kernel_rfl) (fun _ _ _ h => h) (yieldsIf_load1K (by kernel_rfl) 9 (.tmp 31) (by kernel_rfl) bb oo _ (by kernel_rfl) (fun W hW => load_strK (HF.out W hW).2.1)) hd ?_
        refine wpAnyH_takeDK (i := 11) (v := .agg #[.string (bs nm)]) (some 33) rfl (by kernel_rfl) (by kernel_rfl) (by kernel_rfl) (by kernel_rfl) (fun _ _ _ h => h) (.inl ⟨by kernel_rfl, fun W _ => by kernel_rfl⟩) hd ?_
        refine wpAnyH_takeDK (i := 12) (v := .pointer (some ⟨u, 0, none⟩)) (some 34) rfl (by kernel_rfl) (by kernel_rfl) (by kernel_rfl) (by kernel_rfl) (fun _ _ _ h => h) (.inl ⟨by kernel_rfl, fun W _ => by kernel_rfl⟩) hd ?_
        refine wpAnyH_takeDK (i := 13) (v := .pointer (some ⟨u, 0, none⟩)) (some 35) rfl (by kernel_rfl) (by kernel_rfl) (by kernel_rfl) (by kernel_rfl) (fun _ _ _ h => h) (.inl ⟨by kernel_rfl, fun W _ => by kernel_rfl⟩) hd ?_
        refine wpAnyH_takeDK (i := 14) (v := .pointer (some ⟨u, 4, none⟩)) (some 36) rfl (by kernel_rfl) (by kernel_rfl) (by kernel_rfl) (by kernel_rfl) (fun _ _ _ h => h) (.inl ⟨by kernel_rfl, fun W _ => by kernel_rfl⟩) hd ?_
        refine wpAnyH_takeDK (i := 15) (v := .slice (some ⟨ob, 0, none⟩) g.acts.length g.acts.length) (some 37) rfl (by kernel_rfl) (by kernel_rfl) (by kernel_rfl) (by kernel_rfl) (fun _ _ _ h => h) (yieldsIf_load1K (by kernel_rfl) 58 (.tmp 36) (by kernel_rfl) u 4 _ (by kernel_rfl) (fun W hW => load_ress2 (HF.out W hW).2.2.1)) hd ?_
        refine wpAnyH_takeDK (i := 16) (v := .int .i64 k) (some 38) rfl (by kernel_rfl) (by kernel_rfl) (by kernel_rfl) (by kernel_rfl) (fun _ _ _ h => h) (.inl ⟨by kernel_rfl, fun W _ => by kernel_rfl⟩) hd ?_
        refine wpAnyH_takeDK (i := 17) (v := .pointer (some ⟨ob, off, none⟩)) (some 39) rfl (by kernel_rfl) (by kernel_rfl) (by kernel_rfl) (by kernel_rfl) (fun _ _ _ h => h) (yieldsIf_index (by kernel_rfl) 58 (.tmp 37) (.tmp 38) (by kernel_rfl) _ _ _ (by kernel_rfl) (by kernel_rfl) (fun W => hixo W)) hd ?_
        refine wpAnyH_takeDK (i := 18) (v := .agg #[.int .i64 rc, .string rb]) (some 40) rfl (by kernel_rfl) (by kernel_rfl) (by kernel_rfl) (by kernel_rfl) (fun _ _ _ h => h) (yieldsIf_load1K (by kernel_rfl) 47 (.tmp 39) (by kernel_rfl) ob off _ (by kernel_rfl) (fun W hW => load_resK (HF.out W hW).2.2.2.1 (HF.out W hW).2.2.2.2)) hd ?_
        refine wpAnyH_takeDK (i := 19) (v := .agg #[.string (bs nm), .int .i64 rc, .string rb]) (some 41) rfl (by kernel_rfl) (by kernel_rfl) (by kernel_rfl) (by kernel_rfl) (fun _ _ _ h => h) (.inl ⟨by kernel_rfl, fun W _ => by kernel_rfl⟩) hd ?_
        try simp only [Act.put, List.setIfInBounds_toArray, List.set_cons_zero, List.set_cons_succ]
        refine wpAnyH_all (rs := [20]) (by kernel_rfl) (by simp) (fun i hi => ?_)
        obtain rfl : i = 20 := by simpa using hi
        refine wpOp_step rfl ?_
        intro K1 hK1
        refine Eq.mpr (if_pos (by kernel_rfl)) ?_
        refine wp_buildSO 42 rfl 29 1 #[(0, Operand.tmp 41)] rfl #[.string (bs nm), .int .i64 rc, .string rb] 53 (by kernel_rfl) ?_
        have hd1 := hd.alloc (.cells #[.string (bs nm), .int .i64 rc, .string rb] 53)
        refine hK1 _ _ ⟨hd1, ?_⟩
        try simp only [Act.put, List.setIfInBounds_toArray, List.set_cons_zero, List.set_cons_succ]
        refine wpAnyH_all (rs := [21]) (by kernel_rfl) (by simp) (fun i hi => ?_)
        obtain rfl : i = 21 := by simpa using hi
        refine wpOp_step rfl ?_
        intro K2 hK2
        refine Eq.mpr (if_pos (by kernel_rfl)) ?_
        refine wp_appendNO 43 rfl (.tmp 22) (.tmp 42) 29 rfl elBlt HOD.out (by kernel_rfl) #[.string (bs nm), .int .i64 rc, .string rb] 1 1 (by kernel_rfl) rfl rfl (by unfold maxLen; omega) (by omega) (by decide) ?_
        intro g6 cap6 w6 hown6 hch6 hg6
        have hd2 := hd.trans hch6 (fun z hz e => HBL.out z e)
        refine hK2 _ _ ⟨hd2, ?_⟩
        refine wpAnyH_takeDK (i := 22) (v := .slice (some ⟨g6, 0, none⟩) (L.length + 1) cap6) (some 3) rfl (by kernel_rfl) (by kernel_rfl) (by kernel_rfl) (by kernel_rfl) (fun _ _ _ h => h) (.inl ⟨by kernel_rfl, fun W _ => by kernel_rfl⟩) hd2 ?_
        try simp only [Act.put, List.setIfInBounds_toArray, List.set_cons_zero, List.set_cons_succ]
        refine wpAnyH_done (by kernel_rfl) ?_ _
        go_wp2_with fail
        go_roundw
        case rel =>
          refine ⟨k + 1, _, rfl, by omega, by go_num, ?_, fun z hz => ?_, (HCH.out.trans ((Chg.refl (fun _ => False) wr).drew) (fun _ _ h => h)).trans hch6 (fun z hz e => absurd (HBL.out z e) (by omega))⟩
          · rw [HTK.out, if_pos rfl, List.length_append, List.flatMap_append]
            have e3 : [(nm, valT t nm)].flatMap bltL = bltL (nm, valT t nm) := by simp
            rw [e3, HVL.out]
            exact hown6
          · obtain rfl := own_eq hz
            rcases hg6 with h | h
            · exact HBL.out _ h
            · have h1 := HCH.out.size
              have h2 : wr.drew.heap.size = wr.heap.size := rfl
              omega
        case measure => simp [intOf]; omega
    · obtain rfl : k = g.acts.length := by omega
      have hown := HOWN.out
      rw [List.take_length] at hown
      have HO := hid hown
      have HL : Hid ((resL2 g t g.acts).length ≤ 1000) := hid (by have := out_le2 g t g.acts.length; rw [List.take_length] at this; omega)
      clear hown
      go_wp2_with fail
      go_ret
      exact ⟨HCH.out, _, rfl, BltAt.of_owns rfl HO.out HL.out⟩
theorem rresults_off {x0 x1 x2 y0 : Value} (h : w.heap[u]? = some (.cells #[x0, x1, x2, .int .i64 st, y0, .slice none 0 0] 96 (0, 0))) :
    Calls Tryz.prog 50 #[.pointer (some ⟨u, 0, none⟩)] w (ResultsPost w []) := by
  have HO0 := hid (owns_empty2 w 53 3)
  have HC0 := hid (al_chg w (.cells #[] 53))
  have q5 := cell_of (HC0.out.obj h (fun h => h)) 5
  simp at q5
  clear h
  go_enter Tryz.func50, Tryz.ntmps50
  go_wp2_with fail
  go_loopw [3, 4] (fun v2 i wr => v2 = .slice (some ⟨w.heap.size, 0, none⟩) 0 0 ∧ i = .int .i64 0 ∧ wr = w.alloc (.cells #[] 53)) (fun _ i _ => 0)
  case atStart => exact ⟨rfl, rfl, rfl⟩
  case round =>
    obtain ⟨rfl, rfl, rfl⟩ := hrel
    go_wp2_with fail
    go_ret
    exact ⟨HC0.out, _, rfl, BltAt.of_owns rfl HO0.out (Nat.zero_le _)⟩
end
end Go.Proofs.YthglfmacjoecgaaGreatDoor
namespace Go.Proofs.YthglfmacjoecgaaGreatDoor
open Go.RowKit

/-- The types of the blocks that the document's baker writes. -/
def RefT (T : TypeId) : Prop := T = 96 ∨ T = 47 ∨ T = 4
/-- Block u is the document's baker at build s; fp: blocks that are none of its. -/
def RfIs (w0 w : World) (u : Nat) (fp : Nat → Prop) (s : BkS) : Prop :=
  ¬ fp u ∧ w0.heap.size ≤ u ∧ Chg (fun _ => False) w0 w ∧
  (((s = BkS.new ∨ s = BkS.wrong) ∧ ∃ x0 x1 x2, w.heap[u]? = some (.cells #[x0, x1, x2, .int .i64 s.st, .slice none 0 0, .slice none 0 0] 96 (0, 0))) ∨
   ∃ ob hb sv av lv iv srcs, ¬ fp ob ∧ ¬ fp hb ∧ IsRf w0 w u ob hb sv av lv iv s.g srcs s.st s.t ∧ Live s.g srcs s)
/-- A call of it: what it has changed are its own blocks. -/
def RefStep (w0 w w' : World) (u : Nat) (fp : Nat → Prop) (s : BkS) : Prop :=
  RfIs w0 w' u fp s ∧ ∃ F : Nat → Prop, Chg F w w' ∧ ∀ k, k < w.heap.size → F k → ¬ fp k ∧ w0.heap.size ≤ k ∧ ∃ c T, w.heap[k]? = some (.cells c T (0, 0)) ∧ RefT T
section
variable {w0 w w' : World} {u : Nat} {fp : Nat → Prop} {s : BkS}
theorem refT_ref : RefT 96 := .inl rfl
theorem refT_res : RefT 47 := .inr (.inl rfl)
theorem refT_bool : RefT 4 := .inr (.inr rfl)
theorem live_eq {g : GrR} {srcs : List SrcR} (h : Live g srcs s) : (⟨g, s.st, orderR g, s.t⟩ : BkS) = s := by
  have h1 := h.gr
  have h2 := h.ord
  cases s
  simp only at h1 h2
  rw [h1, h2]
theorem RfIs.keep (h : RfIs w0 w u fp s) {F : Nat → Prop} (hc : Chg F w w') (h0 : ∀ k, k < w0.heap.size → ¬ F k) (hF : ∀ k c T, w.heap[k]? = some (.cells c T (0, 0)) → RefT T → w0.heap.size ≤ k → ¬ F k) : RfIs w0 w' u fp s := by
  obtain ⟨h1, h2, h3, h4⟩ := h
  refine ⟨h1, h2, h3.trans hc (fun k hk e => h0 k hk e), ?_⟩
  rcases h4 with ⟨hs, x0, x1, x2, hb⟩ | ⟨ob, hb, sv, av, lv, iv, srcs, n1, n2, hr, hl⟩
  · exact .inl ⟨hs, x0, x1, x2, hc.obj hb (hF _ _ _ hb refT_ref h2)⟩
  · exact .inr ⟨ob, hb, sv, av, lv, iv, srcs, n1, n2, hr.keep hc (hF _ _ _ hr.blk refT_ref h2) (hF _ _ _ hr.out refT_res hr.lo.2.1) (hF _ _ _ hr.has refT_bool hr.lo.2.2) h0, hl⟩
theorem RfIs.same (h : RfIs w0 w u fp s) (hc : Chg (fun _ => False) w w') : RfIs w0 w' u fp s := h.keep hc (fun _ _ h => h) (fun _ _ _ _ _ _ h => h)
theorem RfIs.fps (h : RfIs w0 w u fp s) {fq : Nat → Prop} (hq : ∀ k, k < w.heap.size → w0.heap.size ≤ k → ¬ fq k) : RfIs w0 w u fq s := by
  obtain ⟨h1, h2, h3, h4⟩ := h
  rcases h4 with ⟨hs, x0, x1, x2, hb⟩ | ⟨ob, hb, sv, av, lv, iv, srcs, n1, n2, hr, hl⟩
  · exact ⟨hq u (heap_lt hb) h2, h2, h3, .inl ⟨hs, x0, x1, x2, hb⟩⟩
  · exact ⟨hq u (heap_lt hr.blk) h2, h2, h3, .inr ⟨ob, hb, sv, av, lv, iv, srcs, hq ob (heap_lt hr.out) hr.lo.2.1, hq hb (heap_lt hr.has) hr.lo.2.2, hr, hl⟩⟩
theorem off_st (h : s = BkS.new ∨ s = BkS.wrong) : s.st ≠ 1 := by
  rcases h with rfl | rfl <;> decide
theorem RfIs.cells (h : RfIs w0 w u fp s) : ∃ x0 x1 x2 y0 y1, w.heap[u]? = some (.cells #[x0, x1, x2, .int .i64 s.st, y0, y1] 96 (0, 0)) := by
  rcases h.2.2.2 with ⟨hs, x0, x1, x2, hb⟩ | ⟨ob, hb, sv, av, lv, iv, srcs, n1, n2, hr, hl⟩
  · exact ⟨_, _, _, _, _, hb⟩
  · exact ⟨_, _, _, _, _, hr.blk⟩
theorem rjob_is (h : RfIs w0 w u fp s) (hz : BkSize s) : Calls Tryz.prog 47 #[.pointer (some ⟨u, 0, none⟩)] w (JobPost w s) := by
  rcases h.2.2.2 with ⟨hs, x0, x1, x2, hb⟩ | ⟨ob, hb, sv, av, lv, iv, srcs, n1, n2, hr, hl⟩
  · exact rjob_off hb (off_st hs) (next_not (off_st hs))
  · have e := live_eq hl
    have := rjob_any hr hl.done hl.tok (by rw [e]; exact hz)
    rw [e] at this
    exact this
theorem rresults_is (h : RfIs w0 w u fp s) (hz : BkSize s) : Calls Tryz.prog 50 #[.pointer (some ⟨u, 0, none⟩)] w (ResultsPost w s.out) := by
  rcases h.2.2.2 with ⟨hs, x0, x1, x2, hb⟩ | ⟨ob, hb, sv, av, lv, iv, srcs, n1, n2, hr, hl⟩
  · have : s.out = [] := by rcases hs with rfl | rfl <;> rfl
    rw [this]
    exact rresults_off hb
  · exact rresults_any hr hz.n2
theorem Live.give {g : GrR} {srcs : List SrcR} (h : Live g srcs s) (place : Int) (x : ResR) : Live g srcs (s.give place x).2 := by
  unfold BkS.give
  cases hn : s.next with
  | none => exact h
  | some i =>
    simp only
    split
    · split
      · exact h.put (h.next hn).1 (h.next hn).2.1 x
      · exact h
    · exact h
theorem rgive_is (h : RfIs w0 w u fp s) (hz : BkSize s) (place : Int) (rc : Int) (rb : ByteArray) (hrb : rb.size ≤ maxLen) :
    Calls Tryz.prog 46 #[.pointer (some ⟨u, 0, none⟩), .int .i64 place, .agg #[.int .i64 rc, .string rb]] w (fun e w' => e = .returned (.int .i64 (s.give place (rc, rb)).1) ∧ RefStep w0 w w' u fp (s.give place (rc, rb)).2) := by
  obtain ⟨h1, h2, h3, h4⟩ := h
  rcases h4 with ⟨hs, x0, x1, x2, hb⟩ | ⟨ob, hb, sv, av, lv, iv, srcs, n1, n2, hr, hl⟩
  · refine (rgive_off hb (off_st hs) place rc rb).mono (fun e w' he => ?_)
    obtain ⟨rfl, hc⟩ := he
    rw [give_none (next_not (off_st hs))]
    exact ⟨rfl, RfIs.same ⟨h1, h2, h3, .inl ⟨hs, x0, x1, x2, hb⟩⟩ hc, _, hc, fun k _ h => h.elim⟩
  · have e := live_eq hl
    have hg := rgive_any hr (by rw [e]; exact hl) (by rw [e]; exact hz) place rc rb hrb
    rw [e] at hg
    refine hg.mono (fun e w' he => ?_)
    obtain ⟨rfl, hc, hr2⟩ := he
    have hl2 := hl.give place (rc, rb)
    have hlo := hr.lo
    refine ⟨rfl, ⟨h1, h2, hr2.base, .inr ⟨ob, hb, sv, av, lv, iv, srcs, n1, n2, ?_, ?_⟩⟩, _, hc, fun k hk e => ?_⟩
    · rw [hl2.gr]; exact hr2
    · rw [hl2.gr]; exact hl2
    · rcases e with rfl | rfl | rfl
      · exact ⟨h1, h2, _, _, hr.blk, refT_ref⟩
      · exact ⟨n1, hlo.2.1, _, _, hr.out, refT_res⟩
      · exact ⟨n2, hlo.2.2, _, _, hr.has, refT_bool⟩
theorem rstart_is (h : RfIs w0 w u fp s) (hf : ∀ k, fp k → k < w.heap.size) {sv av lv : Value} {iv : Nat → Value} {g : GrR} {srcs : List SrcR} (nm : NamesAt w0 sv g.srcs) (ac : ActsAt w0 av g.acts iv) (ls : SrcsAt w0 lv srcs) :
    Calls Tryz.prog 45 #[.pointer (some ⟨u, 0, none⟩), .agg #[sv, av], lv] w (fun e w' => e = .returned (.int .i64 (checkS g srcs)) ∧ RefStep w0 w w' u fp (BkS.start g srcs)) := by
  obtain ⟨x0, x1, x2, y0, y1, hb⟩ := h.cells
  obtain ⟨h1, h2, h3, h4⟩ := h
  refine (rstart_any hb h3 h2 nm ac ls).mono (fun e w' he => ?_)
  obtain ⟨rfl, hc, hr⟩ := he
  have h3' := h3.trans hc (fun k hk e => by omega)
  refine ⟨rfl, ⟨h1, h2, h3', ?_⟩, _, hc, fun k hk e => ?_⟩
  · rcases hr with ⟨hz, z0, z1, z2, hb2⟩ | ⟨hz, ob, hb, l1, l2, hr⟩
    · rw [start_bad hz]
      exact .inl ⟨.inr rfl, z0, z1, z2, hb2⟩
    · rw [start_ok hz]
      have hl := live_begun (checkS_zero.1 hz)
      exact .inr ⟨ob, hb, sv, av, lv, iv, srcs, fun e => absurd (hf _ e) (by omega), fun e => absurd (hf _ e) (by omega), hr, hl⟩
  · subst e
    exact ⟨h1, h2, _, _, hb, refT_ref⟩
/-- The law's own store: it is stopped. -/
theorem RfIs.stop (h : RfIs w0 w u fp s) (h1 : s.st = 1) : RfIs w0 (w.setCell ⟨u, 3, none⟩ (.int .i64 3)) u fp s.stop := by
  obtain ⟨k1, k2, k3, k4⟩ := h
  have hc : Chg (fun k => k = u) w (w.setCell ⟨u, 3, none⟩ (.int .i64 3)) := (Chg.refl (fun k => k = u) w).setCell (p := ⟨u, 3, none⟩) (fun _ => rfl) _
  refine ⟨k1, k2, k3.trans hc (fun k hk e => by omega), .inr ?_⟩
  rcases k4 with ⟨hs, _⟩ | ⟨ob, hb, sv, av, lv, iv, srcs, n1, n2, hr, hl⟩
  · exact absurd h1 (off_st hs)
  · have hl2 := hl.stop
    have es : s.stop = ⟨s.g, 3, s.ord, s.t⟩ := by unfold BkS.stop; rw [if_pos h1]
    refine ⟨ob, hb, sv, av, lv, iv, srcs, n1, n2, ?_, ?_⟩
    · rw [es]
      have hk := heap_set_same hr.blk 3 (.int .i64 3)
      exact hr.setSt (st' := 3) hk hc
    · rw [hl2.gr]; exact hl2
end
end Go.Proofs.YthglfmacjoecgaaGreatDoor
namespace Go.Proofs.YthglfmacjoecgaaGreatDoor
open Go.RowKit
section
variable {P : Program} {w : World} {ops : Array Oper} {rest : List Oper} {o : Oper} {a : Act} {Q : Exit → Act → World → Prop}
theorem wpList_loadWV (hw : Region.wanted o (yielded ops a.tmps) = true) (t : TypeId) (x : Operand) (hop : o.op = Op.load t x) (b off : Nat) (v : Value) (hx : a.eval x = .pointer (some ⟨b, off, none⟩)) (hr : (loadVar t ⟨b, off, none⟩).run P w = .ok v w)
    (h : wpList P ops Q rest (a.put o.dst v) w) : wpList P ops Q (o :: rest) a w := by
  refine wpList_plainW hw fun K' hK' => ?_
  unfold Oper.wp
  simp only [execOp, hop, hx, Instr.loadAt, Instr.sureAddr, Sem.run_bind, Sem.run_pure, Result.andThen_ok, hr, Oper.upon]
  exact hK' _ _ h
theorem wpList_cmpWV (hw : Region.wanted o (yielded ops a.tmps) = true) (op : BinOp) (t t2 : TypeId) (x y : Operand) (hop : o.op = Op.binOp op t x y t2) (xs ys : Array Value) (hx : a.eval x = .agg xs) (hy : a.eval y = .agg ys) (hm : P.eqGuardType P.depth t = false) (r : Bool) (hr : (binOp op t (.agg xs) (.agg ys)).run P w = .ok (.bool r) w)
    (h : wpList P ops Q rest (a.put o.dst (.bool r)) w) : wpList P ops Q (o :: rest) a w := by
  refine wpList_plainW hw fun K' hK' => ?_
  have hge := run_eqGuard_agg (P := P) w op t x y xs ys hm
  unfold Oper.wp
  simp only [execOp, hop, Sem.run_bind, hx, hy, hge, hr, Result.andThen, Sem.run_pure, Oper.upon]
  exact hK' _ _ h
end
/-- b is some baker, made since w2; nothing of w2 has changed. -/
def SomeBk (w2 : World) (b : Nat) (W : World) : Prop := Chg (fun _ => False) w2 W ∧ ∃ r fp sv av ov iv s, w2.heap.size ≤ r ∧ IsBk W b r fp sv av ov iv s ∧ BkSize s
theorem SomeBk.same {w2 W V : World} {b : Nat} (h : SomeBk w2 b W) (hc : Chg (fun _ => False) W V) : SomeBk w2 b V := by
  obtain ⟨h1, r, fp, sv, av, ov, iv, s, h2, h3, h4⟩ := h
  exact ⟨h1.trans hc (fun _ _ h => h), r, fp, sv, av, ov, iv, s, h2, h3.same hc, h4⟩
end Go.Proofs.YthglfmacjoecgaaGreatDoor
namespace Go.Proofs.YthglfmacjoecgaaGreatDoor
open Go.RowKit

theorem equalIn_resK (a : ResR) (ha : (Lit.int .i64 a.1).wf = true) (ha2 : a.2.size ≤ maxLen) (w : World) :
    (Op.equalIn 10000 47 (.agg #[.int .i64 a.1, .string a.2]) (.agg #[.int .i64 a.1, .string a.2])).run Tryz.prog w = .ok true w := by
  have hf : ∀ r : ResR, (resW r).formed Tryz.prog 47 = true := fun r => by kernel_rfl
  obtain ⟨r, e1, e2⟩ := run_equalIn_deep (P := Tryz.prog) 9998 2 47 (by kernel_rfl) w 2 2 (resW a) (resW a) _ _ (hf a) (hf a) (lits_res a ha ha2) (lits_res a ha ha2)
  rw [e2.2 rfl] at e1
  exact e1
set_option maxRecDepth 100000 in
set_option maxHeartbeats 4000000 in
theorem rsameJ_any (jn : ByteArray) (jp : Int) (jc : ByteArray) (jk : Nat → UInt8) (ji : List ResR) (hx : ∀ r ∈ ji, (Lit.int .i64 r.1).wf = true ∧ r.2.size ≤ maxLen) (v1 v2 : Value) (w : World) (h1 : ResAt w v1 ji) (h2 : ResAt w v2 ji) :
    Calls Tryz.prog 49 #[.agg (jobA jn jp jc v1 jk), .agg (jobA jn jp jc v2 jk)] w (Rets (.bool true) (Chg (fun _ => False) w)) := by
  obtain ⟨o1, c1, rfl⟩ := h1.form
  obtain ⟨o2, c2, rfl⟩ := h2.form
  have hmx := h1.rows.le
  unfold maxLen at hmx
  have HC := hid ((al_chg w (.cells (jobA jn jp jc (.slice o1 ji.length c1) jk) 85)).trans (al_chg _ (.cells (jobA jn jp jc (.slice o2 ji.length c2) jk) 85)) (fun _ _ h => h))
  have HA := hid (heap_alloc_old' (heap_alloc_new' w (.cells (jobA jn jp jc (.slice o1 ji.length c1) jk) 85)) (.cells (jobA jn jp jc (.slice o2 ji.length c2) jk) 85))
  have hb := heap_alloc_new' (w.alloc (.cells (jobA jn jp jc (.slice o1 ji.length c1) jk) 85)) (.cells (jobA jn jp jc (.slice o2 ji.length c2) jk) 85)
  rw [show (w.alloc (.cells (jobA jn jp jc (.slice o1 ji.length c1) jk) 85)).heap.size = w.heap.size + 1 by simp] at hb
  have HB := hid hb
  have H1 := hid h1
  have H2 := hid h2
  have HX := hid hx
  clear h1 h2 hx hb
  go_enter Tryz.func49, Tryz.ntmps49
  go_upto_region 1 with fail
  obtain ⟨W, hW⟩ : ∃ W, W = (w.alloc (.cells (jobA jn jp jc (.slice o1 ji.length c1) jk) 85)).alloc (.cells (jobA jn jp jc (.slice o2 ji.length c2) jk) 85) := ⟨_, rfl⟩
  have hC := HC.out
  have hA := HA.out
  have hB := HB.out
  rw [← hW] at hC hA hB ⊢
  obtain ⟨ja, hja⟩ : ∃ ja, ja = w.heap.size := ⟨_, rfl⟩
  obtain ⟨jb, hjb⟩ : ∃ jb, jb = w.heap.size + 1 := ⟨_, rfl⟩
  rw [← hjb] at hB ⊢
  rw [← hja] at hA ⊢
  obtain ⟨y0, y1, y2, y3⟩ := job_cells hA
  obtain ⟨z0, z1, z2, z3⟩ := job_cells hB
  have HC1 := hid hC
  have HA1 := hid hA
  have HB1 := hid hB
  have hl1 := H1.out.len
  have hl2 := H2.out.len
  clear hW hja hjb HC HA HB hC hA hB
  go_upto_region 3 with (first | (guard_target =~ wpList _ _ _ (Oper.mk (some 29) _ _ _ _ _ :: _) _ _; refine wpList_loadWV (by first | kernel_rfl | simp [Region.wanted, yielded]) 57 _ rfl ja 4 _ rfl (load_digK (job_range HA1.out)) ?_) | (guard_target =~ wpList _ _ _ (Oper.mk (some 31) _ _ _ _ _ :: _) _ _; refine wpList_loadWV (by first | kernel_rfl | simp [Region.wanted, yielded]) 57 _ rfl jb 4 _ rfl (load_digK (job_range HB1.out)) ?_) | (guard_target =~ wpList _ _ _ (Oper.mk (some 32) _ _ _ _ _ :: _) _ _; refine wpList_cmpWV (by first | kernel_rfl | simp [Region.wanted, yielded]) .neq 57 57 _ _ rfl _ _ rfl rfl (by kernel_rfl) false (neq_dig_sameK jk _) ?_))
  clear y0 y1 y2 z0 z1 z2
  go_wp2_with fail
  clear y3 z3
  go_loopw [5] (fun i wr => ∃ k : Nat, k ≤ ji.length ∧ i = .int .i64 k ∧ Chg (fun _ => False) W wr) (fun i _ => ji.length - (intOf i).toNat)
  case atStart => exact ⟨0, Nat.zero_le _, rfl, Chg.refl _ _⟩
  case round =>
    obtain ⟨k, hk, rfl, hch⟩ := hrel
    have HC := hid hch
    obtain ⟨_, _, _, y3⟩ := job_cells (hch.obj HA1.out (fun h => h))
    obtain ⟨_, _, _, z3⟩ := job_cells (hch.obj HB1.out (fun h => h))
    have HCW := hid (HC1.out.trans hch (fun _ _ h => h))
    clear hch
    by_cases hkn : k < ji.length
    · have hkn' : (k : Int) < ji.length := by omega
      obtain ⟨b1, p1, hix1, x0, x1, hl1⟩ := (H1.out.chg HCW.out (fun _ _ h => h)).ix k hkn
      obtain ⟨b2, p2, hix2, u0, u1, hl2⟩ := (H2.out.chg HCW.out (fun _ _ h => h)).ix k hkn
      obtain ⟨g1, g2⟩ := HX.out _ (List.getElem_mem hkn)
      have heq := equalIn_resK ji[k] g1 g2
      generalize ji[k].1 = c at *
      generalize ji[k].2 = x at *
      clear g1 g2 hl1 hl2
      go_wp2_with fail
      go_quiet (fail)
      go_wp2_with fail
      go_roundw
      case rel => exact ⟨k + 1, by omega, by go_num, HC.out.drewN _⟩
      case measure => simp [intOf]; omega
    · obtain rfl : k = ji.length := by omega
      go_wp2_with fail
      go_ret
      exact ⟨rfl, HCW.out⟩
end Go.Proofs.YthglfmacjoecgaaGreatDoor
namespace Go.Proofs.YthglfmacjoecgaaGreatDoor
open Go.RowKit

/-- The program's baker is at s', the document's at s. -/
def Mid (w3 : World) (b u : Nat) (s' s : BkS) (W : World) : Prop :=
  ∃ r fp sv av ov iv, w3.heap.size ≤ b ∧ w3.heap.size ≤ r ∧ IsBk W b r fp sv av ov iv s' ∧ BkSize s' ∧ BkSize s ∧ RfIs w3 W u fp s ∧ ∀ a ∈ s'.g.acts, a.name.length ≤ maxLen
section
variable {w3 W V : World} {b r u : Nat} {fp : Nat → Prop} {sv av ov : Value} {iv : Nat → Value} {s s' : BkS} {B : Nat}
theorem isBk_ref (h : IsBk W b r fp sv av ov iv s) {k : Nat} {c : Array Value} {T : TypeId} (hk : W.heap[k]? = some (.cells c T (0, 0))) (hT : RefT T) : ¬ (k = b ∨ k = r) := by
  rintro (e | e)
  · subst e
    have h1 := h.blk
    rw [hk] at h1
    simp only [Option.some.injEq, Obj.cells.injEq] at h1
    rw [h1.2.1] at hT
    rcases hT with h | h | h <;> exact absurd h (by decide)
  · subst e
    obtain ⟨es, clock, h1, _⟩ := h.map
    rw [hk] at h1
    cases h1
/-- Blocks of other types are as they were. -/
def Keeps (W V : World) : Prop := ∀ (k : Nat) (c : Array Value) (T : TypeId), W.heap[k]? = some (.cells c T (0, 0)) → ¬ RefT T → T ≠ 142 → V.heap[k]? = some (.cells c T (0, 0))
theorem keeps_bk (h : IsBk W b r fp sv av ov iv s) {G : Nat → Prop} (hc : Chg G W V) (hG : ∀ k, G k → k = b ∨ k = r) : Keeps W V := fun k c T hk h1 h2 => hc.obj hk (fun e => by
  rcases hG k e with e | e
  · subst e
    have h3 := h.blk
    rw [hk] at h3
    simp only [Option.some.injEq, Obj.cells.injEq] at h3
    exact h2 h3.2.1
  · subst e
    obtain ⟨es, clock, h3, _⟩ := h.map
    rw [hk] at h3
    cases h3)
theorem keeps_rf {F : Nat → Prop} {fq : Nat → Prop} {w0 : World} (q2 : Chg F W V) (q3 : ∀ k, k < W.heap.size → F k → ¬ fq k ∧ w0.heap.size ≤ k ∧ ∃ c T, W.heap[k]? = some (.cells c T (0, 0)) ∧ RefT T) : Keeps W V := fun k c T hk h1 _ => q2.obj hk (fun e => by
  obtain ⟨_, _, c2, T2, h3, h4⟩ := q3 k (heap_lt hk) e
  rw [hk] at h3
  simp only [Option.some.injEq, Obj.cells.injEq] at h3
  rw [← h3.2.1] at h4
  exact h1 h4)
theorem Mid.chg (h : Mid w3 b u s' s W) : Chg (fun _ => False) w3 W := by
  obtain ⟨r, fp, sv, av, ov, iv, h1, h2, h3, h4, h5, h6, h7⟩ := h
  exact h6.2.2.1
theorem Mid.same (h : Mid w3 b u s' s W) (hc : Chg (fun _ => False) W V) : Mid w3 b u s' s V := by
  obtain ⟨r, fp, sv, av, ov, iv, h1, h2, h3, h4, h5, h6, h7⟩ := h
  exact ⟨r, fp, sv, av, ov, iv, h1, h2, h3.same hc, h4, h5, h6.same hc, h7⟩
/-- The program's call has been: the document's baker is as it was. -/
theorem rfIs_prog (h3 : IsBk W b r fp sv av ov iv s') {fq : Nat → Prop} (h6 : RfIs w3 W u fq s) (hb : w3.heap.size ≤ b) (hr : w3.heap.size ≤ r) {G : Nat → Prop} (hc : Chg G W V) (hG : ∀ k, G k → k = b ∨ k = r) : RfIs w3 V u fq s :=
  h6.keep hc (fun k hk e => by rcases hG k e with e | e <;> omega) (fun k c T hk hT _ e => isBk_ref h3 hk hT (hG k e))
theorem both_start_b (h : Mid w3 b u s s W) (_hT : TabsOK B W) (hB : B ≤ w3.heap.size) {g : GrR} {srcs : List SrcR} {sv av lv : Value} {iv : Nat → Value} (k1 : NamesAt w3 sv g.srcs) (k2 : ActsAt w3 av g.acts iv) (k3 : SrcsAt w3 lv srcs) (hT3 : TabsOK B w3) :
    Calls Tryz.prog 40 #[.pointer (some ⟨b, 0, none⟩), .agg #[sv, av], lv] W (fun e w' => e = .returned (.int .i64 (checkS g srcs)) ∧ Keeps W w' ∧ Mid w3 b u (BkS.start g srcs) s w') := by
  obtain ⟨r, fp, sv0, av0, ov0, iv0, h1, h2, h3, h4, h5, h6, h7⟩ := h
  refine (bstart_plan k1 k2 k3 h3 h1 h6.2.2.1 hT3 hB).mono (fun e w' he => ?_)
  obtain ⟨rfl, hc, r2, fp2, sv2, av2, ov2, iv2, hb2, hr2, hf2⟩ := he
  refine ⟨rfl, keeps_bk h3 hc (fun k e => .inl e), r2, fp2, sv2, av2, ov2, iv2, h1, Nat.le_trans h6.2.2.1.size hr2, hb2, size_start g srcs, h5, rfIs_prog h3 (h6.fps (fun k hk _ e => absurd (hf2 k e) (by omega))) h1 h2 hc (fun k e => .inl e), ?_⟩
  by_cases hz : checkS g srcs = 0
  · rw [start_ok hz]
    exact fun a h => (k2.wide a h).1
  · rw [start_bad hz]
    intro a h
    cases h
theorem mid_start_u (h : Mid w3 b u s' s W) {g : GrR} {srcs : List SrcR} {sv av lv : Value} {iv : Nat → Value} (k1 : NamesAt w3 sv g.srcs) (k2 : ActsAt w3 av g.acts iv) (k3 : SrcsAt w3 lv srcs) :
    Calls Tryz.prog 45 #[.pointer (some ⟨u, 0, none⟩), .agg #[sv, av], lv] W (fun e w' => e = .returned (.int .i64 (checkS g srcs)) ∧ Keeps W w' ∧ Mid w3 b u s' (BkS.start g srcs) w') := by
  obtain ⟨r, fp, sv0, av0, ov0, iv0, h1, h2, h3, h4, h5, h6, h7⟩ := h
  refine (rstart_is h6 h3.flt k1 k2 k3).mono (fun e w' he => ?_)
  obtain ⟨rfl, q1, F, q2, q3⟩ := he
  refine ⟨rfl, keeps_rf q2 q3, r, fp, sv0, av0, ov0, iv0, h1, h2, h3.keep q2 (fun e => ?_) (fun e => ?_) (fun k hk e => (q3 k (h3.flt k hk) e).1 hk), h4, size_start g srcs, q1, h7⟩
  · obtain ⟨_, _, c, T, hk, hT⟩ := q3 b (heap_lt h3.blk) e
    exact isBk_ref h3 hk hT (.inl rfl)
  · obtain ⟨_, _, c, T, hk, hT⟩ := q3 r h3.map.lt e
    exact isBk_ref h3 hk hT (.inr rfl)
theorem give_g (s : BkS) (place : Int) (x : ResR) : (s.give place x).2.g = s.g := by
  unfold BkS.give
  split
  · rfl
  · split
    · split <;> rfl
    · rfl
theorem stop_g (s : BkS) : s.stop.g = s.g := by
  unfold BkS.stop
  split <;> rfl
theorem both_give_b (h : Mid w3 b u s s W) (hT : TabsOK B W) (hB : B ≤ W.heap.size) (place rc : Int) (rb : ByteArray) (hx : ROK (rc, rb)) :
    Calls Tryz.prog 44 #[.pointer (some ⟨b, 0, none⟩), .int .i64 place, .agg #[.int .i64 rc, .string rb]] W (fun e w' => e = .returned (.int .i64 (s.give place (rc, rb)).1) ∧ Keeps W w' ∧ Mid w3 b u (s.give place (rc, rb)).2 s w') := by
  obtain ⟨r, fp, sv0, av0, ov0, iv0, h1, h2, h3, h4, h5, h6, h7⟩ := h
  have hxl : rb.size ≤ maxLen := by have := hx.1; unfold maxLen; simp only at this; omega
  refine (bgive_any h3 h4 hT hB place (rc, rb) hxl).mono (fun e w' he => ?_)
  obtain ⟨rfl, ⟨hc, hb2⟩, _⟩ := he
  exact ⟨rfl, keeps_bk h3 hc (fun k e => e), r, fp, sv0, av0, ov0, iv0, h1, h2, hb2, h4.give place hx, h5, rfIs_prog h3 h6 h1 h2 hc (fun k e => e), by rw [give_g]; exact h7⟩
theorem mid_give_u (h : Mid w3 b u s' s W) (place rc : Int) (rb : ByteArray) (hx : ROK (rc, rb)) :
    Calls Tryz.prog 46 #[.pointer (some ⟨u, 0, none⟩), .int .i64 place, .agg #[.int .i64 rc, .string rb]] W (fun e w' => e = .returned (.int .i64 (s.give place (rc, rb)).1) ∧ Keeps W w' ∧ Mid w3 b u s' (s.give place (rc, rb)).2 w') := by
  obtain ⟨r, fp, sv0, av0, ov0, iv0, h1, h2, h3, h4, h5, h6, h7⟩ := h
  have hxl : rb.size ≤ maxLen := by have := hx.1; unfold maxLen; simp only at this; omega
  refine (rgive_is h6 h5 place rc rb hxl).mono (fun e w' he => ?_)
  obtain ⟨rfl, q1, F, q2, q3⟩ := he
  refine ⟨rfl, keeps_rf q2 q3, r, fp, sv0, av0, ov0, iv0, h1, h2, h3.keep q2 (fun e => ?_) (fun e => ?_) (fun k hk e => (q3 k (h3.flt k hk) e).1 hk), h4, h5.give place hx, q1, h7⟩
  · obtain ⟨_, _, c, T, hk, hT⟩ := q3 b (heap_lt h3.blk) e
    exact isBk_ref h3 hk hT (.inl rfl)
  · obtain ⟨_, _, c, T, hk, hT⟩ := q3 r h3.map.lt e
    exact isBk_ref h3 hk hT (.inr rfl)
theorem both_stop_b (h : Mid w3 b u s s W) : Calls Tryz.prog 48 #[.pointer (some ⟨b, 0, none⟩)] W (Rets (.tuple #[]) (Mid w3 b u s.stop s)) := by
  obtain ⟨r, fp, sv0, av0, ov0, iv0, h1, h2, h3, h4, h5, h6, h7⟩ := h
  refine (bstop_any h3).mono (fun e w' he => ?_)
  obtain ⟨rfl, hc, hb2⟩ := he
  exact ⟨rfl, r, fp, sv0, av0, ov0, iv0, h1, h2, hb2, h4.stop, h5, rfIs_prog h3 h6 h1 h2 hc (fun k e => e), by rw [stop_g]; exact h7⟩
theorem mid_stop_u (h : Mid w3 b u s' s W) (h1 : s.st = 1) : Mid w3 b u s' s.stop (W.setCell ⟨u, 3, none⟩ (.int .i64 3)) := by
  obtain ⟨r, fp, sv0, av0, ov0, iv0, k1, k2, h3, h4, h5, h6, h7⟩ := h
  obtain ⟨x0, x1, x2, y0, y1, hu⟩ := h6.cells
  have hc : Chg (fun k => k = u) W (W.setCell ⟨u, 3, none⟩ (.int .i64 3)) := (Chg.refl (fun k => k = u) W).setCell (p := ⟨u, 3, none⟩) (fun _ => rfl) _
  exact ⟨r, fp, sv0, av0, ov0, iv0, k1, k2, h3.keep hc (fun e => isBk_ref h3 hu refT_ref (.inl e.symm)) (fun e => isBk_ref h3 hu refT_ref (.inr e.symm)) (fun k hk e => h6.1 (e ▸ hk)), h4, h5.stop, h6.stop h1, h7⟩
theorem stop_not (h1 : s.st ≠ 1) : s.stop = s := by unfold BkS.stop; rw [if_neg h1]
theorem Mid.cells (h : Mid w3 b u s' s W) : ∃ x0 x1 x2 y0 y1, W.heap[u]? = some (.cells #[x0, x1, x2, .int .i64 s.st, y0, y1] 96 (0, 0)) := by
  obtain ⟨r, fp, sv0, av0, ov0, iv0, k1, k2, h3, h4, h5, h6, h7⟩ := h
  exact h6.cells
theorem both_job_b (h : Mid w3 b u s' s W) (hT : TabsOK B W) (hB : B ≤ W.heap.size) : Calls Tryz.prog 41 #[.pointer (some ⟨b, 0, none⟩)] W (JobPost W s') := by
  obtain ⟨r, fp, sv0, av0, ov0, iv0, k1, k2, h3, h4, h5, h6, h7⟩ := h
  exact bjob_any h3 h4 hT hB
theorem both_job_u (h : Mid w3 b u s' s W) : Calls Tryz.prog 47 #[.pointer (some ⟨u, 0, none⟩)] W (JobPost W s) := by
  obtain ⟨r, fp, sv0, av0, ov0, iv0, k1, k2, h3, h4, h5, h6, h7⟩ := h
  exact rjob_is h6 h5
theorem both_state_b (h : Mid w3 b u s' s W) : Calls Tryz.prog 42 #[.pointer (some ⟨b, 0, none⟩)] W (Rets (.int .i64 s'.st) (fun w' => W = w')) := by
  obtain ⟨r, fp, sv0, av0, ov0, iv0, k1, k2, h3, h4, h5, h6, h7⟩ := h
  exact bstate_any h3
theorem both_results_b (h : Mid w3 b u s' s W) : Calls Tryz.prog 43 #[.pointer (some ⟨b, 0, none⟩)] W (ResultsPost W s'.out) := by
  obtain ⟨r, fp, sv0, av0, ov0, iv0, k1, k2, h3, h4, h5, h6, h7⟩ := h
  exact bresults_any h3 h4.n2
theorem both_results_u (h : Mid w3 b u s' s W) : Calls Tryz.prog 50 #[.pointer (some ⟨u, 0, none⟩)] W (ResultsPost W s.out) := by
  obtain ⟨r, fp, sv0, av0, ov0, iv0, k1, k2, h3, h4, h5, h6, h7⟩ := h
  exact rresults_is h6 h5
theorem Mid.ok (h : Mid w3 b u s' s W) : BkSize s' ∧ ∀ x ∈ s'.out, x.1.length ≤ maxLen ∧ (Lit.int .i64 x.2.1).wf = true ∧ x.2.2.size ≤ maxLen := by
  obtain ⟨r, fp, sv0, av0, ov0, iv0, k1, k2, h3, h4, h5, h6, h7⟩ := h
  exact ⟨h4, out_ok h4 h7⟩
end
end Go.Proofs.YthglfmacjoecgaaGreatDoor
