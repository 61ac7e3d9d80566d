/- Texts of the proof, one behind the other: What isn't dirty comes to the same, with the same keys: plain law. No program in sight; OvenClean walked: it returns true. -/
import Derived.Test.YthglfmacjoecgaaGreatDoorMg18
import Derived.Test.YthglfmacjoecgaaGreatDoorMg14
import Derived.Test.YthglfmacjoecgaaGreatDoorMg34
import Derived.Test.YthglfmacjoecgaaGreatDoorMg31
import Derived.Test.YthglfmacjoecgaaGreatDoorMg27
import Derived.Test.YthglfmacjoecgaaGreatDoorMg13
namespace Go.Proofs.YthglfmacjoecgaaGreatDoor
open Go

/-- Sources with other blobs under some names. -/
structure Mix (srcs m : List SrcR) (names : List Nm) : Prop where
  len : m.length = srcs.length
  name : ∀ i (h : i < m.length), (m[i]).1 = (srcs[i]'(by omega)).1
  blob : ∀ i (h : i < m.length), (m[i]).2 = (srcs[i]'(by omega)).2 ∨ (m[i]).1 ∈ names
  wide : ∀ i (h : i < m.length), (m[i]).2.size ≤ 512 ∨ (m[i]).2 = (srcs[i]'(by omega)).2
  from_ : ∀ s ∈ names, s ∈ srcs.map Prod.fst
theorem Mix.refl (srcs : List SrcR) : Mix srcs srcs [] := ⟨rfl, fun _ _ => rfl, fun _ _ => .inl rfl, fun _ _ => .inr rfl, by simp⟩
theorem Mix.set {srcs m : List SrcR} {names : List Nm} (h : Mix srcs m names) {k : Nat} (hk : k < m.length) {b : ByteArray} (hb : b.size ≤ 512) : Mix srcs (m.set k (m[k].1, b)) (names ++ [m[k].1]) := by
  refine ⟨by simp [h.len], fun i hi => ?_, fun i hi => ?_, fun i hi => ?_, fun s hs => ?_⟩
  · have hi' : i < m.length := by simpa using hi
    by_cases e : k = i
    · subst e; rw [List.getElem_set_self]; exact h.name k hk
    · rw [List.getElem_set_ne e]; exact h.name i hi'
  · have hi' : i < m.length := by simpa using hi
    by_cases e : k = i
    · subst e; right; rw [List.getElem_set_self]; simp
    · rw [List.getElem_set_ne e]
      rcases h.blob i hi' with h1 | h1
      · exact .inl h1
      · exact .inr (by simp [h1])
  · have hi' : i < m.length := by simpa using hi
    by_cases e : k = i
    · subst e; left; rw [List.getElem_set_self]; exact hb
    · rw [List.getElem_set_ne e]; exact h.wide i hi'
  · rcases List.mem_append.1 hs with hs | hs
    · exact h.from_ s hs
    · simp only [List.mem_singleton] at hs
      subst hs
      rw [h.name k hk]
      exact List.mem_map.2 ⟨_, List.getElem_mem _, rfl⟩
theorem Mix.fst {srcs m : List SrcR} {names : List Nm} (h : Mix srcs m names) : m.map Prod.fst = srcs.map Prod.fst := by
  apply List.ext_getElem (by simp [h.len])
  intro i h1 h2
  rw [List.getElem_map, List.getElem_map]
  exact h.name i (by simpa using h1)
theorem Mix.done {g : GrR} {srcs m : List SrcR} {names : List Nm} (h : Mix srcs m names) (hD : Done g srcs) : Done g m := by
  refine ⟨hD.can, ⟨by rw [h.fst]; exact hD.fit.nd, fun s => by rw [h.fst]; exact hD.fit.mem s⟩, fun s hs => ?_⟩
  obtain ⟨i, hi, rfl⟩ := List.mem_iff_getElem.1 hs
  rcases h.wide i hi with h1 | h1
  · exact h1
  · rw [h1]; exact hD.wide _ (List.getElem_mem _)
theorem Mix.src {g : GrR} {srcs m : List SrcR} {names : List Nm} (h : Mix srcs m names) (hD : Done g srcs) : ∀ s ∈ g.srcs, s ∉ names → valT (srcT m) s = valT (srcT srcs) s := by
  intro s hs hn
  obtain ⟨x, hx, rfl⟩ := List.mem_map.1 ((hD.fit.mem s).2 hs)
  obtain ⟨i, hi, rfl⟩ := List.mem_iff_getElem.1 hx
  have hi' : i < m.length := by rw [h.len]; exact hi
  have e1 := srcT_mem (h.done hD).fit.nd (List.getElem_mem hi')
  have e2 := srcT_mem hD.fit.nd (List.getElem_mem hi)
  have hb := (h.blob i hi').resolve_right (by rw [h.name i hi']; exact hn)
  unfold valT
  rw [h.name i hi'] at e1
  rw [e1, e2, hb]
theorem mix_clean {g : GrR} {srcs m : List SrcR} {names : List Nm} (h : Mix srcs m names) (hD : Done g srcs) {i : Nat} (hi : i < g.acts.length) (hd : dirtyB g names i = false) :
    (outT g m)[i]'(by rw [outT_len]; exact hi) = (outT g srcs)[i]'(by rw [outT_len]; exact hi) ∧ keyS g m i = keyS g srcs i := by
  have hc := made_clean (F := FF) hD.can srcs m names (h.src hD) i hi hd
  constructor
  · rw [outT_get g srcs i hi, outT_get g m i hi]
    congr 1
    have := hc.2
    rw [nameAt_lt g i hi] at this
    exact this
  · unfold keyS keyK madeS
    rw [hc.1]
end Go.Proofs.YthglfmacjoecgaaGreatDoor
namespace Go.Proofs.YthglfmacjoecgaaGreatDoor
open Go.RowKit

theorem srcL_one : ∀ y : SrcR, ∀ u ∈ srcL y, u.oneCell' = true := by
  intro y u hu
  unfold srcL at hu
  simp only [List.mem_cons, List.not_mem_nil, or_false] at hu
  rcases hu with rfl | rfl <;> rfl
theorem elSrc : ElT Tryz.prog 26 55 2 32 := .mk' (z := .agg #[.string ByteArray.empty, .string ByteArray.empty]) Tryz.underlying26 (by kernel_rfl) rfl (by decide) rfl
theorem owns_nilS (w : World) : (w.alloc (.cells #[] 55)).ownsRow 0 55 2 (.slice (some ⟨w.heap.size, 0, none⟩) 0 0) 0 [] := owns_new w [] 55 2 0 rfl (Nat.zero_le _)
theorem SrcsAt.of_owns {w : World} {v : Value} {xs : List SrcR} {n : Nat} (hn : n = xs.length) (h : w.ownsRow 0 55 2 v n (xs.flatMap srcL)) (hl : xs.length ≤ 1000) (hw : ∀ s ∈ xs, s.1.length ≤ maxLen ∧ s.2.size ≤ maxLen) : SrcsAt w v xs := by
  subst hn
  exact ⟨rows_of_owns srcL noSrc xs (fun _ => rfl) h (by unfold maxLen; omega), hw⟩
theorem dirty_count (g : GrR) (names : List Nm) (k : Nat) (_h : k < g.acts.length) : ((List.range (k + 1)).filter (dirtyB g names)).length = ((List.range k).filter (dirtyB g names)).length + (if dirtyB g names k then 1 else 0) := by
  rw [range_snoc, List.length_append]
  congr 1
  split <;> rfl
theorem sizeSrc (w : World) : (sizeOf 55).run Tryz.prog w = .ok 2 w := by kernel_rfl
theorem ownIx {P : Program} {t e : TypeId} (ht : P.underlying t = some (.slice e)) {sz : Nat} (hs : ∀ w, (sizeOf e).run P w = .ok sz w) (g n cap k : Nat) (hk : k < n) (w : World) :
    (Instr.indexAt t (.slice (some ⟨g, 0, none⟩) n cap) (.int .i64 k)).run P w = .ok (.pointer (some ⟨g, k * sz, none⟩)) w := by
  have hb : (0 : Int) ≤ (k : Int) ∧ (k : Int) < (n : Int) := ⟨by omega, by omega⟩
  have hadd : (⟨g, 0, none⟩ : Addr).add (k * sz) = ⟨g, k * sz, none⟩ := by unfold Addr.add; split <;> simp_all
  simp [Instr.indexAt, run_underlying ht, asIntOf, hb.1, hs, hk, hadd]
theorem flatSet {α : Type} (f : α → List Value) (sz : Nat) (hf : ∀ x, (f x).length = sz) : ∀ (xs : List α) (i j : Nat) (hi : i < xs.length), j < sz → ∀ (u : Value) (y : α), f y = (f xs[i]).set j u → (xs.flatMap f).set (i * sz + j) u = (xs.set i y).flatMap f
  | x :: xs, 0, j, hi, hj, u, y, h => by
    rw [List.flatMap_cons, Nat.zero_mul, Nat.zero_add, List.set_append_left _ _ (by rw [hf]; exact hj), List.set_cons_zero, List.flatMap_cons, h]
    rfl
  | x :: xs, i + 1, j, hi, hj, u, y, h => by
    rw [List.flatMap_cons, List.set_append_right _ _ (by rw [hf, Nat.succ_mul]; omega), hf, show (i + 1) * sz + j - sz = i * sz + j by rw [Nat.succ_mul]; omega, List.set_cons_succ, List.flatMap_cons, flatSet f sz hf xs i j (by simpa using hi) hj u y (by simpa using h)]
theorem src_cells {w : World} {g cap n : Nat} {m : List SrcR} (h : w.ownsRow 0 55 2 (.slice (some ⟨g, 0, none⟩) n cap) n (m.flatMap srcL)) (hn : n = m.length) {k : Nat} (hk : k < m.length) :
    w.cell? ⟨g, k * 2, none⟩ = some (.string (bs m[k].1)) ∧ w.cell? ⟨g, k * 2 + 1, none⟩ = some (.string m[k].2) ∧ w.frozen? ⟨g, k * 2 + 1, none⟩ = false := by
  subst hn
  have h0 := h.cellAt (k * 2 + 0) (by omega)
  have h1 := h.cellAt (k * 2 + 1) (by omega)
  rw [flat_get srcL 2 (fun _ => rfl) _ _ _ hk (by decide)] at h0 h1
  exact ⟨h0, h1, h.frozenAt _⟩
theorem load_blt {w : World} {b off : Nat} {x y z : Value} (h0 : w.cell? ⟨b, off, none⟩ = some x) (h1 : w.cell? ⟨b, off + 1, none⟩ = some y) (h2 : w.cell? ⟨b, off + 2, none⟩ = some z) : (loadVar 53 ⟨b, off, none⟩).run Tryz.prog w = .ok (.agg #[x, y, z]) w := by
  simp [go_sem, h0, h1, h2]
theorem neq_blt_same (a : BltR) (h0 : a.1.length ≤ maxLen) (ha : (Lit.int .i64 a.2.1).wf = true) (ha2 : a.2.2.size ≤ maxLen) (w : World) :
    (binOp .neq 53 (.agg #[.string (bs a.1), .int .i64 a.2.1, .string a.2.2]) (.agg #[.string (bs a.1), .int .i64 a.2.1, .string a.2.2])).run Tryz.prog w = .ok (.bool false) w := by
  rw [run_neq_struct, equalIn_blt a h0 ha ha2]
  rfl
theorem small_wf3 {r : ResR} (h : Small r) : (Lit.int .i64 r.1).wf = true := by
  have h1 := h.lo
  have h2 := h.hi
  simp [Lit.wf, IntKind.min, IntKind.max, IntKind.signed, IntKind.bits]
  omega
/-- The other blobs so far, and the names. -/
structure CleanSt (srcs : List SrcR) (w5 w : World) (o7 : Option Addr) (c7 : Nat) (x11 : Value) (k : Nat) (m : List SrcR) (names : List Nm) : Prop where
  mix : Mix srcs m names
  own : w.ownsRow 0 55 2 (.slice o7 srcs.length c7) srcs.length (m.flatMap srcL)
  nms : w.ownsRow 0 9 1 x11 names.length (names.map nmV)
  le : names.length ≤ k
  blk : ∀ q, x11.ownBlock = some q → w5.heap.size ≤ q ∧ o7 ≠ some ⟨q, 0, none⟩
  chg : Chg (fun _ => False) w5 w
set_option maxRecDepth 100000 in
set_option maxHeartbeats 8000000 in
theorem oclean_any {B : Nat} (g : GrR) (srcs : List SrcR) (nows : List Nm) (v sv0 nv : Value) (w : World) (hg : GrAt w v g) (hss : SrcsAt w sv0 srcs) (hns : NamesAt w nv nows) (hT : TabsOK B w) (hB : B ≤ w.heap.size) :
    Calls Tryz.prog 9 #[v, sv0, nv] w (Rets (.bool true) (Chg (fun _ => False) w)) := by
  obtain ⟨oa, c, ob, d, iv, rfl, hs, ha⟩ := hg.form
  obtain ⟨os, cs, rfl⟩ := hss.form
  obtain ⟨on, cn, rfl⟩ := hns.form
  have hmn := hns.le
  have hms := hss.rows.le
  unfold maxLen at hmn hms
  have hC1 : Chg (fun _ => False) w (w.alloc (.cells #[.slice oa g.srcs.length c, .slice ob g.acts.length d] 25)) := (Chg.refl _ w).alloc _
  have hgb := heap_alloc_new' w (.cells #[.slice oa g.srcs.length c, .slice ob g.acts.length d] 25)
  have HG := hid hg
  have HSS := hid hss
  have HNS := hid hns
  have HC1 := hid hC1
  have HGB := hid hgb
  have HT := hid hT
  have HBB := hid hB
  clear hg hs ha hss hC1 hgb hT hB hns
  go_enter Tryz.func9, Tryz.ntmps9
  go_wp2_with fail
  refine (oawake_any _ (HT.out.keep HC1.out) (Nat.le_trans HBB.out HC1.out.size)).mono ?_
  rintro e w2 ⟨rfl, hc2⟩
  have HC2 := hid (HC1.out.trans hc2 (fun _ _ h => h))
  have HG2 := hid (hc2.obj HGB.out (fun h => h))
  clear hc2 HC1 HGB
  obtain ⟨gb, hgb⟩ : ∃ gb, gb = w.heap.size := ⟨_, rfl⟩
  rw [← hgb] at HG2 ⊢
  have HGBN : Hid (gb = w.heap.size) := hid hgb
  clear hgb
  have a0 := cell_of HG2.out 0
  have a1 := cell_of HG2.out 1
  simp at a0 a1
  go_wp2_with fail
  refine (ogreat_any g srcs _ _ _ (HG.out.chg HC2.out (fun _ _ h => h)) (HSS.out.chg HC2.out (fun _ _ h => h))).mono ?_
  rintro e w3 ⟨b3, rfl, hc3⟩
  have HC3 := hid (HC2.out.trans hc3 (fun _ _ h => h))
  have HG3 := hid (hc3.obj HG2.out (fun h => h))
  clear hc3 a0 a1 HC2 HG2
  cases b3 with
  | true =>
    go_wp2_with fail
    go_ret
    exact ⟨rfl, HC3.out⟩
  | false =>
  by_cases h30 : 30 < nows.length
  · have h30' : (30 : Int) < nows.length := by omega
    go_wp2_with fail
    go_ret
    exact ⟨rfl, HC3.out⟩
  have h30' : ¬ (30 : Int) < nows.length := by omega
  have d30 : decide ((30 : Int) < nows.length) = false := decide_eq_false h30'
  have a0 := cell_of HG3.out 0
  have a1 := cell_of HG3.out 1
  simp at a0 a1
  go_wp2_with fail
  clear d30 h30'
  refine (obuild_any g srcs _ _ _ (HG.out.chg HC3.out (fun _ _ h => h)) (HSS.out.chg HC3.out (fun _ _ h => h)) (HT.out.keep HC3.out) (Nat.le_trans HBB.out HC3.out.size)).mono ?_
  rintro e w4 ⟨hc4, v4, rfl, hb4⟩
  have HC4 := hid (HC3.out.trans hc4 (fun _ _ h => h))
  have HG4 := hid (hc4.obj HG3.out (fun h => h))
  have HA4 := hid hb4
  clear hc4 a0 a1 HC3 HG3 hb4
  have a0 := cell_of HG4.out 0
  have a1 := cell_of HG4.out 1
  simp at a0 a1
  go_wp2_with fail
  refine (okeys_any g srcs _ _ _ (HG.out.chg HC4.out (fun _ _ h => h)) (HSS.out.chg HC4.out (fun _ _ h => h)) (HT.out.keep HC4.out) (Nat.le_trans HBB.out HC4.out.size)).mono ?_
  rintro e w5 ⟨hc5, v5, rfl, hb5⟩
  have HC5 := hid (HC4.out.trans hc5 (fun _ _ h => h))
  have HG5 := hid (hc5.obj HG4.out (fun h => h))
  have HA5 := hid (HA4.out.chg hc5 (fun _ _ h => h))
  have HX5 := hid hb5
  clear hc5 a0 a1 HC4 HG4 hb5 HA4
  by_cases hz : ¬ checkS g srcs = 0
  · have hbe : ((checkS g srcs : Int) == 0) = false := by rw [beq_eq_false_iff_ne]; omega
    have hbe2 : ((checkS g srcs : Int) == (checkS g srcs : Int)) = true := beq_self_eq_true _
    clear HA5 HX5
    generalize checkS g srcs = cz at *
    go_wp2_with fail
    go_ret
    exact ⟨rfl, HC5.out⟩
  have hz := Decidable.not_not.1 hz
  have HD := hid (checkS_zero.1 hz)
  have ho : outS g srcs = outT g srcs := if_pos hz
  have hcn : cntS g srcs = g.acts.length := if_pos hz
  rw [ho] at HA5
  rw [hcn] at HX5
  rw [hz]
  clear hz ho hcn
  have HL8 := hid HD.out.can.w.srcs8
  have HL12 := hid HD.out.can.w.acts12
  have HLS : Hid (srcs.length ≤ 8) := hid (by
    have h1 := nodup_le _ _ HD.out.fit.nd (fun s hs => (HD.out.fit.mem s).1 hs)
    have h2 := HD.out.can.w.srcs8
    simp at h1
    omega)
  obtain ⟨oa4, ca4, rfl⟩ := HA5.out.form
  obtain ⟨ob5, cb5, rfl⟩ := HX5.out.form
  rw [outT_len]
  have hal6 := al_chg w5 (.cells #[] 9)
  have hal7 := hal6.alloc (.cells #[] 55)
  have HO11 := hid (owns_emptyM w5 9 1)
  have hoS := owns_nilS (w5.alloc (.cells #[] 9))
  rw [show (w5.alloc (.cells #[] 9)).heap.size = w5.heap.size + 1 by simp] at hoS
  have HOS := hid hoS
  have HAL6 := hid hal6
  have HAL7 := hid hal7
  clear hoS hal6 hal7
  go_wp2_with (guard_target =~ wpList _ _ _ (Oper.mk (some 53) _ _ _ _ _ :: _) _ _; refine wpList_append_rows rfl _ _ 26 rfl elSrc HOS.out rfl srcL noSrc srcs (fun _ => rfl) (fun y _ => srcL_one y) rfl (HSS.out.chg (HC5.out.trans HAL7.out (fun _ _ h => h)) (fun _ _ h => h)).rows (by have := HLS.out; unfold maxLen; omega) (by have := HLS.out; omega) ?_; intro v7 w7 hown7 hch7 hb7; rw [Nat.zero_add, List.nil_append] at hown7)
  obtain ⟨o7, c7, rfl⟩ := own_form hown7
  have HS7 := hid (show CleanSt srcs w5 w7 o7 c7 (.slice (some ⟨w5.heap.size, 0, none⟩) 0 0) 0 srcs [] from by
    have hc : Chg (fun _ => False) w5 w7 := HAL7.out.trans hch7 (fun i hi h => by obtain rfl := own_eq h; omega)
    refine ⟨Mix.refl srcs, hown7, ?_, Nat.le_refl _, fun q hq => ?_, hc⟩
    · have h1 := HO11.out.alloc (.cells #[] 55)
      exact hch7.owns h1 (fun z hz e => by obtain rfl := own_eq hz; have := own_eq e; omega)
    · have hq2 : q = w5.heap.size := own_eq hq
      refine ⟨by omega, fun e => ?_⟩
      subst e
      rcases hb7 _ rfl with h | h
      · have h3 : q = w5.heap.size + 1 := own_eq h
        omega
      · simp at h
        omega)
  have HB7 : Hid (∀ g7, o7 = some ⟨g7, 0, none⟩ → w5.heap.size ≤ g7) := hid (fun g7 e => by
    subst e
    rcases hb7 g7 rfl with h | h
    · have := own_eq h; omega
    · simp at h
      omega)
  have hls8 := HLS.out
  clear hown7 hch7 hb7 HO11 HOS HAL6 HAL7
  obtain ⟨b11, hb11⟩ : ∃ b11, b11 = w5.heap.size := ⟨_, rfl⟩
  rw [← hb11] at HS7 ⊢
  clear hb11
  go_loopw [11, 13] (fun v11 i wr => ∃ (k : Nat) (x : Value) (m : List SrcR) (names : List Nm), x = v11 ∧ k ≤ srcs.length ∧ i = .int .i64 k ∧ CleanSt srcs w5 wr o7 c7 x k m names) (fun _ i _ => srcs.length - (intOf i).toNat)
  case atStart => exact ⟨0, _, srcs, [], rfl, Nat.zero_le _, rfl, HS7.out⟩
  case round =>
    obtain ⟨k, x11, m, names, hx11, hk, rfl, hst⟩ := hrel
    subst hx11
    have HST := hid hst
    clear hst
    by_cases hkn : k < srcs.length ∧ k < nows.length
    · obtain ⟨hkn, hkw⟩ := hkn
      have hkn' : (k : Int) < srcs.length := by omega
      have hkw' : (k : Int) < nows.length := by omega
      have HKM : Hid (k < m.length) := hid (by rw [HST.out.mix.len]; exact hkn)
      obtain ⟨g7, cap7, hve, hcap, hg7⟩ := owns_some HST.out.own (by omega)
      obtain ⟨rfl, rfl⟩ : o7 = some ⟨g7, 0, none⟩ ∧ c7 = cap7 := by simpa using hve
      have HGB : Hid (w5.heap.size ≤ g7) := hid (HB7.out g7 rfl)
      obtain ⟨y0, y1, yf⟩ := src_cells HST.out.own HST.out.mix.len.symm HKM.out
      have hix7 := ownIx (P := Tryz.prog) Tryz.underlying26 sizeSrc g7 srcs.length c7 k hkn
      obtain ⟨ad, hixn, hadc, hadb⟩ := (HNS.out.chg (HC5.out.trans HST.out.chg (fun _ _ h => h)) (fun _ _ h => h)).ix k hkw
      have HSET : Hid (∀ x : ByteArray, (m.flatMap srcL).set (k * 2 + 1) (.string x) = (m.set k ((m[k]'HKM.out).1, x)).flatMap srcL) := hid (fun x => flatSet srcL 2 (fun _ => rfl) m k 1 HKM.out (by decide) (.string x) ((m[k]'HKM.out).1, x) rfl)
      have HMIX := hid (fun (x : ByteArray) hx => HST.out.mix.set HKM.out (b := x) hx)
      clear hve hcap hg7
      generalize (m[k]'HKM.out).1 = nm at *
      generalize (m[k]'HKM.out).2 = y at *
      generalize bs nows[k] = x at *
      have hbe := str_beq x y
      have HPUT : Hid (∀ W : World, x.size ≤ 512 → Chg (fun z => z = g7) wr W → W.ownsRow 0 55 2 (.slice (some ⟨g7, 0, none⟩) srcs.length c7) srcs.length ((m.flatMap srcL).set (k * 2 + 1) (.string x)) → True) := hid (fun _ _ _ _ => trivial)
      clear HPUT
      by_cases hxy : x = y
      · rw [decide_eq_true hxy] at hbe
        clear hxy
        go_wp2_with fail
        go_quiet (fail)
        go_wp2_with fail
        go_roundw
        case rel => exact ⟨k + 1, x11, m, names, rfl, by omega, by go_num, HST.out.mix, HST.out.own, HST.out.nms, by have := HST.out.le; omega, HST.out.blk, HST.out.chg.drewN _⟩
        case measure => simp [intOf]; omega
      · rw [decide_eq_false hxy] at hbe
        clear hxy
        by_cases h512 : (x.size : Int) ≤ 512
        · have d512 : decide ((x.size : Int) ≤ 512) = true := decide_eq_true h512
          have hx5 : x.size ≤ 512 := by omega
          have HX5 := hid (HMIX.out x hx5)
          clear hx5 HMIX
          have hst := (HST.out.own.stored (k * 2 + 1) (.string x)).1
          rw [HSET.out x] at hst
          have HOS2 := hid hst
          have HLE := hid HST.out.le
          have h30n : names.length ≤ 30 := by have := HST.out.le; have := HLS.out; omega
          clear hst
          go_wp2_with fail
          go_quiet (fail)
          have hc9 : Chg (fun z => z = g7) wr ((wr.drewN nq).setCell ⟨g7, k * 2 + 1, none⟩ (.string x)) := ((Chg.refl (fun z => z = g7) wr).drewN nq).setCell (p := ⟨g7, k * 2 + 1, none⟩) (fun _ => rfl) _
          have hn9 := hc9.owns HST.out.nms (fun z hz e => by subst e; exact (HST.out.blk _ hz).2 rfl)
          have ho9 := ((Chg.refl (fun z => z = g7) (wr.setCell ⟨g7, k * 2 + 1, none⟩ (.string x))).drewN nq).owns HOS2.out
          have HC9 := hid hc9
          have HN9 := hid hn9
          have HO9 : Hid (((wr.drewN nq).setCell ⟨g7, k * 2 + 1, none⟩ (.string x)).ownsRow 0 55 2 (.slice (some ⟨g7, 0, none⟩) srcs.length c7) srcs.length ((m.set k (nm, x)).flatMap srcL)) := hid HOS2.out
          have HCF : Hid (Chg (fun _ => False) w5 ((wr.drewN nq).setCell ⟨g7, k * 2 + 1, none⟩ (.string x))) := hid (HST.out.chg.trans hc9 (fun z hz e => by have := HGB.out; omega))
          clear hc9 hn9 ho9
          go_wp2_with (guard_target =~ wpList _ _ _ (Oper.mk (some 100) _ _ _ _ _ :: _) _ _; refine wpList_append_new rfl _ _ 22 rfl elStr HN9.out rfl #[.string (bs nm)] 1 1 (by exact congrArg (fun k : Nat => Value.slice (some ⟨k, 0, none⟩) 1 1) (show _ = _ by simp)) rfl rfl (by unfold maxLen; omega) (by omega) (by decide) ?_; intro g6 cap6 w6 hown6 hch6 hg6)
          go_roundw
          case rel =>
            refine ⟨k + 1, _, m.set k (nm, x), names ++ [nm], rfl, by omega, by go_num, HX5.out, hch6.owns HO9.out (fun z hz e => ?_), ?_, ?_, fun q hq => ?_, HCF.out.trans hch6 (fun z hz e => ?_)⟩
            · obtain rfl := own_eq hz
              exact (HST.out.blk _ e).2 rfl
            · rw [List.length_append, List.map_append]
              exact hown6
            · have := HLE.out
              simp
              omega
            · have hq2 : q = g6 := own_eq hq
              subst hq2
              rcases hg6 with h | h
              · exact HST.out.blk _ h
              · have h1 := HCF.out.size
                have h2 := heap_lt (ownsRow_heap HO9.out).choose_spec.1
                exact ⟨by omega, fun e => by cases e; omega⟩
            · have := (HST.out.blk _ e).1
              omega
          case measure => simp [intOf]; omega
        · have d512 : decide ((x.size : Int) ≤ 512) = false := decide_eq_false h512
          go_wp2_with fail
          go_quiet (fail)
          go_wp2_with fail
          go_roundw
          case rel => exact ⟨k + 1, x11, m, names, rfl, by omega, by go_num, HST.out.mix, HST.out.own, HST.out.nms, by have := HST.out.le; omega, HST.out.blk, HST.out.chg.drewN _⟩
          case measure => simp [intOf]; omega
    · have HRS : Hid (SrcsAt wr (.slice o7 srcs.length c7) m) := hid (SrcsAt.of_owns HST.out.mix.len.symm HST.out.own (by rw [HST.out.mix.len]; omega) (fun s hs => by
        obtain ⟨i, hi, rfl⟩ := List.mem_iff_getElem.1 hs
        have h1 := HST.out.mix.name i hi
        have h2 := (HST.out.mix.done HD.out).wide _ hs
        have h3 := name_le HD.out.can.w (mem_names.2 (.inl ((HD.out.fit.mem _).1 (List.mem_map.2 ⟨_, List.getElem_mem (show i < srcs.length by rw [← HST.out.mix.len]; exact hi), rfl⟩))))
        rw [h1]
        unfold maxLen
        omega))
      have HNR : Hid (NamesAt wr x11 names) := hid (names_own HST.out.nms (by have := HST.out.le; omega) (fun s hs => by
        have h1 := HST.out.mix.from_ s hs
        have h3 := name_le HD.out.can.w (mem_names.2 (.inl ((HD.out.fit.mem _).1 h1)))
        omega))
      have HMX := hid HST.out.mix
      have HDM := hid (HST.out.mix.done HD.out)
      have HCW := hid (HC5.out.trans HST.out.chg (fun _ _ h => h))
      have HC5W := hid HST.out.chg
      have HNL : Hid (names.length ≤ 8) := hid (by have := HST.out.le; omega)
      clear HST HS7 HB7
      have hc1 : decide ((k : Int) < srcs.length) = decide (k < srcs.length) := by rw [Bool.eq_iff_iff]; simp
      have a0 := cell_of (HC5W.out.obj HG5.out (fun h => h)) 0
      have a1 := cell_of (HC5W.out.obj HG5.out (fun h => h)) 1
      simp at a0 a1
      have hcond : ¬ ((k : Int) < srcs.length ∧ (k : Int) < nows.length) := by omega
      by_cases hk1 : (k : Int) < srcs.length
      · have hk2 : ¬ (k : Int) < nows.length := fun h => hcond ⟨hk1, h⟩
        have d1 : decide ((k : Int) < nows.length) = false := decide_eq_false hk2
        clear hcond hc1 hkn
        go_wp2_with fail
        refine (obuild_any g m _ _ _ (HG.out.chg HCW.out (fun _ _ h => h)) HRS.out (HT.out.keep HCW.out) (Nat.le_trans HBB.out HCW.out.size)).mono ?_
        rintro e w8 ⟨hc8, v8, rfl, hb8⟩
        have HZM := hid (checkS_zero.2 HDM.out)
        rw [HZM.out]
        have ho8 : outS g m = outT g m := if_pos HZM.out
        rw [ho8] at hb8
        have HC8 := hid (HCW.out.trans hc8 (fun _ _ h => h))
        have HG8 := hid ((HC5W.out.trans hc8 (fun _ _ h => h)).obj HG5.out (fun h => h))
        have HC58 := hid (HC5W.out.trans hc8 (fun _ _ h => h))
        have HS8 := hid (HRS.out.chg hc8 (fun _ _ h => h))
        have HN8 := hid (HNR.out.chg hc8 (fun _ _ h => h))
        have HB8 := hid hb8
        clear hc8 hb8 ho8 a0 a1 HCW HC5W HRS HNR
        have a0 := cell_of HG8.out 0
        have a1 := cell_of HG8.out 1
        simp at a0 a1
        go_wp2_with fail
        refine (okeys_any g m _ _ _ (HG.out.chg HC8.out (fun _ _ h => h)) HS8.out (HT.out.keep HC8.out) (Nat.le_trans HBB.out HC8.out.size)).mono ?_
        rintro e w9 ⟨hc9, v9, rfl, hb9⟩
        rw [HZM.out]
        have hn9 : cntS g m = g.acts.length := if_pos HZM.out
        rw [hn9] at hb9
        have HC9 := hid (HC8.out.trans hc9 (fun _ _ h => h))
        have HG9 := hid (hc9.obj HG8.out (fun h => h))
        have HC59 := hid (HC58.out.trans hc9 (fun _ _ h => h))
        have HN9 := hid (HN8.out.chg hc9 (fun _ _ h => h))
        have HB9 := hid (HB8.out.chg hc9 (fun _ _ h => h))
        have HX9 := hid hb9
        clear hc9 hb9 hn9 a0 a1 HC8 HG8 HC58 HS8 HN8 HB8 HZM
        have a0 := cell_of HG9.out 0
        have a1 := cell_of HG9.out 1
        simp at a0 a1
        have hdo : dirtyOf g names = dirtyR g names := by unfold dirtyOf; rw [if_pos (can_iff.2 HD.out.can)]
        have HDI := hid (tdirty_any g names _ x11 w9 (HG.out.chg HC9.out (fun _ _ h => h)) HN9.out)
        rw [hdo] at HDI
        clear hdo
        go_wp2_with fail
        refine HDI.out.mono ?_
        rintro e w10 ⟨hc10, v10, rfl, hd10⟩
        have hI10 := IntsAt.of_owns hd10
        obtain ⟨o10, c10, rfl⟩ := hI10.form
        obtain ⟨oa8, ca8, rfl⟩ := HB9.out.form
        obtain ⟨ob9, cb9, rfl⟩ := HX9.out.form
        have HC10 := hid (HC9.out.trans hc10 (fun _ _ h => h))
        have HG10 := hid (hc10.obj HG9.out (fun h => h))
        have HC510 := hid (HC59.out.trans hc10 (fun _ _ h => h))
        have HB10 := hid (HB9.out.chg hc10 (fun _ _ h => h))
        have HX10 := hid (HX9.out.chg hc10 (fun _ _ h => h))
        have HA10 := hid (HA5.out.chg HC510.out (fun _ _ h => h))
        have HY10 := hid (HX5.out.chg HC510.out (fun _ _ h => h))
        have HI10 := hid hI10
        clear hc10 hd10 hI10 a0 a1 HC9 HG9 HC59 HN9 HB9 HX9 HDI HC510
        have HMC := hid (fun i (hi : i < g.acts.length) hd => mix_clean HMX.out HD.out hi hd)
        have h12 := HL12.out
        have HDL : Hid ((dirtyR g names).length ≤ g.acts.length) := hid (by
          have := List.length_filter_le (dirtyB g names) (List.range g.acts.length)
          simpa [dirtyR] using this)
        have h12d : (dirtyR g names).length ≤ 12 := by have := HDL.out; omega
        rw [outT_len]
        go_upto_region 24 with fail
        go_loopw [17, 18] (fun at_ i wr => ∃ k : Nat, k ≤ g.acts.length ∧ i = .int .i64 k ∧ at_ = .int .i64 ((List.range k).filter (dirtyB g names)).length ∧ Chg (fun _ => False) w10 wr) (fun _ i _ => g.acts.length - (intOf i).toNat)
        case atStart => exact ⟨0, Nat.zero_le _, rfl, rfl, Chg.refl _ _⟩
        case round =>
          obtain ⟨k, hk, rfl, rfl, hch⟩ := hrel
          have HCH := hid hch
          clear hch
          have a1 := cell_of (HCH.out.obj HG10.out (fun h => h)) 1
          simp at a1
          by_cases hkn : k < g.acts.length
          · have hkn' : (k : Int) < g.acts.length := by omega
            have hda := dirty_at g names k hkn
            have HDC := hid (dirty_count g names k hkn)
            have HMK := hid (HMC.out k hkn)
            have hcl : ((List.range k).filter (dirtyB g names)).length ≤ 12 := by
              have := List.length_filter_le (dirtyB g names) (List.range k)
              simp at this
              omega
            generalize ((List.range k).filter (dirtyB g names)).length = cn2 at *
            by_cases hd : dirtyB g names k = true
            · rw [hd] at HDC
              have hget := hda.2 hd
              rw [List.getElem?_eq_some_iff] at hget
              obtain ⟨hlt2, hget⟩ := hget
              obtain ⟨bi, oi, hixi, hci, hli⟩ := (HI10.out.chg HCH.out (fun _ _ h => h)).ix cn2 hlt2
              rw [hget] at hci
              have hlt2' : (cn2 : Int) < ((dirtyR g names).length : Int) := by omega
              clear hda hd hget HMK
              go_wp2_with fail
              go_roundw
              case rel => exact ⟨k + 1, by omega, by go_num, by rw [HDC.out]; rfl, HCH.out⟩
              case measure => simp [intOf]; omega
            · have hd' : dirtyB g names k = false := by simpa using hd
              rw [hd'] at HDC
              obtain ⟨hE1, hE2⟩ := HMK.out hd'
              have hno : ∀ (h : cn2 < (dirtyR g names).length), (dirtyR g names)[cn2] ≠ k := fun h e => hd (hda.1 (by rw [List.getElem?_eq_getElem h, e]))
              obtain ⟨b1, o1, hix1, x0, x1, x2, hl1⟩ := (HA10.out.chg HCH.out (fun _ _ h => h)).ix k (by rw [outT_len]; exact hkn)
              obtain ⟨b2, o2, hix2, y0, y1, y2, hl2⟩ := (HB10.out.chg HCH.out (fun _ _ h => h)).ix k (by rw [outT_len]; exact hkn)
              obtain ⟨b3, o3, hix3, r3, hl3⟩ := (HY10.out.chg HCH.out (fun _ _ h => h)).ix k hkn
              obtain ⟨b4, o4, hix4, r4, hl4⟩ := (HX10.out.chg HCH.out (fun _ _ h => h)).ix k hkn
              rw [hE1] at y0 y1 y2
              rw [hE2] at r4
              rw [outT_len] at hix1 hix2
              have hsm := foldT_small g srcs HD.out.wide HD.out.fit.nd _ (orderR g) rfl g.acts[k].name
              have hog := outT_get g srcs k hkn
              have hnb := neq_blt_same ((outT g srcs)[k]'(by rw [outT_len]; exact hkn)) (by
                rw [hog]
                have h1 := name_le HD.out.can.w (mem_names.2 (.inr ⟨k, hkn, nameAt_lt g k hkn⟩))
                show g.acts[k].name.length ≤ maxLen
                unfold maxLen
                omega) (by rw [hog]; exact small_wf3 hsm) (by
                rw [hog]
                have h1 := hsm.wide
                show (valT (madeS g srcs) g.acts[k].name).2.size ≤ maxLen
                unfold maxLen
                unfold madeS madeT
                omega)
              clear hsm hog
              generalize bs ((outT g srcs)[k]'(by rw [outT_len]; exact hkn)).1 = nm at *
              generalize ((outT g srcs)[k]'(by rw [outT_len]; exact hkn)).2.1 = rc at *
              generalize ((outT g srcs)[k]'(by rw [outT_len]; exact hkn)).2.2 = rb at *
              generalize keyS g srcs k = KF at *
              have hS : ∀ W, Chg (fun _ => False) wr W → (W.cell? ⟨b1, o1, none⟩ = some (.string nm) ∧ W.cell? ⟨b1, o1 + 1, none⟩ = some (.int .i64 rc) ∧ W.cell? ⟨b1, o1 + 2, none⟩ = some (.string rb)) ∧ (W.cell? ⟨b2, o2, none⟩ = some (.string nm) ∧ W.cell? ⟨b2, o2 + 1, none⟩ = some (.int .i64 rc) ∧ W.cell? ⟨b2, o2 + 2, none⟩ = some (.string rb)) ∧ W.rangeAt b3 o3 (rowB 32 KF).toList ∧ W.rangeAt b4 o4 (rowB 32 KF).toList := fun W hW =>
                ⟨⟨hW.cell x0 (fun h => h), hW.cell x1 (fun h => h), hW.cell x2 (fun h => h)⟩, ⟨hW.cell y0 (fun h => h), hW.cell y1 (fun h => h), hW.cell y2 (fun h => h)⟩, fun j u h => hW.cell (r3 j u h) (fun h => h), fun j u h => hW.cell (r4 j u h) (fun h => h)⟩
              have HSX := hid hS
              clear hd hd' hda hE1 hE2 hS x0 x1 x2 y0 y1 y2 r3 r4 HMK
              go_upto_region 26 with fail
              go_cut [140] from 129 to 139 (fun s140 wx => s140 = .bool false ∧ wr = wx)
              case first =>
                by_cases hlt2 : cn2 < (dirtyR g names).length
                · obtain ⟨bi, oi, hixi, hci, hli⟩ := (HI10.out.chg HCH.out (fun _ _ h => h)).ix cn2 hlt2
                  have hneq := hno hlt2
                  generalize (dirtyR g names)[cn2] = dv at *
                  have hlt2' : (cn2 : Int) < ((dirtyR g names).length : Int) := by omega
                  have hne2 : ((dv : Int) == (k : Int)) = false := by rw [beq_eq_false_iff_ne]; omega
                  clear hno hneq
                  go_wp2_with fail
                  go_meet
                  exact ⟨rfl, rfl⟩
                · have d2 : decide ((cn2 : Int) < ((dirtyR g names).length : Int)) = false := decide_eq_false (by omega)
                  clear hno
                  go_wp2_with fail
                  go_meet
                  exact ⟨rfl, rfl⟩
              case rest =>
               obtain ⟨rfl, rfl⟩ := hcut
               clear hno
               go_upto_region 28 with fail
               refine wp_region_held_drew (S := fun W => Chg (fun _ => False) wr W) (by kernel_rfl) ((Chg.refl _ wr).drew) (fun hd => ?_)
               refine wpAnyH_takeD (i := 0) (v := .slice oa4 g.acts.length ca4) (some 143) rfl (by kernel_rfl) (by kernel_rfl) (by kernel_rfl) (by kernel_rfl) (fun _ _ _ h => h) (.inl ⟨by kernel_rfl, fun W _ => by kernel_rfl⟩) hd ?_
               refine wpAnyH_takeD (i := 1) (v := .int .i64 k) (some 144) rfl (by kernel_rfl) (by kernel_rfl) (by kernel_rfl) (by kernel_rfl) (fun _ _ _ h => h) (.inl ⟨by kernel_rfl, fun W _ => by kernel_rfl⟩) hd ?_
               refine wpAnyH_takeD (i := 2) (v := .pointer (some ⟨b1, o1, none⟩)) (some 145) rfl (by kernel_rfl) (by kernel_rfl) (by kernel_rfl) (by kernel_rfl) (fun _ _ _ h => h) (yieldsIf_index (by kernel_rfl) 29 (.tmp 143) (.tmp 144) (by kernel_rfl) (.slice oa4 g.acts.length ca4) (.int .i64 k) _ (by kernel_rfl) (by kernel_rfl) (fun W => hix1 W)) hd ?_
               refine wpAnyH_takeD (i := 3) (v := .agg #[.string nm, .int .i64 rc, .string rb]) (some 146) rfl (by kernel_rfl) (by kernel_rfl) (by kernel_rfl) (by kernel_rfl) (fun _ _ _ h => h) (yieldsIf_load1 (by kernel_rfl) 53 (.tmp 145) (by kernel_rfl) b1 o1 _ (by kernel_rfl) (fun W hW => load_blt (HSX.out W hW).1.1 (HSX.out W hW).1.2.1 (HSX.out W hW).1.2.2)) hd ?_
               refine wpAnyH_takeD (i := 4) (v := .slice oa8 g.acts.length ca8) (some 147) rfl (by kernel_rfl) (by kernel_rfl) (by kernel_rfl) (by kernel_rfl) (fun _ _ _ h => h) (.inl ⟨by kernel_rfl, fun W _ => by kernel_rfl⟩) hd ?_
               refine wpAnyH_takeD (i := 5) (v := .int .i64 k) (some 148) rfl (by kernel_rfl) (by kernel_rfl) (by kernel_rfl) (by kernel_rfl) (fun _ _ _ h => h) (.inl ⟨by kernel_rfl, fun W _ => by kernel_rfl⟩) hd ?_
               refine wpAnyH_takeD (i := 6) (v := .pointer (some ⟨b2, o2, none⟩)) (some 149) rfl (by kernel_rfl) (by kernel_rfl) (by kernel_rfl) (by kernel_rfl) (fun _ _ _ h => h) (yieldsIf_index (by kernel_rfl) 29 (.tmp 147) (.tmp 148) (by kernel_rfl) (.slice oa8 g.acts.length ca8) (.int .i64 k) _ (by kernel_rfl) (by kernel_rfl) (fun W => hix2 W)) hd ?_
               refine wpAnyH_takeD (i := 7) (v := .agg #[.string nm, .int .i64 rc, .string rb]) (some 150) rfl (by kernel_rfl) (by kernel_rfl) (by kernel_rfl) (by kernel_rfl) (fun _ _ _ h => h) (yieldsIf_load1 (by kernel_rfl) 53 (.tmp 149) (by kernel_rfl) b2 o2 _ (by kernel_rfl) (fun W hW => load_blt (HSX.out W hW).2.1.1 (HSX.out W hW).2.1.2.1 (HSX.out W hW).2.1.2.2)) hd ?_
               refine wpAnyH_takeD (i := 8) (v := .bool false) (some 151) rfl (by kernel_rfl) (by kernel_rfl) (by kernel_rfl) (by kernel_rfl) (fun _ _ _ h => h) (yieldsIf_neq (by kernel_rfl) 53 53 (.tmp 146) (.tmp 150) (by kernel_rfl) _ _ (by kernel_rfl) (by kernel_rfl) (by kernel_rfl) false hnb) hd ?_
               refine wpAnyH_takeD (i := 9) (v := .bool false) (some 152) rfl (by kernel_rfl) (by kernel_rfl) (by kernel_rfl) (by kernel_rfl) (fun _ _ _ h => h) (.inl ⟨by kernel_rfl, fun W _ => by kernel_rfl⟩) hd ?_
               refine wpAnyH_takeD (i := 10) (v := .slice ob5 g.acts.length cb5) (some 153) rfl (by kernel_rfl) (by kernel_rfl) (by kernel_rfl) (by kernel_rfl) (fun _ _ _ h => h) (.inl ⟨by kernel_rfl, fun W _ => by kernel_rfl⟩) hd ?_
               refine wpAnyH_takeD (i := 11) (v := .int .i64 k) (some 154) rfl (by kernel_rfl) (by kernel_rfl) (by kernel_rfl) (by kernel_rfl) (fun _ _ _ h => h) (.inl ⟨by kernel_rfl, fun W _ => by kernel_rfl⟩) hd ?_
               refine wpAnyH_takeD (i := 12) (v := .pointer (some ⟨b3, o3, none⟩)) (some 155) rfl (by kernel_rfl) (by kernel_rfl) (by kernel_rfl) (by kernel_rfl) (fun _ _ _ h => h) (yieldsIf_index (by kernel_rfl) 34 (.tmp 153) (.tmp 154) (by kernel_rfl) (.slice ob5 g.acts.length cb5) (.int .i64 k) _ (by kernel_rfl) (by kernel_rfl) (fun W => hix3 W)) hd ?_
               refine wpAnyH_takeD (i := 13) (v := .agg (rowB 32 KF).toList.toArray) (some 156) rfl (by kernel_rfl) (by kernel_rfl) (by kernel_rfl) (by kernel_rfl) (fun _ _ _ h => h) (yieldsIf_load_mid (by kernel_rfl) 57 (.tmp 155) (by kernel_rfl) b3 o3 (by kernel_rfl) _ _ (fun W hW => (HSX.out W hW).2.2.1) Tryz.underlying57 rfl (by rw [Array.length_toList, rowB_size]; kernel_rfl)) hd ?_
               refine wpAnyH_takeD (i := 14) (v := .slice ob9 g.acts.length cb9) (some 157) rfl (by kernel_rfl) (by kernel_rfl) (by kernel_rfl) (by kernel_rfl) (fun _ _ _ h => h) (.inl ⟨by kernel_rfl, fun W _ => by kernel_rfl⟩) hd ?_
               refine wpAnyH_takeD (i := 15) (v := .int .i64 k) (some 158) rfl (by kernel_rfl) (by kernel_rfl) (by kernel_rfl) (by kernel_rfl) (fun _ _ _ h => h) (.inl ⟨by kernel_rfl, fun W _ => by kernel_rfl⟩) hd ?_
               refine wpAnyH_takeD (i := 16) (v := .pointer (some ⟨b4, o4, none⟩)) (some 159) rfl (by kernel_rfl) (by kernel_rfl) (by kernel_rfl) (by kernel_rfl) (fun _ _ _ h => h) (yieldsIf_index (by kernel_rfl) 34 (.tmp 157) (.tmp 158) (by kernel_rfl) (.slice ob9 g.acts.length cb9) (.int .i64 k) _ (by kernel_rfl) (by kernel_rfl) (fun W => hix4 W)) hd ?_
               refine wpAnyH_takeD (i := 17) (v := .agg (rowB 32 KF).toList.toArray) (some 160) rfl (by kernel_rfl) (by kernel_rfl) (by kernel_rfl) (by kernel_rfl) (fun _ _ _ h => h) (yieldsIf_load_mid (by kernel_rfl) 57 (.tmp 159) (by kernel_rfl) b4 o4 (by kernel_rfl) _ _ (fun W hW => (HSX.out W hW).2.2.2) Tryz.underlying57 rfl (by rw [Array.length_toList, rowB_size]; kernel_rfl)) hd ?_
               refine wpAnyH_takeD (i := 18) (v := .bool false) (some 161) rfl (by kernel_rfl) (by kernel_rfl) (by kernel_rfl) (by kernel_rfl) (fun _ _ _ h => h) (yieldsIf_neq (by kernel_rfl) 57 57 (.tmp 156) (.tmp 160) (by kernel_rfl) (rowB 32 KF) (rowB 32 KF) (by kernel_rfl) (by kernel_rfl) (by kernel_rfl) false (neq_dig_same _)) hd ?_
               refine wpAnyH_takeD (i := 19) (v := .bool false) (some 162) rfl (by kernel_rfl) (by kernel_rfl) (by kernel_rfl) (by kernel_rfl) (fun _ _ _ h => h) (.inl ⟨by kernel_rfl, fun W _ => by kernel_rfl⟩) hd ?_
               try simp only [Act.put, List.setIfInBounds_toArray, List.set_cons_zero, List.set_cons_succ]
               refine wpAnyH_done (by kernel_rfl) ?_ _
               have HF := hid (HCH.out.trans hd (fun _ _ h => h))
               clear hd
               go_wp2_with fail
               go_roundw
               case rel => exact ⟨k + 1, by omega, by go_num, by rw [HDC.out]; rfl, HF.out⟩
               case measure => simp [intOf]; omega
          · obtain rfl : k = g.acts.length := by omega
            go_wp2_with fail
            go_ret
            exact ⟨rfl, HC10.out.trans HCH.out (fun _ _ h => h)⟩
      · have d1 : decide ((k : Int) < srcs.length) = false := decide_eq_false hk1
        clear hcond hc1 hkn
        go_wp2_with fail
        refine (obuild_any g m _ _ _ (HG.out.chg HCW.out (fun _ _ h => h)) HRS.out (HT.out.keep HCW.out) (Nat.le_trans HBB.out HCW.out.size)).mono ?_
        rintro e w8 ⟨hc8, v8, rfl, hb8⟩
        have HZM := hid (checkS_zero.2 HDM.out)
        rw [HZM.out]
        have ho8 : outS g m = outT g m := if_pos HZM.out
        rw [ho8] at hb8
        have HC8 := hid (HCW.out.trans hc8 (fun _ _ h => h))
        have HG8 := hid ((HC5W.out.trans hc8 (fun _ _ h => h)).obj HG5.out (fun h => h))
        have HC58 := hid (HC5W.out.trans hc8 (fun _ _ h => h))
        have HS8 := hid (HRS.out.chg hc8 (fun _ _ h => h))
        have HN8 := hid (HNR.out.chg hc8 (fun _ _ h => h))
        have HB8 := hid hb8
        clear hc8 hb8 ho8 a0 a1 HCW HC5W HRS HNR
        have a0 := cell_of HG8.out 0
        have a1 := cell_of HG8.out 1
        simp at a0 a1
        go_wp2_with fail
        refine (okeys_any g m _ _ _ (HG.out.chg HC8.out (fun _ _ h => h)) HS8.out (HT.out.keep HC8.out) (Nat.le_trans HBB.out HC8.out.size)).mono ?_
        rintro e w9 ⟨hc9, v9, rfl, hb9⟩
        rw [HZM.out]
        have hn9 : cntS g m = g.acts.length := if_pos HZM.out
        rw [hn9] at hb9
        have HC9 := hid (HC8.out.trans hc9 (fun _ _ h => h))
        have HG9 := hid (hc9.obj HG8.out (fun h => h))
        have HC59 := hid (HC58.out.trans hc9 (fun _ _ h => h))
        have HN9 := hid (HN8.out.chg hc9 (fun _ _ h => h))
        have HB9 := hid (HB8.out.chg hc9 (fun _ _ h => h))
        have HX9 := hid hb9
        clear hc9 hb9 hn9 a0 a1 HC8 HG8 HC58 HS8 HN8 HB8 HZM
        have a0 := cell_of HG9.out 0
        have a1 := cell_of HG9.out 1
        simp at a0 a1
        have hdo : dirtyOf g names = dirtyR g names := by unfold dirtyOf; rw [if_pos (can_iff.2 HD.out.can)]
        have HDI := hid (tdirty_any g names _ x11 w9 (HG.out.chg HC9.out (fun _ _ h => h)) HN9.out)
        rw [hdo] at HDI
        clear hdo
        go_wp2_with fail
        refine HDI.out.mono ?_
        rintro e w10 ⟨hc10, v10, rfl, hd10⟩
        have hI10 := IntsAt.of_owns hd10
        obtain ⟨o10, c10, rfl⟩ := hI10.form
        obtain ⟨oa8, ca8, rfl⟩ := HB9.out.form
        obtain ⟨ob9, cb9, rfl⟩ := HX9.out.form
        have HC10 := hid (HC9.out.trans hc10 (fun _ _ h => h))
        have HG10 := hid (hc10.obj HG9.out (fun h => h))
        have HC510 := hid (HC59.out.trans hc10 (fun _ _ h => h))
        have HB10 := hid (HB9.out.chg hc10 (fun _ _ h => h))
        have HX10 := hid (HX9.out.chg hc10 (fun _ _ h => h))
        have HA10 := hid (HA5.out.chg HC510.out (fun _ _ h => h))
        have HY10 := hid (HX5.out.chg HC510.out (fun _ _ h => h))
        have HI10 := hid hI10
        clear hc10 hd10 hI10 a0 a1 HC9 HG9 HC59 HN9 HB9 HX9 HDI HC510
        have HMC := hid (fun i (hi : i < g.acts.length) hd => mix_clean HMX.out HD.out hi hd)
        have h12 := HL12.out
        have HDL : Hid ((dirtyR g names).length ≤ g.acts.length) := hid (by
          have := List.length_filter_le (dirtyB g names) (List.range g.acts.length)
          simpa [dirtyR] using this)
        have h12d : (dirtyR g names).length ≤ 12 := by have := HDL.out; omega
        rw [outT_len]
        go_upto_region 24 with fail
        go_loopw [17, 18] (fun at_ i wr => ∃ k : Nat, k ≤ g.acts.length ∧ i = .int .i64 k ∧ at_ = .int .i64 ((List.range k).filter (dirtyB g names)).length ∧ Chg (fun _ => False) w10 wr) (fun _ i _ => g.acts.length - (intOf i).toNat)
        case atStart => exact ⟨0, Nat.zero_le _, rfl, rfl, Chg.refl _ _⟩
        case round =>
          obtain ⟨k, hk, rfl, rfl, hch⟩ := hrel
          have HCH := hid hch
          clear hch
          have a1 := cell_of (HCH.out.obj HG10.out (fun h => h)) 1
          simp at a1
          by_cases hkn : k < g.acts.length
          · have hkn' : (k : Int) < g.acts.length := by omega
            have hda := dirty_at g names k hkn
            have HDC := hid (dirty_count g names k hkn)
            have HMK := hid (HMC.out k hkn)
            have hcl : ((List.range k).filter (dirtyB g names)).length ≤ 12 := by
              have := List.length_filter_le (dirtyB g names) (List.range k)
              simp at this
              omega
            generalize ((List.range k).filter (dirtyB g names)).length = cn2 at *
            by_cases hd : dirtyB g names k = true
            · rw [hd] at HDC
              have hget := hda.2 hd
              rw [List.getElem?_eq_some_iff] at hget
              obtain ⟨hlt2, hget⟩ := hget
              obtain ⟨bi, oi, hixi, hci, hli⟩ := (HI10.out.chg HCH.out (fun _ _ h => h)).ix cn2 hlt2
              rw [hget] at hci
              have hlt2' : (cn2 : Int) < ((dirtyR g names).length : Int) := by omega
              clear hda hd hget HMK
              go_wp2_with fail
              go_roundw
              case rel => exact ⟨k + 1, by omega, by go_num, by rw [HDC.out]; rfl, HCH.out⟩
              case measure => simp [intOf]; omega
            · have hd' : dirtyB g names k = false := by simpa using hd
              rw [hd'] at HDC
              obtain ⟨hE1, hE2⟩ := HMK.out hd'
              have hno : ∀ (h : cn2 < (dirtyR g names).length), (dirtyR g names)[cn2] ≠ k := fun h e => hd (hda.1 (by rw [List.getElem?_eq_getElem h, e]))
              obtain ⟨b1, o1, hix1, x0, x1, x2, hl1⟩ := (HA10.out.chg HCH.out (fun _ _ h => h)).ix k (by rw [outT_len]; exact hkn)
              obtain ⟨b2, o2, hix2, y0, y1, y2, hl2⟩ := (HB10.out.chg HCH.out (fun _ _ h => h)).ix k (by rw [outT_len]; exact hkn)
              obtain ⟨b3, o3, hix3, r3, hl3⟩ := (HY10.out.chg HCH.out (fun _ _ h => h)).ix k hkn
              obtain ⟨b4, o4, hix4, r4, hl4⟩ := (HX10.out.chg HCH.out (fun _ _ h => h)).ix k hkn
              rw [hE1] at y0 y1 y2
              rw [hE2] at r4
              rw [outT_len] at hix1 hix2
              have hsm := foldT_small g srcs HD.out.wide HD.out.fit.nd _ (orderR g) rfl g.acts[k].name
              have hog := outT_get g srcs k hkn
              have hnb := neq_blt_same ((outT g srcs)[k]'(by rw [outT_len]; exact hkn)) (by
                rw [hog]
                have h1 := name_le HD.out.can.w (mem_names.2 (.inr ⟨k, hkn, nameAt_lt g k hkn⟩))
                show g.acts[k].name.length ≤ maxLen
                unfold maxLen
                omega) (by rw [hog]; exact small_wf3 hsm) (by
                rw [hog]
                have h1 := hsm.wide
                show (valT (madeS g srcs) g.acts[k].name).2.size ≤ maxLen
                unfold maxLen
                unfold madeS madeT
                omega)
              clear hsm hog
              generalize bs ((outT g srcs)[k]'(by rw [outT_len]; exact hkn)).1 = nm at *
              generalize ((outT g srcs)[k]'(by rw [outT_len]; exact hkn)).2.1 = rc at *
              generalize ((outT g srcs)[k]'(by rw [outT_len]; exact hkn)).2.2 = rb at *
              generalize keyS g srcs k = KF at *
              have hS : ∀ W, Chg (fun _ => False) wr W → (W.cell? ⟨b1, o1, none⟩ = some (.string nm) ∧ W.cell? ⟨b1, o1 + 1, none⟩ = some (.int .i64 rc) ∧ W.cell? ⟨b1, o1 + 2, none⟩ = some (.string rb)) ∧ (W.cell? ⟨b2, o2, none⟩ = some (.string nm) ∧ W.cell? ⟨b2, o2 + 1, none⟩ = some (.int .i64 rc) ∧ W.cell? ⟨b2, o2 + 2, none⟩ = some (.string rb)) ∧ W.rangeAt b3 o3 (rowB 32 KF).toList ∧ W.rangeAt b4 o4 (rowB 32 KF).toList := fun W hW =>
                ⟨⟨hW.cell x0 (fun h => h), hW.cell x1 (fun h => h), hW.cell x2 (fun h => h)⟩, ⟨hW.cell y0 (fun h => h), hW.cell y1 (fun h => h), hW.cell y2 (fun h => h)⟩, fun j u h => hW.cell (r3 j u h) (fun h => h), fun j u h => hW.cell (r4 j u h) (fun h => h)⟩
              have HSX := hid hS
              clear hd hd' hda hE1 hE2 hS x0 x1 x2 y0 y1 y2 r3 r4 HMK
              go_upto_region 26 with fail
              go_cut [140] from 129 to 139 (fun s140 wx => s140 = .bool false ∧ wr = wx)
              case first =>
                by_cases hlt2 : cn2 < (dirtyR g names).length
                · obtain ⟨bi, oi, hixi, hci, hli⟩ := (HI10.out.chg HCH.out (fun _ _ h => h)).ix cn2 hlt2
                  have hneq := hno hlt2
                  generalize (dirtyR g names)[cn2] = dv at *
                  have hlt2' : (cn2 : Int) < ((dirtyR g names).length : Int) := by omega
                  have hne2 : ((dv : Int) == (k : Int)) = false := by rw [beq_eq_false_iff_ne]; omega
                  clear hno hneq
                  go_wp2_with fail
                  go_meet
                  exact ⟨rfl, rfl⟩
                · have d2 : decide ((cn2 : Int) < ((dirtyR g names).length : Int)) = false := decide_eq_false (by omega)
                  clear hno
                  go_wp2_with fail
                  go_meet
                  exact ⟨rfl, rfl⟩
              case rest =>
               obtain ⟨rfl, rfl⟩ := hcut
               clear hno
               go_upto_region 28 with fail
               refine wp_region_held_drew (S := fun W => Chg (fun _ => False) wr W) (by kernel_rfl) ((Chg.refl _ wr).drew) (fun hd => ?_)
               refine wpAnyH_takeD (i := 0) (v := .slice oa4 g.acts.length ca4) (some 143) rfl (by kernel_rfl) (by kernel_rfl) (by kernel_rfl) (by kernel_rfl) (fun _ _ _ h => h) (.inl ⟨by kernel_rfl, fun W _ => by kernel_rfl⟩) hd ?_
               refine wpAnyH_takeD (i := 1) (v := .int .i64 k) (some 144) rfl (by kernel_rfl) (by kernel_rfl) (by kernel_rfl) (by kernel_rfl) (fun _ _ _ h => h) (.inl ⟨by kernel_rfl, fun W _ => by kernel_rfl⟩) hd ?_
               refine wpAnyH_takeD (i := 2) (v := .pointer (some ⟨b1, o1, none⟩)) (some 145) rfl (by kernel_rfl) (by kernel_rfl) (by kernel_rfl) (by kernel_rfl) (fun _ _ _ h => h) (yieldsIf_index (by kernel_rfl) 29 (.tmp 143) (.tmp 144) (by kernel_rfl) (.slice oa4 g.acts.length ca4) (.int .i64 k) _ (by kernel_rfl) (by kernel_rfl) (fun W => hix1 W)) hd ?_
               refine wpAnyH_takeD (i := 3) (v := .agg #[.string nm, .int .i64 rc, .string rb]) (some 146) rfl (by kernel_rfl) (by kernel_rfl) (by kernel_rfl) (by kernel_rfl) (fun _ _ _ h => h) (yieldsIf_load1 (by kernel_rfl) 53 (.tmp 145) (by kernel_rfl) b1 o1 _ (by kernel_rfl) (fun W hW => load_blt (HSX.out W hW).1.1 (HSX.out W hW).1.2.1 (HSX.out W hW).1.2.2)) hd ?_
               refine wpAnyH_takeD (i := 4) (v := .slice oa8 g.acts.length ca8) (some 147) rfl (by kernel_rfl) (by kernel_rfl) (by kernel_rfl) (by kernel_rfl) (fun _ _ _ h => h) (.inl ⟨by kernel_rfl, fun W _ => by kernel_rfl⟩) hd ?_
               refine wpAnyH_takeD (i := 5) (v := .int .i64 k) (some 148) rfl (by kernel_rfl) (by kernel_rfl) (by kernel_rfl) (by kernel_rfl) (fun _ _ _ h => h) (.inl ⟨by kernel_rfl, fun W _ => by kernel_rfl⟩) hd ?_
               refine wpAnyH_takeD (i := 6) (v := .pointer (some ⟨b2, o2, none⟩)) (some 149) rfl (by kernel_rfl) (by kernel_rfl) (by kernel_rfl) (by kernel_rfl) (fun _ _ _ h => h) (yieldsIf_index (by kernel_rfl) 29 (.tmp 147) (.tmp 148) (by kernel_rfl) (.slice oa8 g.acts.length ca8) (.int .i64 k) _ (by kernel_rfl) (by kernel_rfl) (fun W => hix2 W)) hd ?_
               refine wpAnyH_takeD (i := 7) (v := .agg #[.string nm, .int .i64 rc, .string rb]) (some 150) rfl (by kernel_rfl) (by kernel_rfl) (by kernel_rfl) (by kernel_rfl) (fun _ _ _ h => h) (yieldsIf_load1 (by kernel_rfl) 53 (.tmp 149) (by kernel_rfl) b2 o2 _ (by kernel_rfl) (fun W hW => load_blt (HSX.out W hW).2.1.1 (HSX.out W hW).2.1.2.1 (HSX.out W hW).2.1.2.2)) hd ?_
               refine wpAnyH_takeD (i := 8) (v := .bool false) (some 151) rfl (by kernel_rfl) (by kernel_rfl) (by kernel_rfl) (by kernel_rfl) (fun _ _ _ h => h) (yieldsIf_neq (by kernel_rfl) 53 53 (.tmp 146) (.tmp 150) (by kernel_rfl) _ _ (by kernel_rfl) (by kernel_rfl) (by kernel_rfl) false hnb) hd ?_
               refine wpAnyH_takeD (i := 9) (v := .bool false) (some 152) rfl (by kernel_rfl) (by kernel_rfl) (by kernel_rfl) (by kernel_rfl) (fun _ _ _ h => h) (.inl ⟨by kernel_rfl, fun W _ => by kernel_rfl⟩) hd ?_
               refine wpAnyH_takeD (i := 10) (v := .slice ob5 g.acts.length cb5) (some 153) rfl (by kernel_rfl) (by kernel_rfl) (by kernel_rfl) (by kernel_rfl) (fun _ _ _ h => h) (.inl ⟨by kernel_rfl, fun W _ => by kernel_rfl⟩) hd ?_
               refine wpAnyH_takeD (i := 11) (v := .int .i64 k) (some 154) rfl (by kernel_rfl) (by kernel_rfl) (by kernel_rfl) (by kernel_rfl) (fun _ _ _ h => h) (.inl ⟨by kernel_rfl, fun W _ => by kernel_rfl⟩) hd ?_
               refine wpAnyH_takeD (i := 12) (v := .pointer (some ⟨b3, o3, none⟩)) (some 155) rfl (by kernel_rfl) (by kernel_rfl) (by kernel_rfl) (by kernel_rfl) (fun _ _ _ h => h) (yieldsIf_index (by kernel_rfl) 34 (.tmp 153) (.tmp 154) (by kernel_rfl) (.slice ob5 g.acts.length cb5) (.int .i64 k) _ (by kernel_rfl) (by kernel_rfl) (fun W => hix3 W)) hd ?_
               refine wpAnyH_takeD (i := 13) (v := .agg (rowB 32 KF).toList.toArray) (some 156) rfl (by kernel_rfl) (by kernel_rfl) (by kernel_rfl) (by kernel_rfl) (fun _ _ _ h => h) (yieldsIf_load_mid (by kernel_rfl) 57 (.tmp 155) (by kernel_rfl) b3 o3 (by kernel_rfl) _ _ (fun W hW => (HSX.out W hW).2.2.1) Tryz.underlying57 rfl (by rw [Array.length_toList, rowB_size]; kernel_rfl)) hd ?_
               refine wpAnyH_takeD (i := 14) (v := .slice ob9 g.acts.length cb9) (some 157) rfl (by kernel_rfl) (by kernel_rfl) (by kernel_rfl) (by kernel_rfl) (fun _ _ _ h => h) (.inl ⟨by kernel_rfl, fun W _ => by kernel_rfl⟩) hd ?_
               refine wpAnyH_takeD (i := 15) (v := .int .i64 k) (some 158) rfl (by kernel_rfl) (by kernel_rfl) (by kernel_rfl) (by kernel_rfl) (fun _ _ _ h => h) (.inl ⟨by kernel_rfl, fun W _ => by kernel_rfl⟩) hd ?_
               refine wpAnyH_takeD (i := 16) (v := .pointer (some ⟨b4, o4, none⟩)) (some 159) rfl (by kernel_rfl) (by kernel_rfl) (by kernel_rfl) (by kernel_rfl) (fun _ _ _ h => h) (yieldsIf_index (by kernel_rfl) 34 (.tmp 157) (.tmp 158) (by kernel_rfl) (.slice ob9 g.acts.length cb9) (.int .i64 k) _ (by kernel_rfl) (by kernel_rfl) (fun W => hix4 W)) hd ?_
               refine wpAnyH_takeD (i := 17) (v := .agg (rowB 32 KF).toList.toArray) (some 160) rfl (by kernel_rfl) (by kernel_rfl) (by kernel_rfl) (by kernel_rfl) (fun _ _ _ h => h) (yieldsIf_load_mid (by kernel_rfl) 57 (.tmp 159) (by kernel_rfl) b4 o4 (by kernel_rfl) _ _ (fun W hW => (HSX.out W hW).2.2.2) Tryz.underlying57 rfl (by rw [Array.length_toList, rowB_size]; kernel_rfl)) hd ?_
               refine wpAnyH_takeD (i := 18) (v := .bool false) (some 161) rfl (by kernel_rfl) (by kernel_rfl) (by kernel_rfl) (by kernel_rfl) (fun _ _ _ h => h) (yieldsIf_neq (by kernel_rfl) 57 57 (.tmp 156) (.tmp 160) (by kernel_rfl) (rowB 32 KF) (rowB 32 KF) (by kernel_rfl) (by kernel_rfl) (by kernel_rfl) false (neq_dig_same _)) hd ?_
               refine wpAnyH_takeD (i := 19) (v := .bool false) (some 162) rfl (by kernel_rfl) (by kernel_rfl) (by kernel_rfl) (by kernel_rfl) (fun _ _ _ h => h) (.inl ⟨by kernel_rfl, fun W _ => by kernel_rfl⟩) hd ?_
               try simp only [Act.put, List.setIfInBounds_toArray, List.set_cons_zero, List.set_cons_succ]
               refine wpAnyH_done (by kernel_rfl) ?_ _
               have HF := hid (HCH.out.trans hd (fun _ _ h => h))
               clear hd
               go_wp2_with fail
               go_roundw
               case rel => exact ⟨k + 1, by omega, by go_num, by rw [HDC.out]; rfl, HF.out⟩
               case measure => simp [intOf]; omega
          · obtain rfl : k = g.acts.length := by omega
            go_wp2_with fail
            go_ret
            exact ⟨rfl, HC10.out.trans HCH.out (fun _ _ h => h)⟩
end Go.Proofs.YthglfmacjoecgaaGreatDoor
