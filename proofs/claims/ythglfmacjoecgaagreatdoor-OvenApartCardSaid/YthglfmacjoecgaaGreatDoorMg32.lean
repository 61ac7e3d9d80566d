/- Texts of the proof, one behind the other: OvenApart walked: it returns true; What isn't dirty comes to the same, with the same keys: plain law. No program in sight. -/
import Derived.Test.YthglfmacjoecgaaGreatDoorMg31
import Derived.Test.YthglfmacjoecgaaGreatDoorMg18
import Derived.Test.YthglfmacjoecgaaGreatDoorMg14
namespace Go.Proofs.YthglfmacjoecgaaGreatDoor
open Go.RowKit

/-- So many results as a key sees them, the rest as they came. -/
def normK (ra : List ResR) (k : Nat) : List ResR := (ra.take k).map normR ++ ra.drop k
theorem normK_len (ra : List ResR) (k : Nat) (h : k ≤ ra.length) : (normK ra k).length = ra.length := by unfold normK; simp; omega
theorem normK_zero (ra : List ResR) : normK ra 0 = ra := by simp [normK]
theorem normK_all (ra : List ResR) : normK ra ra.length = ra.map normR := by simp [normK]
theorem normK_get (ra : List ResR) (k : Nat) (h : k < ra.length) : (normK ra k)[k]? = some ra[k] := by
  unfold normK
  rw [List.getElem?_append_right (by simp; omega)]
  have e : k - ((ra.take k).map normR).length = 0 := by simp; omega
  rw [e]
  simp [h]
theorem flat_set {α : Type} (f : α → List Value) (sz : Nat) (hf : ∀ x, (f x).length = sz) : ∀ (xs : List α) (i j : Nat) (hi : i < xs.length) (_hj : j < sz) (u : Value) (y : α), f y = (f xs[i]).set j u → (xs.flatMap f).set (i * sz + j) u = (xs.set i y).flatMap f
  | x :: xs, 0, j, hi, hj, u, y, h => by
    rw [List.flatMap_cons, Nat.zero_mul, Nat.zero_add, List.set_append_left _ _ (by rw [hf]; exact hj), List.set_cons_zero, List.flatMap_cons, h]
    rfl
  | x :: xs, i + 1, j, hi, hj, u, y, h => by
    rw [List.flatMap_cons, List.set_append_right _ _ (by rw [hf, Nat.succ_mul]; omega), hf, show (i + 1) * sz + j - sz = i * sz + j by rw [Nat.succ_mul]; omega, List.set_cons_succ, List.flatMap_cons, flat_set f sz hf xs i j (by simpa using hi) hj u y (by simpa using h)]
theorem normK_succ (ra : List ResR) (k : Nat) (h : k < ra.length) : normK ra (k + 1) = (normK ra k).set k (normR ra[k]) := by
  unfold normK
  rw [List.set_append_right _ _ (by simp; omega), List.take_succ_eq_append_getElem h, List.map_append, List.drop_eq_getElem_cons h]
  have e : k - ((ra.take k).map normR).length = 0 := by simp; omega
  rw [e, List.set_cons_zero]
  simp
theorem normK_same (ra : List ResR) (k : Nat) (h : k < ra.length) (h0 : ra[k].1 = 0) : normK ra (k + 1) = normK ra k := by
  rw [normK_succ ra k h]
  have e : normR ra[k] = ra[k] := by
    unfold normR
    rw [if_pos h0]
  rw [e]
  have := normK_get ra k h
  rw [List.getElem?_eq_some_iff] at this
  obtain ⟨hl, e2⟩ := this
  rw [← e2, List.set_getElem_self]
theorem flat_norm (ra : List ResR) (k : Nat) (h : k < ra.length) (h0 : ra[k].1 ≠ 0) : ((normK ra k).flatMap resL).set (k * 2 + 1) (.string ByteArray.empty) = (normK ra (k + 1)).flatMap resL := by
  have hl := normK_len ra k (by omega)
  have e2 := normK_get ra k h
  rw [List.getElem?_eq_some_iff] at e2
  obtain ⟨hl2, e2⟩ := e2
  rw [normK_succ ra k h, flat_set resL 2 (fun _ => rfl) (normK ra k) k 1 hl2 (by decide) _ (normR ra[k])]
  rw [e2]
  unfold resL normR
  rw [if_neg h0]
  rfl
/-- Whether two makings are the same so far. -/
def SameK (ca cb : ByteArray) (ra rb : List ResR) (k : Nat) : Prop := ca = cb ∧ ra.length = rb.length ∧ ∀ j, j < k → normR (ra.getD j noRes) = normR (rb.getD j noRes)
theorem sameK_zero (ca cb : ByteArray) (ra rb : List ResR) : SameK ca cb ra rb 0 ↔ ca = cb ∧ ra.length = rb.length := ⟨fun h => ⟨h.1, h.2.1⟩, fun h => ⟨h.1, h.2, fun _ hj => absurd hj (Nat.not_lt_zero _)⟩⟩
theorem sameK_succ {ca cb : ByteArray} {ra rb : List ResR} {k : Nat} : SameK ca cb ra rb (k + 1) ↔ SameK ca cb ra rb k ∧ normR (ra.getD k noRes) = normR (rb.getD k noRes) := by
  constructor
  · intro h
    exact ⟨⟨h.1, h.2.1, fun j hj => h.2.2 j (by omega)⟩, h.2.2 k (by omega)⟩
  · rintro ⟨h, h2⟩
    refine ⟨h.1, h.2.1, fun j hj => ?_⟩
    by_cases e : j = k
    · subst e; exact h2
    · exact h.2.2 j (by omega)
theorem sameK_all {ca cb : ByteArray} {ra rb : List ResR} : SameK ca cb ra rb rb.length ↔ SameM ca cb ra rb := by
  constructor
  · rintro ⟨h1, h2, h3⟩
    refine ⟨h1, List.ext_getElem (by simpa using h2) (fun i hi hi2 => ?_)⟩
    have hi' : i < ra.length := by simpa using hi
    have hi2' : i < rb.length := by simpa using hi2
    have := h3 i hi2'
    rw [getD_of_lt _ _ _ hi', getD_of_lt _ _ _ hi2'] at this
    simpa using this
  · rintro ⟨h1, h2⟩
    have hl : ra.length = rb.length := by simpa using congrArg List.length h2
    refine ⟨h1, hl, fun j hj => ?_⟩
    rw [getD_of_lt _ _ _ hj, getD_of_lt _ _ _ (show j < ra.length by omega)]
    have := congrArg (fun l => l[j]?) h2
    simpa [hj, show j < ra.length by omega] using this
theorem dec_sameK {ca cb : ByteArray} {ra rb : List ResR} {k : Nat} {S : Bool} (h : S = true ↔ SameK ca cb ra rb k) (_hk : k < rb.length) : (S && decide (normR (ra.getD k noRes) = normR (rb.getD k noRes))) = true ↔ SameK ca cb ra rb (k + 1) := by
  rw [sameK_succ, ← h]
  simp

/-- An element's place in a row of the call's own. -/
theorem own_ix {P : Program} {t e : TypeId} (ht : P.underlying t = some (.slice e)) {sz : Nat} (hs : ∀ w, (sizeOf e).run P w = .ok sz w) (g n cap k : Nat) (hk : k < n) (w : World) :
    (Instr.indexAt t (.slice (some ⟨g, 0, none⟩) n cap) (.int .i64 k)).run P w = .ok (.pointer (some ⟨g, k * sz, none⟩)) w := by
  have hb : (0 : Int) ≤ (k : Int) ∧ (k : Int) < (n : Int) := ⟨by omega, by omega⟩
  have hadd : (⟨g, 0, none⟩ : Addr).add (k * sz) = ⟨g, k * sz, none⟩ := by unfold Addr.add; split <;> simp_all
  simp [Instr.indexAt, run_underlying ht, asIntOf, hb.1, hs, hk, hadd]
theorem sizeRes (w : World) : (sizeOf 47).run Tryz.prog w = .ok 2 w := by kernel_rfl
theorem equalIn_res2 (a b : ResR) (ha : (Lit.int .i64 a.1).wf = true) (hb : (Lit.int .i64 b.1).wf = true) (ha2 : a.2.size ≤ maxLen) (hb2 : b.2.size ≤ maxLen) (w : World) :
    (Op.equalIn 10000 47 (.agg #[.int .i64 a.1, .string a.2]) (.agg #[.int .i64 b.1, .string b.2])).run Tryz.prog w = .ok (decide (a = b)) w := by
  have hf : ∀ r : ResR, (resW r).formed Tryz.prog 47 = true := fun r => by kernel_rfl
  obtain ⟨r, e1, e2⟩ := run_equalIn_deep (P := Tryz.prog) 9998 2 47 (by kernel_rfl) w 2 2 (resW a) (resW b) _ _ (hf a) (hf b) (lits_res a ha ha2) (lits_res b hb hb2)
  have hr : r = decide (a = b) := by
    rw [Bool.eq_iff_iff, decide_eq_true_iff, e2]
    simp only [List.cons.injEq, Lit.int.injEq, true_and, Lit.string.injEq, and_true]
    obtain ⟨a1, a2⟩ := a
    obtain ⟨b1, b2⟩ := b
    simp only [Prod.mk.injEq]
    exact ⟨fun ⟨h1, h2⟩ => ⟨h1, ByteArray.ext (Array.toList_inj.1 h2)⟩, fun ⟨h1, h2⟩ => ⟨h1, by rw [h2]⟩⟩
  rw [← hr]
  exact e1
theorem load_ress {w : World} {b off : Nat} {v : Value} (h : w.cell? ⟨b, off, none⟩ = some v) : (loadVar 58 ⟨b, off, none⟩).run Tryz.prog w = .ok v w := by
  simp [go_sem, h]
theorem norm_cells {w : World} {g cap : Nat} {ra : List ResR} {k : Nat} (h : w.ownsRow 0 47 2 (.slice (some ⟨g, 0, none⟩) ra.length cap) ra.length ((normK ra k).flatMap resL)) (hk : k < ra.length) :
    w.cell? ⟨g, k * 2, none⟩ = some (.int .i64 ra[k].1) ∧ w.cell? ⟨g, k * 2 + 1, none⟩ = some (.string ra[k].2) ∧ w.frozen? ⟨g, k * 2 + 1, none⟩ = false := by
  have e2 := normK_get ra k hk
  rw [List.getElem?_eq_some_iff] at e2
  obtain ⟨hl2, e2⟩ := e2
  have h0 := h.cellAt (k * 2 + 0) (by omega)
  have h1 := h.cellAt (k * 2 + 1) (by omega)
  rw [flat_get resL 2 (fun _ => rfl) _ _ _ hl2 (by decide), e2] at h0 h1
  exact ⟨h0, h1, h.frozenAt _⟩
set_option maxRecDepth 100000 in
set_option maxHeartbeats 8000000 in
theorem oapart_any {B : Nat} (ca cb : ByteArray) (zca : ca.size ≤ maxLen) (zcb : cb.size ≤ maxLen) (ra rb : List ResR) (wfa : ∀ r ∈ ra, (Lit.int .i64 r.1).wf = true) (wfb : ∀ r ∈ rb, (Lit.int .i64 r.1).wf = true) (va vb : Value) (w : World) (hin : ResAt w va ra) (hin2 : ResAt w vb rb) (hT : TabsOK B w) (hB : B ≤ w.heap.size) :
    Calls Tryz.prog 6 #[.agg #[.string ca, va], .agg #[.string cb, vb]] w (Rets (.bool true) (Chg (fun _ => False) w)) := by
  obtain ⟨oa, c1, rfl⟩ := hin.form
  obtain ⟨ob, c2, rfl⟩ := hin2.form
  have hma := hin.rows.le
  have hmb := hin2.rows.le
  unfold maxLen at hma hmb zca zcb
  have HC1 := hid ((al_chg w (.cells #[.string ca, .slice oa ra.length c1] 60)).alloc (.cells #[.string cb, .slice ob rb.length c2] 60))
  have ka := heap_alloc_old' (heap_alloc_new' w (.cells #[.string ca, .slice oa ra.length c1] 60)) (.cells #[.string cb, .slice ob rb.length c2] 60)
  have kb := heap_alloc_new' (w.alloc (.cells #[.string ca, .slice oa ra.length c1] 60)) (.cells #[.string cb, .slice ob rb.length c2] 60)
  rw [show (w.alloc (.cells #[.string ca, .slice oa ra.length c1] 60)).heap.size = w.heap.size + 1 by simp] at kb
  have HKA := hid ka
  have HKB := hid kb
  have HA := hid hin
  have HB2 := hid hin2
  have HT := hid hT
  have HBB := hid hB
  clear hin hin2 hT hB ka kb
  go_enter Tryz.func6, Tryz.ntmps6
  go_wp2_with fail
  generalize (w.alloc (.cells #[.string ca, .slice oa ra.length c1] 60)).alloc (.cells #[.string cb, .slice ob rb.length c2] 60) = w1 at *
  obtain ⟨b2, hb2⟩ : ∃ b2, b2 = w.heap.size := ⟨_, rfl⟩
  obtain ⟨b3, hb3⟩ : ∃ b3, b3 = w.heap.size + 1 := ⟨_, rfl⟩
  rw [← hb3] at HKB ⊢
  rw [← hb2] at HKA ⊢
  have HBN : Hid (b2 < w1.heap.size ∧ b3 < w1.heap.size ∧ b2 ≠ b3) := hid ⟨heap_lt HKA.out, heap_lt HKB.out, by omega⟩
  clear hb2 hb3
  refine (oawake_any _ (HT.out.keep HC1.out) (Nat.le_trans HBB.out HC1.out.size)).mono ?_
  rintro e w2 ⟨rfl, hc2⟩
  have HC2 := hid (HC1.out.trans hc2 (fun _ _ h => h))
  have HKA2 := hid (hc2.obj HKA.out (fun h => h))
  have HKB2 := hid (hc2.obj HKB.out (fun h => h))
  have HBN2 : Hid (b2 < w2.heap.size ∧ b3 < w2.heap.size ∧ b2 ≠ b3) := hid ⟨heap_lt HKA2.out, heap_lt HKB2.out, HBN.out.2.2⟩
  clear hc2 HC1 HKA HKB HBN
  have HCL := hid (show ∀ W, Chg (fun _ => False) w2 W → W.cell? ⟨b2, 0, none⟩ = some (.string ca) ∧ W.cell? ⟨b2, 1, none⟩ = some (.slice oa ra.length c1) ∧ W.cell? ⟨b3, 0, none⟩ = some (.string cb) ∧ W.cell? ⟨b3, 1, none⟩ = some (.slice ob rb.length c2) from fun W hW =>
    ⟨(cell_of (hW.obj HKA2.out (fun h => h)) 0).trans rfl, (cell_of (hW.obj HKA2.out (fun h => h)) 1).trans rfl, (cell_of (hW.obj HKB2.out (fun h => h)) 0).trans rfl, (cell_of (hW.obj HKB2.out (fun h => h)) 1).trans rfl⟩)
  obtain ⟨a0, a1, d0, d1⟩ := HCL.out w2 (Chg.refl _ _)
  by_cases h1 : (30 : Int) < (ra.length : Int)
  · go_wp2_with fail
    go_ret
    exact ⟨rfl, HC2.out⟩
  have e1 : decide ((30 : Int) < (ra.length : Int)) = false := decide_eq_false h1
  by_cases h2 : (30 : Int) < (rb.length : Int)
  · go_wp2_with fail
    go_ret
    exact ⟨rfl, HC2.out⟩
  have e2 : decide ((30 : Int) < (rb.length : Int)) = false := decide_eq_false h2
  by_cases h3 : (1000 : Int) < (ca.size : Int)
  · go_wp2_with fail
    go_ret
    exact ⟨rfl, HC2.out⟩
  have e3 : decide ((1000 : Int) < (ca.size : Int)) = false := decide_eq_false h3
  by_cases h4 : (1000 : Int) < (cb.size : Int)
  · go_wp2_with fail
    go_ret
    exact ⟨rfl, HC2.out⟩
  have e4 : decide ((1000 : Int) < (cb.size : Int)) = false := decide_eq_false h4
  go_upto_region 5 with fail
  have HZ : Hid (ra.length ≤ 30 ∧ rb.length ≤ 30 ∧ ca.size ≤ 1000 ∧ cb.size ≤ 1000) := hid (by omega)
  clear h1 h2 h3 h4 e1 e2 e3 e4
  go_cut [5] from 36 to 49 (fun s5 wx => ∃ S : Bool, s5 = .bool S ∧ (S = true ↔ SameK ca cb ra rb 0) ∧ w2 = wx)
  case first =>
    have hbe := str_beq ca cb
    by_cases hcc : ca = cb
    · rw [decide_eq_true hcc] at hbe
      by_cases hll : ra.length = rb.length
      · have hlb : ((ra.length : Int) == (rb.length : Int)) = true := by rw [beq_iff_eq]; omega
        have HS := hid ((sameK_zero ca cb ra rb).2 ⟨hcc, hll⟩)
        clear hcc hll
        go_wp2_with fail
        go_meet
        exact ⟨true, rfl, ⟨fun _ => HS.out, fun _ => rfl⟩, rfl⟩
      · have hlb : ((ra.length : Int) == (rb.length : Int)) = false := by rw [beq_eq_false_iff_ne]; omega
        have HS := hid (show ¬ SameK ca cb ra rb 0 from fun h => hll h.2.1)
        clear hcc hll
        go_wp2_with fail
        go_meet
        exact ⟨false, rfl, ⟨(fun h => by cases h), fun h => absurd h HS.out⟩, rfl⟩
    · rw [decide_eq_false hcc] at hbe
      have HS := hid (show ¬ SameK ca cb ra rb 0 from fun h => hcc h.1)
      clear hcc
      go_wp2_with fail
      go_meet
      exact ⟨false, rfl, ⟨(fun h => by cases h), fun h => absurd h HS.out⟩, rfl⟩
  case rest =>
   obtain ⟨S0, rfl, hS0, rfl⟩ := hcut
   have HS0 := hid hS0
   clear hS0
   obtain ⟨a0, a1, d0, d1⟩ := HCL.out w2 (Chg.refl _ _)
   have hal6 := al_chg w2 (.cells #[] 47)
   have HAL6 := hid hal6
   have a1' := cell_alloc' a1 (.cells #[] 47)
   clear hal6
   go_wp2_with (guard_target =~ wpList _ _ _ (Oper.mk (some 53) _ _ _ _ _ :: _) _ _; refine wpList_append_rows rfl _ _ 58 rfl elRes (owns_nilR w2) rfl resL noRes ra (fun _ => rfl) (fun y _ => resL_one y) rfl (HA.out.chg (HC2.out.trans HAL6.out (fun _ _ h => h)) (fun _ _ h => h)).rows (by have := HZ.out; unfold maxLen; omega) (by have := HZ.out; omega) ?_; intro v3 w3 hown3 hch3 hb3; have HC3 := hid (HAL6.out.trans hch3 (fun i hi h => by obtain rfl := own_eq h; omega)); rw [Nat.zero_add, List.nil_append] at hown3; have HOWN3 := hid hown3; have HB3 : Hid (∀ q, v3.ownBlock = some q → w2.heap.size ≤ q) := hid (fun q hq => by rcases hb3 q hq with h | h <;> first | (obtain rfl := own_eq h; omega) | (have h6 := HAL6.out.size; omega)); clear hown3 hch3 hb3)
   clear a0 a1 d0 d1 a1'
   obtain ⟨o3, k3, rfl⟩ := own_form HOWN3.out
   have HBN3 : Hid (b2 < w2.heap.size ∧ b3 < w2.heap.size ∧ w2.heap.size ≤ w3.heap.size) := hid ⟨HBN2.out.1, HBN2.out.2.1, HC3.out.size⟩
   have hn30 : ra.length ≤ 30 := HZ.out.1
   go_loopw [7] (fun i wr => ∃ k : Nat, k ≤ ra.length ∧ i = .int .i64 k ∧ wr.ownsRow 0 47 2 (.slice o3 ra.length k3) ra.length ((normK ra k).flatMap resL) ∧ Chg (fun _ => False) w2 wr ∧ ∀ j (h : j < ra.length), j < k → ra[j].2.size ≤ 1000) (fun i _ => ra.length - (intOf i).toNat)
   case atStart => exact ⟨0, Nat.zero_le _, rfl, by rw [normK_zero]; exact HOWN3.out, HC3.out, fun _ _ h => absurd h (Nat.not_lt_zero _)⟩
   case round =>
    obtain ⟨k, hk, rfl, hown, hch, hall⟩ := hrel
    have HOWN := hid hown
    have HCH := hid hch
    have HALL := hid hall
    clear hown hch hall
    by_cases hkn : k < ra.length
    · have hkn' : (k : Int) < ra.length := by omega
      obtain ⟨g6, cap6, hve, hcap, hg6⟩ := owns_some HOWN.out (by omega)
      obtain ⟨rfl, rfl⟩ : o3 = some ⟨g6, 0, none⟩ ∧ k3 = cap6 := by simpa using hve
      have HGB : Hid (w2.heap.size ≤ g6) := hid (HB3.out g6 rfl)
      obtain ⟨y0, y1, yf⟩ := norm_cells HOWN.out hkn
      have HNF := hid (flat_norm ra k hkn)
      have HNS := hid (normK_same ra k hkn)
      have HAK : Hid (ra[k].2.size ≤ 1000 → ∀ j (h : j < ra.length), j < k + 1 → ra[j].2.size ≤ 1000) := hid (fun h j hj hjk => by
        by_cases e : j = k
        · subst e; exact h
        · exact HALL.out j hj (by omega))
      have hix6 := own_ix (P := Tryz.prog) Tryz.underlying58 sizeRes g6 ra.length k3 k hkn
      have HST := hid (HOWN.out.stored (k * 2 + 1) (.string ByteArray.empty)).1
      clear hve hcap hg6
      generalize ra[k].1 = rc at *
      generalize ra[k].2 = rb2 at *
      by_cases hz1 : (1000 : Int) < (rb2.size : Int)
      · go_wp2_with fail
        go_ret
        exact ⟨rfl, HC2.out.trans HCH.out (fun _ _ h => h)⟩
      have hzk : rb2.size ≤ 1000 := by omega
      have HZK := hid (HAK.out hzk)
      clear hzk HAK
      by_cases h0 : rc = 0
      · subst h0
        go_wp2_with fail
        go_roundw
        case rel => exact ⟨k + 1, by omega, by go_num, by rw [HNS.out rfl]; exact HOWN.out, HCH.out, HZK.out⟩
        case measure => simp [intOf]; omega
      · have hne : (rc != 0) = true := by rw [bne_iff_ne]; exact h0
        have HNF2 := hid (HNF.out h0)
        clear h0 HNF HNS
        go_wp2_with fail
        go_roundw
        case rel => exact ⟨k + 1, by omega, by go_num, by rw [← HNF2.out]; exact HST.out, HCH.out.setCell (p := ⟨g6, k * 2 + 1, none⟩) (fun h => by have := HGB.out; exact absurd h (by simp; omega)) _, HZK.out⟩
        case measure => simp [intOf]; omega
    · obtain rfl : k = ra.length := by omega
      have hown := HOWN.out
      rw [normK_all] at hown
      have HRS := hid (ResAt.of_owns (rs := ra.map normR) (by simp) hown (by simp; omega) (fun r hr => by
        obtain ⟨x, hx, rfl⟩ := List.mem_map.1 hr
        obtain ⟨j, hj, rfl⟩ := List.mem_iff_getElem.1 hx
        have := HALL.out j hj hj
        unfold normR
        simp only
        split
        · omega
        · exact Nat.zero_le _))
      have HBA : Hid (∀ r ∈ ra, r.2.size ≤ 1000) := hid (fun r hr => by
        obtain ⟨j, hj, rfl⟩ := List.mem_iff_getElem.1 hr
        exact HALL.out j hj hj)
      clear hown HOWN HALL HB3 HOWN3
      go_wp2_with fail
      obtain ⟨wo, hwo⟩ : ∃ wo, wo = wr := ⟨_, rfl⟩
      rw [← hwo] at HCH HRS ⊢
      clear hwo
      go_loopw [5, 8] (fun v5 i wr => ∃ (k : Nat) (S : Bool), k ≤ rb.length ∧ i = .int .i64 k ∧ v5 = .bool S ∧ (S = true ↔ SameK ca cb ra rb k) ∧ Chg (fun _ => False) wo wr ∧ ∀ j (h : j < rb.length), j < k → rb[j].2.size ≤ 1000) (fun _ i _ => rb.length - (intOf i).toNat)
      case atStart => exact ⟨0, S0, Nat.zero_le _, rfl, rfl, HS0.out, Chg.refl _ _, fun _ _ h => absurd h (Nat.not_lt_zero _)⟩
      case round =>
       obtain ⟨k, S, hk, rfl, rfl, hS, hcx, hall⟩ := hrel
       have HS := hid hS
       have HCX := hid (HCH.out.trans hcx (fun _ _ h => h))
       have HRX := hid (HRS.out.chg hcx (fun _ _ h => h))
       have HOX := hid hcx
       have HALL := hid hall
       clear hS hcx hall
       obtain ⟨a0, a1, d0, d1⟩ := HCL.out wr HCX.out
       by_cases hkn : k < rb.length
       · have hkn' : (k : Int) < rb.length := by omega
         obtain ⟨bb, oo, hix, e0, e1, hlt⟩ := (HB2.out.chg (HC2.out.trans HCX.out (fun _ _ h => h)) (fun _ _ h => h)).ix k hkn
         have HAK : Hid (rb[k].2.size ≤ 1000 → ∀ j (h : j < rb.length), j < k + 1 → rb[j].2.size ≤ 1000) := hid (fun h j hj hjk => by
           by_cases e : j = k
           · subst e; exact h
           · exact HALL.out j hj (by omega))
         have HDS := hid (dec_sameK HS.out hkn)
         have HGE := hid (getD_of_lt rb noRes k hkn)
         have HWF := hid (wfb _ (List.getElem_mem hkn))
         obtain ⟨rc, hrc⟩ : ∃ rc, rc = rb[k].1 := ⟨_, rfl⟩
         obtain ⟨rb2, hrb2⟩ : ∃ rb2, rb2 = rb[k].2 := ⟨_, rfl⟩
         have HRK : Hid (rb[k] = (rc, rb2)) := hid (by rw [hrc, hrb2])
         rw [← hrc] at e0 HWF
         rw [← hrb2] at e1 HAK
         clear hrc hrb2
         by_cases hz1 : (1000 : Int) < (rb2.size : Int)
         · go_wp2_with fail
           go_ret
           exact ⟨rfl, HC2.out.trans HCX.out (fun _ _ h => h)⟩
         have hzk : rb2.size ≤ 1000 := by omega
         have HZK := hid (HAK.out hzk)
         clear HAK
         go_upto_region 20 with fail
         have HX5 := hid (heap_alloc_new' wr (.cells #[.int .i64 rc, .string rb2] 47))
         have HC5 := hid (al_chg wr (.cells #[.int .i64 rc, .string rb2] 47))
         have HS5 : Hid ((wr.alloc (.cells #[.int .i64 rc, .string rb2] 47)).heap.size = wr.heap.size + 1) := hid (by simp)
         obtain ⟨xb, hxb⟩ : ∃ xb, xb = wr.heap.size := ⟨_, rfl⟩
         rw [← hxb] at HX5 HS5 ⊢
         have HXB : Hid (wr.heap.size ≤ xb) := hid (by omega)
         clear hxb
         generalize wr.alloc (.cells #[.int .i64 rc, .string rb2] 47) = W5 at *
         clear hix e0 e1 a0 a1 d0 d1 hz1
         have x0 := cell_of HX5.out 0
         have x1 := cell_of HX5.out 1
         have xf := frozen_of HX5.out 1
         simp at x0 x1
         have HW6 : Hid (∀ (P : World → Prop), (∀ W nb, W.heap[xb]? = some (.cells #[.int .i64 rc, .string nb] 47 (0, 0)) → (rc, nb) = normR (rc, rb2) → nb.size ≤ 1000 → Chg (fun _ => False) wr W → P W) → P (if rc = 0 then W5 else W5.setCell ⟨xb, 1, none⟩ (.string { data := #[] }))) := hid (fun P h => by
           by_cases h0 : rc = 0
           · rw [if_pos h0]
             exact h W5 rb2 HX5.out (by unfold normR; rw [if_pos h0]) (by omega) HC5.out
           · rw [if_neg h0]
             refine h _ { data := #[] } ?_ (by unfold normR; rw [if_neg h0]; rfl) (Nat.zero_le _) (HC5.out.setCell (p := ⟨xb, 1, none⟩) (fun h => by have := HXB.out; exact absurd h (by simp; omega)) _)
             have h := heap_set_same HX5.out 1 (.string { data := #[] })
             simpa using h)
         by_cases h0 : rc = 0
         · have hne : (rc != 0) = false := by rw [bne_eq_false_iff_eq]; exact h0
           have hq := HW6.out
           rw [if_pos h0] at hq
           have HQ := hid hq
           clear h0 hq HW6
           go_upto_region 22 with fail
           clear hne x0 x1 xf
           generalize W5 = W6 at HQ ⊢
           obtain ⟨nb, hxx, hnb, hnz, hcy⟩ := HQ.out (fun W => ∃ nb : ByteArray, W.heap[xb]? = some (.cells #[.int .i64 rc, .string nb] 47 (0, 0)) ∧ (rc, nb) = normR (rc, rb2) ∧ nb.size ≤ 1000 ∧ Chg (fun _ => False) wr W) (fun W nb a b c d => ⟨nb, a, b, c, d⟩)
           have HCY := hid hcy
           have HXX := hid hxx
           have HNB := hid hnb
           clear HQ hcy hnb hxx HX5 HC5 HS5
           cases S with
           | false =>
             go_quiet (fail)
             go_wp2_with fail
             go_roundw
             case rel => exact ⟨k + 1, false, by omega, by go_num, by first | rfl | trivial, by simpa using HDS.out, (HOX.out.trans HCY.out (fun _ _ h => h)).drewN _, HZK.out⟩
             case measure => simp [intOf]; omega
           | true =>
             have hlen := (HS.out.1 rfl).2.1
             have hkr : k < ra.length := by omega
             have hkr' : (k : Int) < (ra.length : Int) := by omega
             obtain ⟨bi, oi, hixi, ei0, ei1, hli⟩ := (HRX.out.chg HCY.out (fun _ _ h => h)).ix k (by simpa using hkr)
             have hem : (ra.map normR)[k]'(by simpa using hkr) = normR ra[k] := by simp
             rw [hem] at ei0 ei1
             have hxv : (normR ra[k]).2.size ≤ 1000 := by
               have := HBA.out _ (List.getElem_mem hkr)
               unfold normR
               simp only
               split
               · exact this
               · exact Nat.zero_le _
             have hwfa := wfa _ (List.getElem_mem hkr)
             have heq := equalIn_res2 (normR ra[k]) (rc, nb) hwfa HWF.out (by unfold maxLen; omega) (by show nb.size ≤ _; unfold maxLen; omega)
             have HDX : Hid (decide (normR ra[k] = (rc, nb)) = true ↔ SameK ca cb ra rb (k + 1)) := hid (by
               rw [← HDS.out, getD_of_lt ra noRes k hkr, HGE.out, HRK.out, HNB.out]
               simp)
             generalize decide (normR ra[k] = (rc, nb)) = D at *
             obtain ⟨nc, hnc⟩ : ∃ nc, nc = (normR ra[k]).1 := ⟨_, rfl⟩
             obtain ⟨nb2, hnb2⟩ : ∃ nb2, nb2 = (normR ra[k]).2 := ⟨_, rfl⟩
             rw [← hnc] at ei0 heq
             rw [← hnb2] at ei1 heq
             simp only at heq
             have x0 := cell_of HXX.out 0
             have x1 := cell_of HXX.out 1
             simp at x0 x1
             clear hlen hem hxv hwfa hnc hnb2 hnz
             go_quiet (fail)
             go_wp2_with fail
             go_roundw
             case rel => exact ⟨k + 1, D, by omega, by go_num, by first | rfl | trivial, HDX.out, (HOX.out.trans HCY.out (fun _ _ h => h)).drewN _, HZK.out⟩
             case measure => simp [intOf]; omega
         · have hne : (rc != 0) = true := by rw [bne_iff_ne]; exact h0
           have hq := HW6.out
           rw [if_neg h0] at hq
           have HQ := hid hq
           clear h0 hq HW6
           go_upto_region 22 with fail
           clear hne x0 x1 xf
           generalize W5.setCell ⟨xb, 1, none⟩ (.string { data := #[] }) = W6 at HQ ⊢
           obtain ⟨nb, hxx, hnb, hnz, hcy⟩ := HQ.out (fun W => ∃ nb : ByteArray, W.heap[xb]? = some (.cells #[.int .i64 rc, .string nb] 47 (0, 0)) ∧ (rc, nb) = normR (rc, rb2) ∧ nb.size ≤ 1000 ∧ Chg (fun _ => False) wr W) (fun W nb a b c d => ⟨nb, a, b, c, d⟩)
           have HCY := hid hcy
           have HXX := hid hxx
           have HNB := hid hnb
           clear HQ hcy hnb hxx HX5 HC5 HS5
           cases S with
           | false =>
             go_quiet (fail)
             go_wp2_with fail
             go_roundw
             case rel => exact ⟨k + 1, false, by omega, by go_num, by first | rfl | trivial, by simpa using HDS.out, (HOX.out.trans HCY.out (fun _ _ h => h)).drewN _, HZK.out⟩
             case measure => simp [intOf]; omega
           | true =>
             have hlen := (HS.out.1 rfl).2.1
             have hkr : k < ra.length := by omega
             have hkr' : (k : Int) < (ra.length : Int) := by omega
             obtain ⟨bi, oi, hixi, ei0, ei1, hli⟩ := (HRX.out.chg HCY.out (fun _ _ h => h)).ix k (by simpa using hkr)
             have hem : (ra.map normR)[k]'(by simpa using hkr) = normR ra[k] := by simp
             rw [hem] at ei0 ei1
             have hxv : (normR ra[k]).2.size ≤ 1000 := by
               have := HBA.out _ (List.getElem_mem hkr)
               unfold normR
               simp only
               split
               · exact this
               · exact Nat.zero_le _
             have hwfa := wfa _ (List.getElem_mem hkr)
             have heq := equalIn_res2 (normR ra[k]) (rc, nb) hwfa HWF.out (by unfold maxLen; omega) (by show nb.size ≤ _; unfold maxLen; omega)
             have HDX : Hid (decide (normR ra[k] = (rc, nb)) = true ↔ SameK ca cb ra rb (k + 1)) := hid (by
               rw [← HDS.out, getD_of_lt ra noRes k hkr, HGE.out, HRK.out, HNB.out]
               simp)
             generalize decide (normR ra[k] = (rc, nb)) = D at *
             obtain ⟨nc, hnc⟩ : ∃ nc, nc = (normR ra[k]).1 := ⟨_, rfl⟩
             obtain ⟨nb2, hnb2⟩ : ∃ nb2, nb2 = (normR ra[k]).2 := ⟨_, rfl⟩
             rw [← hnc] at ei0 heq
             rw [← hnb2] at ei1 heq
             simp only at heq
             have x0 := cell_of HXX.out 0
             have x1 := cell_of HXX.out 1
             simp at x0 x1
             clear hlen hem hxv hwfa hnc hnb2 hnz
             go_quiet (fail)
             go_wp2_with fail
             go_roundw
             case rel => exact ⟨k + 1, D, by omega, by go_num, by first | rfl | trivial, HDX.out, (HOX.out.trans HCY.out (fun _ _ h => h)).drewN _, HZK.out⟩
             case measure => simp [intOf]; omega
       · obtain rfl : k = rb.length := by omega
         have HSM : Hid (S = true ↔ SameM ca cb ra rb) := hid (HS.out.trans sameK_all)
         have HBB2 : Hid (∀ r ∈ rb, r.2.size ≤ 1000) := hid (fun r hr => by
           obtain ⟨j, hj, rfl⟩ := List.mem_iff_getElem.1 hr
           exact HALL.out j hj hj)
         have HCA : Hid (Codes ra) := hid (fun r hr => wf_codes (wfa r hr))
         have HCB : Hid (Codes rb) := hid (fun r hr => wf_codes (wfb r hr))
         clear HRS HRX HOX HCH HALL HS HS0 wfa wfb
         have HCW := hid (HC2.out.trans HCX.out (fun _ _ h => h))
         have HR1 := hid (lrow_any ca HZ.out.2.2.1 ra (by have := HZ.out; omega) (fun r hr => by have := HBA.out r hr; omega) HCA.out _ wr (HA.out.chg HCW.out (fun _ _ h => h)) (HT.out.keep HCW.out) (Nat.le_trans HBB.out HCW.out.size))
         go_wp2_with fail
         refine HR1.out.mono ?_
         rintro e w8 ⟨rfl, hc8⟩
         have HC8 := hid (HCX.out.trans hc8 (fun _ _ h => h))
         have HCW8 := hid (HCW.out.trans hc8 (fun _ _ h => h))
         clear hc8 a0 a1 d0 d1 HR1 HCX HCW
         obtain ⟨a0, a1, d0, d1⟩ := HCL.out w8 HC8.out
         have HR2 := hid (lrow_any cb HZ.out.2.2.2 rb (by have := HZ.out; omega) (fun r hr => by have := HBB2.out r hr; omega) HCB.out _ w8 (HB2.out.chg HCW8.out (fun _ _ h => h)) (HT.out.keep HCW8.out) (Nat.le_trans HBB.out HCW8.out.size))
         go_wp2_with fail
         refine HR2.out.mono ?_
         rintro e w9 ⟨rfl, hc9⟩
         have HC9 := hid (HC8.out.trans hc9 (fun _ _ h => h))
         have HCW9 := hid (HCW8.out.trans hc9 (fun _ _ h => h))
         clear hc9 a0 a1 d0 d1 HR2 HC8 HCW8
         obtain ⟨a0, a1, d0, d1⟩ := HCL.out w9 HC9.out
         have HXS : Hid ((rowM ca ra).size ≤ 100000 ∧ (rowM cb rb).size ≤ 100000) := hid (by
           have h1 := keyTs_row ca HZ.out.2.2.1 ra (by have := HZ.out; omega)
           have h2 := keyTs_row cb HZ.out.2.2.2 rb (by have := HZ.out; omega)
           unfold rowM
           rw [bs_size, bs_size]
           omega)
         have HSY := hid (fun (hc : ¬ Clash (ra ++ rb)) => (rowM_same HZ.out.2.2.1 HZ.out.2.2.2 (by have := HZ.out; omega) (by have := HZ.out; omega) HCA.out HCB.out hc).trans HSM.out.symm)
         have HSO := hid (fun (h : S = true) => rowM_of (HSM.out.1 h))
         have HKS := hid (fun (h1 : rowM ca ra = rowM cb rb ↔ S = true) h2 => keys_same HSM.out h1 h2)
         have HKA9 : Hid (∀ W, Chg (fun _ => False) w2 W → Calls Tryz.prog 29 #[.string ca, .slice oa ra.length c1] W (Rets (.agg (rowB 32 (keyF ca ra))) (Chg (fun _ => False) W))) := hid (fun W hW => key_any ca HZ.out.2.2.1 ra (by have := HZ.out; omega) (fun r hr => by have := HBA.out r hr; omega) HCA.out _ W (HA.out.chg (HC2.out.trans hW (fun _ _ h => h)) (fun _ _ h => h)) (HT.out.keep (HC2.out.trans hW (fun _ _ h => h))) (Nat.le_trans HBB.out (HC2.out.trans hW (fun _ _ h => h)).size))
         have HKB9 : Hid (∀ W, Chg (fun _ => False) w2 W → Calls Tryz.prog 29 #[.string cb, .slice ob rb.length c2] W (Rets (.agg (rowB 32 (keyF cb rb))) (Chg (fun _ => False) W))) := hid (fun W hW => key_any cb HZ.out.2.2.2 rb (by have := HZ.out; omega) (fun r hr => by have := HBB2.out r hr; omega) HCB.out _ W (HB2.out.chg (HC2.out.trans hW (fun _ _ h => h)) (fun _ _ h => h)) (HT.out.keep (HC2.out.trans hW (fun _ _ h => h))) (Nat.le_trans HBB.out (HC2.out.trans hW (fun _ _ h => h)).size))
         have HCLA : Hid (∀ W, Chg (fun _ => False) w2 W → Calls Tryz.prog 27 #[.slice oa ra.length c1, .slice ob rb.length c2] W (ClashPost W (ra ++ rb))) := hid (fun W hW => clash_any ra rb (by have := HZ.out; omega) (by have := HZ.out; omega) HBA.out HBB2.out _ _ W (HA.out.chg (HC2.out.trans hW (fun _ _ h => h)) (fun _ _ h => h)) (HB2.out.chg (HC2.out.trans hW (fun _ _ h => h)) (fun _ _ h => h)) (HT.out.keep (HC2.out.trans hW (fun _ _ h => h))) (Nat.le_trans HBB.out (HC2.out.trans hW (fun _ _ h => h)).size))
         have HT9 := hid (HT.out.keep HCW9.out)
         have HB9 : Hid (B ≤ w9.heap.size) := hid (Nat.le_trans HBB.out HCW9.out.size)
         clear HA HB2 HCA HCB HSM HBA HBB2
         generalize rowM ca ra = X at *
         generalize rowM cb rb = Y at *
         go_upto_region 25 with fail
         go_cut [145] from 120 to 144 (fun s145 wx => ∃ Z : Bool, s145 = .bool Z ∧ (Z = false → (X = Y ↔ S = true) ∧ (X ≠ Y → ¬ ∀ i, i < 32 → ofB [X] i = ofB [Y] i)) ∧ Chg (fun _ => False) w9 wx)
         case first =>
           have hbe := str_beq X Y
           by_cases hxy : X = Y
           · rw [decide_eq_true hxy] at hbe
             have HXY := hid hxy
             clear hxy
             cases S with
             | true =>
               go_wp2_with fail
               go_meet
               exact ⟨false, rfl, fun _ => ⟨by simp [HXY.out], fun h => absurd HXY.out h⟩, Chg.refl _ _⟩
             | false =>
               go_wp2_with fail
               refine (HCLA.out w9 HC9.out).mono ?_
               rintro e w10 ⟨b, rfl, hb, hc10⟩
               have HC10 := hid hc10
               have HBC := hid hb
               clear hc10 hb
               cases b with
               | true =>
                 go_wp2_with fail
                 go_meet
                 exact ⟨true, rfl, (fun h => by cases h), HC10.out⟩
               | false =>
                 have h1 := (HSY.out (HBC.out rfl)).1 HXY.out
                 cases h1
           · rw [decide_eq_false hxy] at hbe
             have HXY := hid hxy
             clear hxy
             cases S with
             | true => exact absurd (HSO.out rfl) HXY.out
             | false =>
               obtain ⟨R, hR1, hR2⟩ := eq_dig (ofB [X]) (ofB [Y]) w9
               have HR2 := hid hR2
               have HRR := hid (show ∀ W, (binOp .eql 57 (.agg (rowB 32 (ofB [X]))) (.agg (rowB 32 (ofB [Y])))).run Tryz.prog W = .ok (.bool R) W from fun W => by
                 obtain ⟨R', g1, g2⟩ := eq_dig (ofB [X]) (ofB [Y]) W
                 rw [g1, Bool.eq_iff_iff.2 (g2.trans HR2.out.symm)])
               clear hR1 hR2
               go_wp2_with fail
               refine (of_one X HXS.out.1 w9 HT9.out HB9.out).mono ?_
               rintro e w10 ⟨rfl, hc10⟩
               have HC10 := hid ((al_chg w9 (.cells #[.string X] 9)).trans hc10 (fun _ _ h => h))
               clear hc10
               go_wp2_with fail
               refine (of_one Y HXS.out.2 w10 (HT9.out.keep HC10.out) (Nat.le_trans HB9.out HC10.out.size)).mono ?_
               rintro e w11 ⟨rfl, hc11⟩
               have HC11 := hid ((HC10.out.alloc (.cells #[.string Y] 9)).trans hc11 (fun _ _ h => h))
               clear hc11
               go_wp2_with (guard_target =~ wpList _ _ _ (Oper.mk (some 143) _ _ _ _ _ :: _) _ _; refine wpList_eqlW (by simp [Region.wanted, yielded]) 57 57 _ _ rfl _ _ rfl rfl (by kernel_rfl) R (HRR.out _) ?_)
               go_meet
               exact ⟨R, rfl, fun hR => ⟨⟨fun h => absurd h HXY.out, fun h => by cases h⟩, fun _ h => by have := HR2.out.2 h; rw [hR] at this; cases this⟩, HC11.out⟩
         case rest =>
          obtain ⟨Z, rfl, hZ, hcz⟩ := hcut
          have HCZ := hid (HC9.out.trans hcz (fun _ _ h => h))
          have HCZ9 := hid hcz
          have HZZ := hid hZ
          clear hZ hcz a0 a1 d0 d1
          cases Z with
          | true =>
            go_wp2_with fail
            go_ret
            exact ⟨rfl, HC2.out.trans HCZ.out (fun _ _ h => h)⟩
          | false =>
           obtain ⟨hz1, hz2⟩ := HZZ.out rfl
           have HKK := hid (HKS.out hz1 hz2)
           have HXS2 := hid hz1
           clear hz1 hz2 HZZ HKS
           go_upto_region 27 with fail
           have hbe : (X.toList == Y.toList) = S := by
             rw [str_beq, Bool.eq_iff_iff, decide_eq_true_iff]
             exact HXS2.out
           obtain ⟨R, hR1, hR2⟩ := eq_dig (keyF ca ra) (keyF cb rb) wc
           have hRS : R = S := Bool.eq_iff_iff.2 (hR2.trans HKK.out)
           subst hRS
           have HR2 := hid hR2
           have hRR : ∀ W, (binOp .eql 57 (.agg (rowB 32 (keyF ca ra))) (.agg (rowB 32 (keyF cb rb)))).run Tryz.prog W = .ok (.bool R) W := fun W => by
             obtain ⟨R', g1, g2⟩ := eq_dig (keyF ca ra) (keyF cb rb) W
             rw [g1, Bool.eq_iff_iff.2 (g2.trans HR2.out.symm)]
           clear hR1 hR2
           have HCW2 := hid (HC2.out.trans HCZ.out (fun _ _ h => h))
           refine wp_region_held_drew (S := fun W => Chg (fun _ => False) wc W) (by kernel_rfl) ((Chg.refl _ wc).drew) (fun hd => ?_)
           refine wpAnyH_takeD (i := 0) (v := .string X) (some 146) rfl (by kernel_rfl) (by kernel_rfl) (by kernel_rfl) (by kernel_rfl) (fun _ _ _ h => h) (.inl ⟨by kernel_rfl, fun W _ => by kernel_rfl⟩) hd ?_
           refine wpAnyH_takeD (i := 1) (v := .string Y) (some 147) rfl (by kernel_rfl) (by kernel_rfl) (by kernel_rfl) (by kernel_rfl) (fun _ _ _ h => h) (.inl ⟨by kernel_rfl, fun W _ => by kernel_rfl⟩) hd ?_
           refine wpAnyH_takeD (i := 2) (v := .bool R) (some 148) rfl (by kernel_rfl) (by kernel_rfl) (by kernel_rfl) (by kernel_rfl) (fun _ _ _ h => h) (.inl ⟨by kernel_rfl, fun W _ => by simp [go_sem, hbe]⟩) hd ?_
           refine wpAnyH_takeD (i := 3) (v := .bool R) (some 149) rfl (by kernel_rfl) (by kernel_rfl) (by kernel_rfl) (by kernel_rfl) (fun _ _ _ h => h) (.inl ⟨by kernel_rfl, fun W _ => by kernel_rfl⟩) hd ?_
           refine wpAnyH_takeD (i := 4) (v := .bool true) (some 150) rfl (by kernel_rfl) (by kernel_rfl) (by kernel_rfl) (by kernel_rfl) (fun _ _ _ h => h) (.inl ⟨by kernel_rfl, fun W _ => by cases R <;> kernel_rfl⟩) hd ?_
           refine wpAnyH_takeD (i := 5) (v := .bool true) (some 151) rfl (by kernel_rfl) (by kernel_rfl) (by kernel_rfl) (by kernel_rfl) (fun _ _ _ h => h) (.inl ⟨by kernel_rfl, fun W _ => by kernel_rfl⟩) hd ?_
           refine wpAnyH_takeD (i := 6) (v := .pointer (some ⟨b2, 0, none⟩)) (some 152) rfl (by kernel_rfl) (by kernel_rfl) (by kernel_rfl) (by kernel_rfl) (fun _ _ _ h => h) (.inl ⟨by kernel_rfl, fun W _ => by kernel_rfl⟩) hd ?_
           refine wpAnyH_takeD (i := 7) (v := .string ca) (some 153) rfl (by kernel_rfl) (by kernel_rfl) (by kernel_rfl) (by kernel_rfl) (fun _ _ _ h => h) (yieldsIf_load1 (by kernel_rfl) 9 (.tmp 152) (by kernel_rfl) b2 0 _ (by kernel_rfl) (fun W hW => load_str (HCL.out W (HCZ.out.trans hW (fun _ _ h => h))).1)) hd ?_
           refine wpAnyH_takeD (i := 8) (v := .pointer (some ⟨b2, 1, none⟩)) (some 154) rfl (by kernel_rfl) (by kernel_rfl) (by kernel_rfl) (by kernel_rfl) (fun _ _ _ h => h) (.inl ⟨by kernel_rfl, fun W _ => by kernel_rfl⟩) hd ?_
           refine wpAnyH_takeD (i := 9) (v := .slice oa ra.length c1) (some 155) rfl (by kernel_rfl) (by kernel_rfl) (by kernel_rfl) (by kernel_rfl) (fun _ _ _ h => h) (yieldsIf_load1 (by kernel_rfl) 58 (.tmp 154) (by kernel_rfl) b2 1 _ (by kernel_rfl) (fun W hW => load_ress (HCL.out W (HCZ.out.trans hW (fun _ _ h => h))).2.1)) hd ?_
           refine wpAnyH_takeD (i := 11) (v := .pointer (some ⟨b3, 0, none⟩)) (some 157) rfl (by kernel_rfl) (by kernel_rfl) (by kernel_rfl) (by kernel_rfl) (fun _ _ _ h => h) (.inl ⟨by kernel_rfl, fun W _ => by kernel_rfl⟩) hd ?_
           refine wpAnyH_takeD (i := 12) (v := .string cb) (some 158) rfl (by kernel_rfl) (by kernel_rfl) (by kernel_rfl) (by kernel_rfl) (fun _ _ _ h => h) (yieldsIf_load1 (by kernel_rfl) 9 (.tmp 157) (by kernel_rfl) b3 0 _ (by kernel_rfl) (fun W hW => load_str (HCL.out W (HCZ.out.trans hW (fun _ _ h => h))).2.2.1)) hd ?_
           refine wpAnyH_takeD (i := 13) (v := .pointer (some ⟨b3, 1, none⟩)) (some 159) rfl (by kernel_rfl) (by kernel_rfl) (by kernel_rfl) (by kernel_rfl) (fun _ _ _ h => h) (.inl ⟨by kernel_rfl, fun W _ => by kernel_rfl⟩) hd ?_
           refine wpAnyH_takeD (i := 14) (v := .slice ob rb.length c2) (some 160) rfl (by kernel_rfl) (by kernel_rfl) (by kernel_rfl) (by kernel_rfl) (fun _ _ _ h => h) (yieldsIf_load1 (by kernel_rfl) 58 (.tmp 159) (by kernel_rfl) b3 1 _ (by kernel_rfl) (fun W hW => load_ress (HCL.out W (HCZ.out.trans hW (fun _ _ h => h))).2.2.2)) hd ?_
           refine wpAnyH_takeD (i := 17) (v := .bool R) (some 163) rfl (by kernel_rfl) (by kernel_rfl) (by kernel_rfl) (by kernel_rfl) (fun _ _ _ h => h) (.inl ⟨by kernel_rfl, fun W _ => by kernel_rfl⟩) hd ?_
           try simp only [Act.put, List.setIfInBounds_toArray, List.set_cons_zero, List.set_cons_succ]
           refine wpAnyH_all (rs := [10]) (by kernel_rfl) (by simp) (fun i hi => ?_)
           obtain rfl : i = 10 := by simpa using hi
           refine wpOp_step rfl (fun K1 hK1 => ?_)
           refine Eq.mpr (if_pos (by kernel_rfl)) ?_
           go_wp2_with (go_at_call 29; refine (HKA9.out _ (HCZ.out.trans hd (fun _ _ h => h))).mono ?_; rintro e w12 ⟨rfl, hcw12⟩)
           have hd1 : Chg (fun _ => False) wc w12 := hd.trans hcw12 (fun _ _ h => h)
           refine ⟨hd1, ?_⟩
           try simp only [Act.put, List.setIfInBounds_toArray, List.set_cons_zero, List.set_cons_succ, Array.toArray_toList]
           refine wpAnyH_all (rs := [15]) (by kernel_rfl) (by simp) (fun i hi => ?_)
           obtain rfl : i = 15 := by simpa using hi
           refine wpOp_step rfl (fun K2 hK2 => ?_)
           refine Eq.mpr (if_pos (by kernel_rfl)) ?_
           go_wp2_with (go_at_call 29; refine (HKB9.out _ (HCZ.out.trans hd1 (fun _ _ h => h))).mono ?_; rintro e w13 ⟨rfl, hcw13⟩)
           have hd2 : Chg (fun _ => False) wc w13 := hd1.trans hcw13 (fun _ _ h => h)
           refine ⟨hd2, ?_⟩
           refine wpAnyH_takeD (i := 16) (v := .bool R) (some 162) rfl (by kernel_rfl) (by kernel_rfl) (by kernel_rfl) (by kernel_rfl) (fun _ _ _ h => h) (yieldsIf_eql (by kernel_rfl) 57 57 (.tmp 156) (.tmp 161) (by kernel_rfl) (rowB 32 (keyF ca ra)) (rowB 32 (keyF cb rb)) (by kernel_rfl) (by kernel_rfl) (by kernel_rfl) R hRR) hd2 ?_
           refine wpAnyH_takeD (i := 18) (v := .bool true) (some 164) rfl (by kernel_rfl) (by kernel_rfl) (by kernel_rfl) (by kernel_rfl) (fun _ _ _ h => h) (.inl ⟨by kernel_rfl, fun W _ => by cases R <;> kernel_rfl⟩) hd2 ?_
           refine wpAnyH_takeD (i := 19) (v := .bool true) (some 165) rfl (by kernel_rfl) (by kernel_rfl) (by kernel_rfl) (by kernel_rfl) (fun _ _ _ h => h) (.inl ⟨by kernel_rfl, fun W _ => by kernel_rfl⟩) hd2 ?_
           refine wpAnyH_takeD (i := 20) (v := .bool true) (some 4) rfl (by kernel_rfl) (by kernel_rfl) (by kernel_rfl) (by kernel_rfl) (fun _ _ _ h => h) (.inl ⟨by kernel_rfl, fun W _ => by kernel_rfl⟩) hd2 ?_
           try simp only [Act.put, List.setIfInBounds_toArray, List.set_cons_zero, List.set_cons_succ]
           refine wpAnyH_done (by kernel_rfl) ?_ _
           have HF := hid hd2
           go_wp2_with fail
           go_ret
           exact ⟨rfl, HCW2.out.trans HF.out (fun _ _ h => h)⟩
end Go.Proofs.YthglfmacjoecgaaGreatDoor
namespace Go.Proofs.YthglfmacjoecgaaGreatDoor
open Go

/-- Sources with other blobs under some names. -/
structure Mix (srcs m : List SrcR) (names : List Nm) : Prop where
  len : m.length = srcs.length
  name : ∀ i (h : i < m.length), (m[i]).1 = (srcs[i]'(by omega)).1
  blob : ∀ i (h : i < m.length), (m[i]).2 = (srcs[i]'(by omega)).2 ∨ (m[i]).1 ∈ names
  wide : ∀ i (h : i < m.length), (m[i]).2.size ≤ 512 ∨ (m[i]).2 = (srcs[i]'(by omega)).2
  from_ : ∀ s ∈ names, s ∈ srcs.map Prod.fst
theorem Mix.refl (srcs : List SrcR) : Mix srcs srcs [] := ⟨rfl, fun _ _ => rfl, fun _ _ => .inl rfl, fun _ _ => .inr rfl, by simp⟩
theorem Mix.set {srcs m : List SrcR} {names : List Nm} (h : Mix srcs m names) {k : Nat} (hk : k < m.length) {b : ByteArray} (hb : b.size ≤ 512) : Mix srcs (m.set k (m[k].1, b)) (names ++ [m[k].1]) := by
  refine ⟨by simp [h.len], fun i hi => ?_, fun i hi => ?_, fun i hi => ?_, fun s hs => ?_⟩
  · have hi' : i < m.length := by simpa using hi
    by_cases e : k = i
    · subst e; rw [List.getElem_set_self]; exact h.name k hk
    · rw [List.getElem_set_ne e]; exact h.name i hi'
  · have hi' : i < m.length := by simpa using hi
    by_cases e : k = i
    · subst e; right; rw [List.getElem_set_self]; simp
    · rw [List.getElem_set_ne e]
      rcases h.blob i hi' with h1 | h1
      · exact .inl h1
      · exact .inr (by simp [h1])
  · have hi' : i < m.length := by simpa using hi
    by_cases e : k = i
    · subst e; left; rw [List.getElem_set_self]; exact hb
    · rw [List.getElem_set_ne e]; exact h.wide i hi'
  · rcases List.mem_append.1 hs with hs | hs
    · exact h.from_ s hs
    · simp only [List.mem_singleton] at hs
      subst hs
      rw [h.name k hk]
      exact List.mem_map.2 ⟨_, List.getElem_mem _, rfl⟩
theorem Mix.fst {srcs m : List SrcR} {names : List Nm} (h : Mix srcs m names) : m.map Prod.fst = srcs.map Prod.fst := by
  apply List.ext_getElem (by simp [h.len])
  intro i h1 h2
  rw [List.getElem_map, List.getElem_map]
  exact h.name i (by simpa using h1)
theorem Mix.done {g : GrR} {srcs m : List SrcR} {names : List Nm} (h : Mix srcs m names) (hD : Done g srcs) : Done g m := by
  refine ⟨hD.can, ⟨by rw [h.fst]; exact hD.fit.nd, fun s => by rw [h.fst]; exact hD.fit.mem s⟩, fun s hs => ?_⟩
  obtain ⟨i, hi, rfl⟩ := List.mem_iff_getElem.1 hs
  rcases h.wide i hi with h1 | h1
  · exact h1
  · rw [h1]; exact hD.wide _ (List.getElem_mem _)
theorem Mix.src {g : GrR} {srcs m : List SrcR} {names : List Nm} (h : Mix srcs m names) (hD : Done g srcs) : ∀ s ∈ g.srcs, s ∉ names → valT (srcT m) s = valT (srcT srcs) s := by
  intro s hs hn
  obtain ⟨x, hx, rfl⟩ := List.mem_map.1 ((hD.fit.mem s).2 hs)
  obtain ⟨i, hi, rfl⟩ := List.mem_iff_getElem.1 hx
  have hi' : i < m.length := by rw [h.len]; exact hi
  have e1 := srcT_mem (h.done hD).fit.nd (List.getElem_mem hi')
  have e2 := srcT_mem hD.fit.nd (List.getElem_mem hi)
  have hb := (h.blob i hi').resolve_right (by rw [h.name i hi']; exact hn)
  unfold valT
  rw [h.name i hi'] at e1
  rw [e1, e2, hb]
theorem mix_clean {g : GrR} {srcs m : List SrcR} {names : List Nm} (h : Mix srcs m names) (hD : Done g srcs) {i : Nat} (hi : i < g.acts.length) (hd : dirtyB g names i = false) :
    (outT g m)[i]'(by rw [outT_len]; exact hi) = (outT g srcs)[i]'(by rw [outT_len]; exact hi) ∧ keyS g m i = keyS g srcs i := by
  have hc := made_clean (F := FF) hD.can srcs m names (h.src hD) i hi hd
  constructor
  · rw [outT_get g srcs i hi, outT_get g m i hi]
    congr 1
    have := hc.2
    rw [nameAt_lt g i hi] at this
    exact this
  · unfold keyS keyK madeS
    rw [hc.1]
end Go.Proofs.YthglfmacjoecgaaGreatDoor
