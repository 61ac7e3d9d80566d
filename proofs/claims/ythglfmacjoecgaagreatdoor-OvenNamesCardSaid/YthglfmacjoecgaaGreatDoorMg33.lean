/- Texts of the proof, one behind the other: More of what comes in, read: a making, names; Unlike makings have unlike rows, as long as digests tell texts apart: plain law. No program in sight; apiarylaw09.row walked: the bytes of which a key is the digest. -/
import Derived.Test.YthglfmacjoecgaaGreatDoorMg24
import Derived.Test.YthglfmacjoecgaaGreatDoorMg18
import Derived.Test.YthglfmacjoecgaaGreatDoorMg22
import Derived.Test.YthglfmacjoecgaaGreatDoorMg14
namespace Go.Proofs.YthglfmacjoecgaaGreatDoor
open Go.ChangeShapes Go.WideShapes Go.ChangeAt Go.RowKit
section
variable {H : Type} {enc : TypeId × Value → H} {W : World} {base b2 : Nat} {v : Value} {d : DataW H} {p : List MemPlace}
set_option maxRecDepth 100000 in
theorem making_in (hval : Value.okWide Tryz.prog W .any base 60 v) (h : DataW.Trod enc Tryz.prog W b2 (fun _ => true) true 60 v d p) :
    ∃ (c : ByteArray) (u : Value) (rs : List ResR), v = .agg #[.string c, u] ∧ c.size ≤ maxLen ∧ ResAt W u rs ∧ ∀ r ∈ rs, (Lit.int .i64 r.1).wf = true := by
  obtain ⟨cs, rfl, hsz⟩ := okWide_struct Tryz.underlying60 hval
  have hct : Tryz.prog.cellsOf 60 = 2 := by kernel_rfl
  rw [hct] at hsz
  obtain ⟨fuel, hf⟩ := h
  obtain ⟨ys, n', _, _, hlen, hyl, hfs⟩ := DataW.trod_struct Tryz.underlying60 hf
  have q0 := hfs 0 _ rfl
  have q1 := hfs 1 _ rfl
  have hq : ys[0]? = some (ys[0]'(by rw [hyl]; decide)) := List.getElem?_eq_getElem _
  have hq1 : ys[1]? = some (ys[1]'(by rw [hyl]; decide)) := List.getElem?_eq_getElem _
  rw [hq] at q0
  rw [hq1] at q1
  have hc0 : Tryz.prog.cellsOf 9 = 1 := by kernel_rfl
  have hc1 : Tryz.prog.cellsOf 58 = 1 := by kernel_rfl
  obtain ⟨sv, av, rfl⟩ : ∃ sv av, cs = #[sv, av] := by
    obtain ⟨l⟩ := cs
    match l, hsz with
    | [a, b], _ => exact ⟨a, b, rfl⟩
  have q0' : DataW.trod enc Tryz.prog W b2 (fun _ => true) true n' 9 (([sv, av].drop 0).take (Tryz.prog.cellsOf 9)) = some (ys[0]'(by rw [hyl]; decide)) := q0
  have q1' : DataW.trod enc Tryz.prog W b2 (fun _ => true) true n' 58 (([sv, av].drop 1).take (Tryz.prog.cellsOf 58)) = some (ys[1]'(by rw [hyl]; decide)) := q1
  rw [hc0] at q0'
  rw [hc1] at q1'
  obtain ⟨k0, g0, _, w0⟩ := DataW.trod_string Tryz.underlying9 q0'
  simp only [List.drop_zero, List.take_succ_cons, List.take_zero, List.cons.injEq, and_true] at g0
  subst g0
  obtain ⟨rs, h1, h2⟩ := ress_of q1'
  exact ⟨k0, av, rs, rfl, w0, h1, h2⟩
set_option maxRecDepth 100000 in
theorem names_in (hval : Value.okWide Tryz.prog W .any base 22 v) (h : DataW.Trod enc Tryz.prog W b2 (fun _ => true) true 22 v d p) : ∃ ss, NamesAt W v ss := by
  obtain ⟨ss, S⟩ := strsAt_of Tryz.underlying22 Tryz.underlying9 (by kernel_rfl) hval h
  exact ⟨_, namesAt_of S⟩
end
end Go.Proofs.YthglfmacjoecgaaGreatDoor
namespace Go.Proofs.YthglfmacjoecgaaGreatDoor
open Go

/-- A result as a key sees it. -/
def normR (r : ResR) : ResR := (r.1, if r.1 = 0 then r.2 else ByteArray.empty)
def SameM (ca cb : ByteArray) (ra rb : List ResR) : Prop := ca = cb ∧ ra.map normR = rb.map normR
theorem wordR_norm (r : ResR) : wordR r = wordR (normR r) := by
  unfold wordR normR
  by_cases h : r.1 = 0
  · simp [h]
  · simp [h]
theorem wordR_map (rs : List ResR) : rs.map wordR = (rs.map normR).map wordR := by
  rw [List.map_map]
  exact List.map_congr_left (fun r _ => wordR_norm r)
theorem keyTs_same {ca cb : ByteArray} {ra rb : List ResR} (h : SameM ca cb ra rb) : keyTs ca ra = keyTs cb rb := by
  unfold keyTs
  rw [wordR_map ra, wordR_map rb, h.1, h.2]
theorem bl_inj {a b : ByteArray} (h : bl a = bl b) : a = b := by rw [← bs_bl a, ← bs_bl b, h]
theorem wordR_eq {x y : ResR} (hx : -9223372036854775808 ≤ x.1 ∧ x.1 ≤ 9223372036854775807) (hy : -9223372036854775808 ≤ y.1 ∧ y.1 ≤ 9223372036854775807) (h : wordR x = wordR y) (hn : normR x ≠ normR y) : x.2 ≠ y.2 ∧ hashS x.2 = hashS y.2 := by
  unfold wordR at h
  unfold normR at hn
  by_cases h1 : x.1 = 0 <;> by_cases h2 : y.1 = 0
  · rw [if_pos h1, if_pos h2] at h
    rw [if_pos h1, if_pos h2] at hn
    simp only [List.cons.injEq, true_and] at h
    refine ⟨fun e => hn (by rw [h1, h2, e]), bl_inj h⟩
  · rw [if_pos h1, if_neg h2] at h
    exact absurd (List.cons.inj h).1 (by decide)
  · rw [if_neg h1, if_pos h2] at h
    exact absurd (List.cons.inj h).1 (by decide)
  · rw [if_neg h1, if_neg h2] at h
    rw [if_neg h1, if_neg h2] at hn
    have := (numL_inj (a := []) (b := []) hx.1 hx.2 hy.1 hy.2 (by simpa using (List.cons.inj h).2)).1
    exact absurd (by rw [this]) hn
theorem words_clash : ∀ (ra rb : List ResR), Codes ra → Codes rb → ra.map wordR = rb.map wordR → ra.map normR ≠ rb.map normR → ∃ x ∈ ra, ∃ y ∈ rb, x.2 ≠ y.2 ∧ hashS x.2 = hashS y.2
  | [], [], _, _, _, h => absurd rfl h
  | [], _ :: _, _, _, h, _ => by cases h
  | _ :: _, [], _, _, h, _ => by cases h
  | x :: ra, y :: rb, ca, cb, h, hn => by
    simp only [List.map_cons, List.cons.injEq] at h hn
    by_cases e : normR x = normR y
    · obtain ⟨u, hu, v, hv, h2⟩ := words_clash ra rb (fun r hr => ca r (by simp [hr])) (fun r hr => cb r (by simp [hr])) h.2 (fun e2 => hn (by simp [e, e2]))
      exact ⟨u, by simp [hu], v, by simp [hv], h2⟩
    · exact ⟨x, by simp, y, by simp, wordR_eq (ca x (by simp)) (cb y (by simp)) h.1 e⟩
/-- Whether two blobs of a row have one digest. -/
def Clash (l : List ResR) : Prop := ∃ i k, ∃ (hi : i < l.length) (hk : k < i), l[i].2 ≠ (l[k]'(by omega)).2 ∧ hashS l[i].2 = hashS (l[k]'(by omega)).2
theorem clash_of {ra rb : List ResR} {x y : ResR} (hx : x ∈ ra) (hy : y ∈ rb) (h1 : x.2 ≠ y.2) (h2 : hashS x.2 = hashS y.2) : Clash (ra ++ rb) := by
  obtain ⟨k, hk, rfl⟩ := List.mem_iff_getElem.1 hx
  obtain ⟨j, hj, rfl⟩ := List.mem_iff_getElem.1 hy
  refine ⟨ra.length + j, k, by simp; omega, by omega, ?_⟩
  have e1 : (ra ++ rb)[ra.length + j]'(by simp; omega) = rb[j] := by simp
  have e2 : (ra ++ rb)[k]'(by simp; omega) = ra[k] := by simp [List.getElem_append_left hk]
  rw [e1, e2]
  exact ⟨fun e => h1 e.symm, h2.symm⟩
def rowM (c : ByteArray) (rs : List ResR) : ByteArray := bs (rowN (keyTs c rs))
theorem keyF_rowM (c : ByteArray) (rs : List ResR) : keyF c rs = ofB [rowM c rs] := rfl
theorem rowM_inj {ca cb : ByteArray} {ra rb : List ResR} (h1 : ca.size ≤ 1000) (h2 : cb.size ≤ 1000) (h3 : ra.length ≤ 32) (h4 : rb.length ≤ 32) (h : rowM ca ra = rowM cb rb) : keyTs ca ra = keyTs cb rb := by
  have e : rowN (keyTs ca ra) = rowN (keyTs cb rb) := by
    have := congrArg bl h
    unfold rowM at this
    rwa [bl_bs, bl_bs] at this
  refine rowN_inj (fun t ht => by have := keyTs_wide ca h1 ra t ht; omega) (fun t ht => by have := keyTs_wide cb h2 rb t ht; omega) (by rw [keyTs_len]; omega) (by rw [keyTs_len]; omega) e
/-- Rows are the same just if the makings are, unless two blobs have one digest. -/
theorem rowM_same {ca cb : ByteArray} {ra rb : List ResR} (h1 : ca.size ≤ 1000) (h2 : cb.size ≤ 1000) (h3 : ra.length ≤ 32) (h4 : rb.length ≤ 32) (c1 : Codes ra) (c2 : Codes rb) (hc : ¬ Clash (ra ++ rb)) : rowM ca ra = rowM cb rb ↔ SameM ca cb ra rb := by
  constructor
  · intro h
    have e := rowM_inj h1 h2 h3 h4 h
    unfold keyTs at e
    simp only [List.cons.injEq, true_and] at e
    refine ⟨bl_inj e.1, ?_⟩
    by_cases hn : ra.map normR = rb.map normR
    · exact hn
    · obtain ⟨x, hx, y, hy, e1, e2⟩ := words_clash ra rb c1 c2 e.2 hn
      exact absurd (clash_of hx hy e1 e2) hc
  · intro h
    unfold rowM
    rw [keyTs_same h]
/-- One that is the same has the same row. -/
theorem rowM_of {ca cb : ByteArray} {ra rb : List ResR} (h : SameM ca cb ra rb) : rowM ca ra = rowM cb rb := by
  unfold rowM
  rw [keyTs_same h]
/-- The keys' bytes are the same just if the makings are. -/
theorem keys_same {ca cb : ByteArray} {ra rb : List ResR} {S : Bool} (_hS : S = true ↔ SameM ca cb ra rb) (hr : rowM ca ra = rowM cb rb ↔ S = true) (hof : rowM ca ra ≠ rowM cb rb → ¬ ∀ i, i < 32 → ofB [rowM ca ra] i = ofB [rowM cb rb] i) : (∀ i, i < 32 → keyF ca ra i = keyF cb rb i) ↔ S = true := by
  rw [keyF_rowM, keyF_rowM]
  constructor
  · intro h
    by_cases e : rowM ca ra = rowM cb rb
    · exact hr.1 e
    · exact absurd h (hof e)
  · intro h i _
    rw [hr.2 h]
/-- So many inputs are the same so far. -/
theorem norm_take {ra rb : List ResR} (k : Nat) (h1 : k < ra.length) (h2 : k < rb.length) : (ra.map normR).take (k + 1) = (rb.map normR).take (k + 1) ↔ (ra.map normR).take k = (rb.map normR).take k ∧ normR ra[k] = normR rb[k] := by
  rw [List.take_succ_eq_append_getElem (by simpa using h1), List.take_succ_eq_append_getElem (by simpa using h2), List.getElem_map, List.getElem_map]
  constructor
  · intro h
    have := List.append_inj h (by simp; omega)
    exact ⟨this.1, by simpa using this.2⟩
  · rintro ⟨e1, e2⟩
    rw [e1, e2]
end Go.Proofs.YthglfmacjoecgaaGreatDoor
namespace Go.Proofs.YthglfmacjoecgaaGreatDoor
open Go.RowKit

theorem str_beq (x y : ByteArray) : (x.toList == y.toList) = decide (x = y) := by
  rw [Bool.eq_iff_iff, beq_iff_eq, decide_eq_true_iff]
  exact ⟨fun h => ByteArray.ext (Array.toList_inj.1 (by rw [← Lib.toList_data, ← Lib.toList_data]; exact h)), fun h => by rw [h]⟩
set_option maxRecDepth 100000 in
set_option maxHeartbeats 4000000 in
theorem lrow_any {B : Nat} (code : ByteArray) (hc : code.size ≤ 1000) (rs : List ResR) (hn : rs.length ≤ 32) (hb : ∀ r ∈ rs, r.2.size ≤ 100000) (hcd : Codes rs) (v : Value) (w : World) (hin : ResAt w v rs) (hT : TabsOK B w) (hB : B ≤ w.heap.size) :
    Calls Tryz.prog 26 #[.agg #[.string code, v]] w (Rets (.string (rowM code rs)) (Chg (fun _ => False) w)) := by
  have hlen := hin.len
  obtain ⟨oa, ca, rfl⟩ := hin.form
  have HIN := hid hin
  have HT := hid hT
  have HBB := hid hB
  have HBZ := hid hb
  have HCD := hid hcd
  have HROW := hid (keyTs_row code hc rs hn)
  have HWD := hid (keyTs_wide code hc)
  have HC1 := hid (al_chg w (.cells #[.string code, .slice oa rs.length ca] 60))
  have HA1 := hid (heap_alloc_new' w (.cells #[.string code, .slice oa rs.length ca] 60))
  clear hin hT hB hb hcd
  go_enter Tryz.func26, Tryz.ntmps26
  go_wp2_with fail
  have HS1 : Hid ((w.alloc (.cells #[.string code, .slice oa rs.length ca] 60)).heap.size = w.heap.size + 1) := hid (by simp)
  generalize w.alloc (.cells #[.string code, .slice oa rs.length ca] 60) = w1 at *
  have hown0 := owns_new w1 [.string { data := #[97, 99, 116, 105, 111, 110] }, .string code] 9 1 2 rfl (by unfold maxLen; omega)
  have HOWN0 := hid hown0
  clear hown0
  obtain ⟨d0, hd0⟩ : ∃ d0, d0 = w.heap.size := ⟨_, rfl⟩
  have HD0 := hid hd0
  rw [← hd0] at HA1 HS1 ⊢
  clear hd0
  go_loopw [3, 4] (fun v5 i wr => ∃ (k : Nat) (x : Value), x = v5 ∧ k ≤ rs.length ∧ i = .int .i64 k ∧ wr.ownsRow 0 9 1 x (k + 2) ((keyTs code (rs.take k)).map nmV) ∧ (∀ q, x.ownBlock = some q → d0 + 1 ≤ q) ∧ Chg (fun _ => False) w1 wr) (fun _ i _ => rs.length - (intOf i).toNat)
  case atStart =>
    refine ⟨0, _, rfl, Nat.zero_le _, rfl, ?_, fun q h => ?_, al_chg w1 _⟩
    · have h := HOWN0.out
      rw [HS1.out] at h
      have e : (keyTs code (rs.take 0)).map nmV = [Value.string { data := #[97, 99, 116, 105, 111, 110] }, Value.string code] := by simp [keyTs, nmV, bs_bl]; rfl
      rw [e]
      exact h
    · simp [Value.ownBlock] at h
      have := HS1.out
      omega
  case round =>
    obtain ⟨k, x5, hx5, hk, rfl, hown, hbl, hch⟩ := hrel
    subst hx5
    have HOWN := hid hown
    have HBL := hid hbl
    have HCH := hid hch
    have q1 := cell_of (hch.obj HA1.out (fun h => h)) 1
    simp at q1
    clear hown hbl hch
    by_cases hkn : k < rs.length
    · have hkn' : (k : Int) < rs.length := by omega
      have hcw : Chg (fun _ => False) w wr := HC1.out.trans HCH.out (fun _ _ h => h)
      obtain ⟨bb, oo, hix, e0, e1, hlt⟩ := (HIN.out.chg hcw (fun _ _ h => h)).ix k hkn
      have hcdk := HCD.out _ (List.getElem_mem hkn)
      have hbk := HBZ.out _ (List.getElem_mem hkn)
      have HTK := hid (keyTs_take code rs k hkn)
      have hwd : wordR rs[k] = if rs[k].1 = 0 then 100 :: bl (hashS rs[k].2) else 101 :: numL rs[k].1 := rfl
      obtain ⟨wd, hwd2⟩ : ∃ wd, wd = wordR rs[k] := ⟨_, rfl⟩
      rw [← hwd2] at HTK hwd
      have HTR := hid (HT.out.keep hcw)
      have HBR : Hid (B ≤ wr.heap.size) := hid (Nat.le_trans HBB.out hcw.size)
      have HSZ : Hid (d0 + 1 ≤ wr.heap.size) := hid (by have := HCH.out.size; have := HS1.out; omega)
      clear hwd2 hcw
      generalize rs[k].1 = cd at *
      generalize rs[k].2 = bb2 at *
      have HWD2 := hid hwd
      clear hwd
      have hnz := bs_size (numL cd)
      have hnl := numL_len cd
      have hadd1 : ¬ 9223372036854775807 < 1 + (bs (numL cd)).size := by omega
      have hadd2 : ¬ 9223372036854775807 < (⟨#[101]⟩ : ByteArray).size + (bs (numL cd)).size := hadd1
      have hhz := hashS_size bb2
      have hadd3 : ¬ 9223372036854775807 < 1 + (hashS bb2).size := by omega
      have hadd4 : ¬ 9223372036854775807 < (⟨#[100]⟩ : ByteArray).size + (hashS bb2).size := hadd3
      clear hnz hnl hhz
      have E0 := hid e0
      have HCELL := hid (show ∀ W, Chg (fun _ => False) wr W → W.cell? ⟨bb, oo, none⟩ = some (.int .i64 cd) ∧ W.cell? ⟨d0, 1, none⟩ = some (.slice oa rs.length ca) from fun W hW => ⟨hW.cell e0 (fun h => h), hW.cell q1 (fun h => h)⟩)
      go_upto_region 6 with (first | (go_at_call 28; refine (of_one bb2 hbk wr HTR.out HBR.out).mono ?_; rintro e w3 ⟨rfl, hc3⟩; have HC3 := hid (((Chg.refl _ wr).alloc _).trans hc3 (fun _ _ h => h)); clear hc3) | (guard_target =~ wpList _ _ _ (Oper.mk (some 5) _ _ _ _ _ :: _) _ _; refine wpList_alloc0 rfl 57 rfl (rowB 32 (fun _ => 0)) (alloc37 _) ?_; intro w4 ha4 hs4 hc4; clear hs4) | (guard_target =~ wpList _ _ _ (Oper.mk (none) _ _ _ _ _ :: _) _ _; refine wpList_store0 rfl 57 _ _ rfl w3.heap.size (rowB 32 (fun _ => 0)) (rowB 32 (ofB [bb2])) rfl rfl ha4 (by rw [rowB_size]; exact size37) rfl (rowB_one _ _) ?_; intro w5 hb5 hs5 hc5; clear hs5; have hcv := conv_hash bb2 w5 w3.heap.size hb5; have HC5 := hid ((HC3.out.trans hc4 (fun _ _ h => h)).trans hc5 (fun i hi h => by have := HC3.out.size; omega)); clear hc4 hc5 ha4 hb5))
      obtain ⟨e0', q1'⟩ := HCELL.out w5 HC5.out
      have hown5 := HC5.out.owns HOWN.out (fun _ _ h => h)
      clear e0 e1 q1
      by_cases h0 : cd = 0
      · subst h0
        have HW : Hid (nmV wd = .string ((⟨#[100]⟩ : ByteArray) ++ hashS bb2)) := hid (by
          rw [HWD2.out, if_pos rfl]
          show Value.string (bs ([100] ++ bl (hashS bb2))) = _
          rw [bs_append, bs_bl]; rfl)
        go_wp2_with (guard_target =~ wpList _ _ _ (Oper.mk (some 36) _ _ _ _ _ :: _) _ _; refine wpList_append_new rfl _ _ 22 rfl elStr hown5 rfl #[.string ((⟨#[100]⟩ : ByteArray) ++ hashS bb2)] 1 1 rfl rfl rfl (by unfold maxLen; omega) (by omega) (by decide) ?_; intro g6 cap6 w6 hown6 hch6 hg6)
        go_roundw
        case rel =>
          refine ⟨k + 1, _, rfl, by omega, by go_num, ?_, fun q hq => ?_, (HCH.out.trans HC5.out (fun _ _ h => h)).trans hch6 (fun q hq h => absurd (HBL.out q h) (by have := HS1.out; omega))⟩
          · rw [HTK.out, List.map_append]
            show w6.ownsRow 0 9 1 _ (k + 1 + 2) (_ ++ [nmV wd])
            rw [HW.out, show k + 1 + 2 = k + 2 + 1 by omega]
            exact hown6
          · simp [Value.ownBlock] at hq
            subst hq
            rcases hg6 with h | h
            · exact HBL.out _ h
            · have := HC5.out.size
              have := HSZ.out
              omega
        case measure => simp [intOf]; omega
      · have hne : (cd == 0) = false := by rw [beq_eq_false_iff_ne]; exact h0
        have HW : Hid (nmV wd = .string ((⟨#[101]⟩ : ByteArray) ++ bs (numL cd))) := hid (by
          rw [HWD2.out, if_neg h0]
          show Value.string (bs ([101] ++ numL cd)) = _
          rw [bs_append]; rfl)
        clear hcv
        go_wp2_with (first | (go_at_call 62; refine (num_any cd hcdk.1 hcdk.2 _).mono ?_; rintro e w2 ⟨rfl, hc2⟩; have HC2 := hid (HC5.out.trans hc2 (fun _ _ h => h)); have hown2 := hc2.owns hown5 (fun _ _ h => h); clear hc2 hown5) | (guard_target =~ wpList _ _ _ (Oper.mk (some 47) _ _ _ _ _ :: _) _ _; refine wpList_append_new rfl _ _ 22 rfl elStr hown2 rfl #[.string ((⟨#[101]⟩ : ByteArray) ++ bs (numL cd))] 1 1 rfl rfl rfl (by unfold maxLen; omega) (by omega) (by decide) ?_; intro g6 cap6 w6 hown6 hch6 hg6))
        go_roundw
        case rel =>
          refine ⟨k + 1, _, rfl, by omega, by go_num, ?_, fun q hq => ?_, (HCH.out.trans HC2.out (fun _ _ h => h)).trans hch6 (fun q hq h => absurd (HBL.out q h) (by have := HS1.out; omega))⟩
          · rw [HTK.out, List.map_append]
            show w6.ownsRow 0 9 1 _ (k + 1 + 2) (_ ++ [nmV wd])
            rw [HW.out, show k + 1 + 2 = k + 2 + 1 by omega]
            exact hown6
          · simp [Value.ownBlock] at hq
            subst hq
            rcases hg6 with h | h
            · exact HBL.out _ h
            · have := HC2.out.size
              have := HSZ.out
              omega
        case measure => simp [intOf]; omega
    · obtain rfl : k = rs.length := by omega
      have hown := HOWN.out
      rw [List.take_length] at hown
      have hkl := keyTs_len code rs
      rw [← hkl] at hown
      have hnm : NamesAt wr x5 (keyTs code rs) := NamesAt.of_owns hown (by unfold maxLen; omega) (fun s hs => by have := HWD.out rs s hs; unfold maxLen; omega)
      have hcw : Chg (fun _ => False) w wr := HC1.out.trans HCH.out (fun _ _ h => h)
      have hrow := row_any (keyTs code rs) HROW.out (by omega) x5 wr hnm
      have HRW := hid hrow
      have HCW := hid hcw
      clear hown hkl hnm hcw hrow
      go_wp2_with (go_at_call 63; refine HRW.out.mono ?_; rintro e w9 ⟨rfl, hc9⟩)
      go_ret
      exact ⟨rfl, HCW.out.trans hc9 (fun _ _ h => h)⟩
end Go.Proofs.YthglfmacjoecgaaGreatDoor
