/- Texts of the proof, one behind the other: What needs' answer says, in the laws' words; A slice of results that came in, or was made: its cells, read only. A key's texts, in plain words; oven.Key walked; apiaryref09.Key walked; apiaryref06.digits walked: a number in decimal; apiaryref06.pop walked: how many blobs a step takes, and puts; An append of what lies elsewhere; a row of texts; apiaryref06.step: the rest of a stack, laid anew; an append to it. -/
import Derived.Test.YthglfmacjoecgaaGreatDoorMg13
import Derived.Test.YthglfmacjoecgaaGreatDoorMg11
import Derived.Test.YthglfmacjoecgaaGreatDoorMg12
import Derived.Test.YthglfmacjoecgaaGreatDoorMg08
import Derived.Deep.Upon
namespace Go.Proofs.YthglfmacjoecgaaGreatDoor
open Go.RowKit

/-- What needs' answer says, in the law's words. -/
structure NeedFacts (g : GrR) (i : Nat) (n : List Nm) : Prop where
  rise : ∀ q (h : q < n.length), 0 < q → n[q - 1]'(by omega) < n[q]
  from_ : ∀ s ∈ n, s ∈ insAt g i ∨ ∃ t ∈ insAt g i, s ∈ needsOf g t
  ins : ∀ s ∈ insAt g i, s ∈ n
  self : nameAt g i ∉ n
  le8 : ∀ s ∈ n, s.length ≤ 8
  le20 : n.length ≤ 20
theorem rise_nodup : ∀ {l : List Nm}, Rise l → l.Nodup := fun h => h.imp (fun hlt e => by subst e; exact List.lt_irrefl _ hlt)
theorem Can.needFacts {g : GrR} (hc : Can g) {i : Nat} (hi : i < g.acts.length) : NeedFacts g i (needsR g i) := by
  refine ⟨fun q h hq => ?_, fun s hs => ?_, fun s hs => ?_, fun h => hc.irrefl hi ((hc.mem_needs hi).1 h), fun s hs => name_le hc.w (((hc.mem_needs hi).1 hs).names hc.w hi), ?_⟩
  · exact (List.pairwise_iff_getElem.1 (needsR_rise g i)) (q - 1) q (by omega) h (by omega)
  · rcases ((hc.mem_needs hi).1 hs).front with h | ⟨t, ht, j, hj, h⟩
    · exact .inl h
    · refine .inr ⟨t, ht, ?_⟩
      unfold needsOf
      rw [if_pos (can_iff.2 hc), hj]
      exact (hc.mem_needs (placeOf_some hj).1).2 h
  · exact (hc.mem_needs hi).2 (.base hs)
  · have h1 := sub_length (needsR g i) (namesL g) (rise_nodup (needsR_rise g i)) (fun s hs => ((hc.mem_needs hi).1 hs).names hc.w hi)
    have h2 := hc.w.srcs8
    have h3 := hc.w.acts12
    unfold namesL at h1
    simp at h1
    omega
theorem needsOf_at {g : GrR} (hc : Can g) {i : Nat} (hi : i < g.acts.length) : needsOf g (nameAt g i) = needsR g i := by
  unfold needsOf
  rw [if_pos (can_iff.2 hc), hc.w.place hi]
theorem less_bs {a b : Nm} (h : a < b) : Op.bytesLess (bs a).toList (bs b).toList = true := by
  rw [Lib.toList_data, Lib.toList_data, bs_data, bs_data, bytesLess_eq]
  simpa using h
theorem names_own {w : World} {v : Value} {l : List Nm} (h : w.ownsRow 0 9 1 v l.length (l.map nmV)) (h1 : l.length ≤ 100) (h2 : ∀ s ∈ l, s.length ≤ 1000) : NamesAt w v l :=
  NamesAt.of_owns h (by unfold maxLen; omega) (fun s hs => by have := h2 s hs; unfold maxLen; omega)

theorem needsOf_small {g : GrR} (hc : Can g) (t : Nm) : (needsOf g t).length ≤ 20 ∧ ∀ s ∈ needsOf g t, s.length ≤ 8 := by
  unfold needsOf
  rw [if_pos (can_iff.2 hc)]
  cases hp : placeOf g t with
  | none => simp
  | some i => exact ⟨(hc.needFacts (placeOf_some hp).1).le20, (hc.needFacts (placeOf_some hp).1).le8⟩
end Go.Proofs.YthglfmacjoecgaaGreatDoor
namespace Go.Proofs.YthglfmacjoecgaaGreatDoor
open Go.RowKit

def resL (r : ResR) : List Value := [.int .i64 r.1, .string r.2]
/-- v is a slice of the results rs. -/
structure ResAt (w : World) (v : Value) (rs : List ResR) : Prop where
  rows : RowsAt w v 2 rs.length (fun i => resL (rs.getD i noRes))
  wide : ∀ r ∈ rs, r.2.size ≤ maxLen
theorem ResAt.chg {F : Nat → Prop} {w w' : World} {v : Value} {rs : List ResR} (h : ResAt w v rs) (hc : Chg F w w') (hF : ∀ k, k < w.heap.size → ¬ F k) : ResAt w' v rs := ⟨h.rows.chg hc hF, h.wide⟩
theorem ResAt.len {w0 : World} {v : Value} {rs : List ResR} (h : ResAt w0 v rs) (w : World) (ty : TypeId) : (Builtin.len_ #[58] ty #[v]).run Tryz.prog w = .ok (.int .i64 rs.length) w :=
  RowsAt.len (P := Tryz.prog) h.rows Tryz.underlying58 w ty
theorem ResAt.ix {w : World} {v : Value} {rs : List ResR} (h : ResAt w v rs) (k : Nat) (hk : k < rs.length) :
    ∃ bb oo, (∀ w, (Instr.indexAt 58 v (.int .i64 k)).run Tryz.prog w = .ok (.pointer (some ⟨bb, oo, none⟩)) w) ∧ w.cell? ⟨bb, oo, none⟩ = some (.int .i64 rs[k].1) ∧ w.cell? ⟨bb, oo + 1, none⟩ = some (.string rs[k].2) ∧ bb < w.heap.size := by
  obtain ⟨bb, oo, h1, h2, h3⟩ := RowsAt.ix (P := Tryz.prog) h.rows Tryz.underlying58 (fun w => by kernel_rfl) (by decide) k hk
  have e := getD_of_lt rs noRes k hk
  refine ⟨bb, oo, h1, ?_, ?_, h3⟩
  · have := h2 0 (by decide)
    rw [e] at this
    exact this
  · have := h2 1 (by decide)
    rw [e] at this
    exact this
theorem ResAt.form {w : World} {v : Value} {rs : List ResR} (h : ResAt w v rs) : ∃ oa c, v = .slice oa rs.length c := by
  rcases h.rows.form with ⟨h1, h2⟩ | ⟨a, cap, h1, _⟩
  · exact ⟨none, 0, by rw [h1, h2]⟩
  · exact ⟨some a, cap, h1⟩
theorem ResAt.nil (w : World) : ResAt w (.slice none 0 0) [] := ⟨⟨.inl ⟨rfl, rfl⟩, Nat.zero_le _, fun i hi => absurd hi (Nat.not_lt_zero _)⟩, by simp⟩

def bl (s : ByteArray) : List UInt8 := s.data.toList
theorem bl_bs (l : List UInt8) : bl (bs l) = l := bs_data l
theorem bs_bl (s : ByteArray) : bs (bl s) = s := bs_list s
theorem bl_len (s : ByteArray) : (bl s).length = s.size := by unfold bl; simp
/-- What a key's row says of a result. -/
def wordR (r : ResR) : List UInt8 := if r.1 = 0 then 100 :: bl (hashS r.2) else 101 :: numL r.1
def wAction : List UInt8 := [97, 99, 116, 105, 111, 110]
def keyTs (code : ByteArray) (rs : List ResR) : List (List UInt8) := wAction :: bl code :: rs.map wordR
/-- A key's bytes. -/
def keyF (code : ByteArray) (rs : List ResR) : Nat → UInt8 := ofB [bs (rowN (keyTs code rs))]
theorem wordR_len (r : ResR) : (wordR r).length ≤ 33 := by
  unfold wordR
  split
  · simp [bl_len, hashS_size]
  · have := numL_len r.1
    simp; omega
theorem keyTs_wide (code : ByteArray) (hc : code.size ≤ 1000) (rs : List ResR) : ∀ t ∈ keyTs code rs, t.length ≤ 1000 := by
  intro t ht
  simp only [keyTs, List.mem_cons, List.mem_map] at ht
  rcases ht with rfl | rfl | ⟨r, _, rfl⟩
  · decide
  · rw [bl_len]; exact hc
  · have := wordR_len r; omega
theorem keyTs_len (code : ByteArray) (rs : List ResR) : (keyTs code rs).length = rs.length + 2 := by simp [keyTs]
theorem keyTs_row (code : ByteArray) (hc : code.size ≤ 1000) (rs : List ResR) (hn : rs.length ≤ 32) : (rowN (keyTs code rs)).length ≤ 90000 := by
  have := rowN_len (keyTs code rs) 1000 (keyTs_wide code hc rs)
  rw [keyTs_len] at this
  have h2 : (1000 + 9) * (rs.length + 2) ≤ (1000 + 9) * 34 := Nat.mul_le_mul_left _ (by omega)
  omega
theorem keyTs_take (code : ByteArray) (rs : List ResR) (k : Nat) (h : k < rs.length) : keyTs code (rs.take (k + 1)) = keyTs code (rs.take k) ++ [wordR rs[k]] := by
  unfold keyTs
  rw [List.take_succ_eq_append_getElem h, List.map_append]
  rfl
/-- The codes are numbers of 64 bits. -/
def Codes (rs : List ResR) : Prop := ∀ r ∈ rs, -9223372036854775808 ≤ r.1 ∧ r.1 ≤ 9223372036854775807
theorem conv_hash (x : ByteArray) (W : World) (d : Nat) {T : TypeId} {fz : Nat × Nat} (hb : W.heap[d]? = some (.cells (rowB 32 (ofB [x])) T fz)) :
    (convert 125 9 (.slice (some ⟨d, 0, none⟩) 32 32)).run Tryz.prog W = .ok (.string (hashS x)) W := by
  have hby : Lib.Bytes W d 0 (hashS x) := by
    intro i hi
    rw [Nat.zero_add, rowB_cell hb i (by rw [hashS_size] at hi; exact hi), hashS_get x i hi]
  have := Lib.run_convert_whole (P := Tryz.prog) W 125 5 9 Tryz.underlying125 Tryz.underlying5 Tryz.underlying9 d 0 (hashS x) hby 32
  rwa [hashS_size] at this
end Go.Proofs.YthglfmacjoecgaaGreatDoor
namespace Go.Proofs.YthglfmacjoecgaaGreatDoor
open Go.RowKit

set_option maxRecDepth 100000 in
set_option maxHeartbeats 4000000 in
theorem key_any {B : Nat} (code : ByteArray) (hc : code.size ≤ 1000) (rs : List ResR) (hn : rs.length ≤ 32) (hb : ∀ r ∈ rs, r.2.size ≤ 100000) (hcd : Codes rs) (v : Value) (w : World) (hin : ResAt w v rs) (hT : TabsOK B w) (hB : B ≤ w.heap.size) :
    Calls Tryz.prog 29 #[.string code, v] w (Rets (.agg (rowB 32 (keyF code rs))) (Chg (fun _ => False) w)) := by
  have hlen := hin.len
  have HIN := hid hin
  have HT := hid hT
  have HBB := hid hB
  have HBZ := hid hb
  have HCD := hid hcd
  have HROW := hid (keyTs_row code hc rs hn)
  have HWD := hid (keyTs_wide code hc)
  clear hin hT hB hb hcd
  go_enter Tryz.func29, Tryz.ntmps29
  go_wp2_with (refine wpList_alloc0 rfl 57 rfl (rowB 32 (fun _ => 0)) (alloc37 _) ?_; intro w1 ha1 hs1 hc1)
  have hown0 := owns_new w1 [.string { data := #[97, 99, 116, 105, 111, 110] }, .string code] 9 1 2 rfl (by unfold maxLen; omega)
  have hT1 := HT.out.keep hc1
  have HOWN0 := hid hown0
  have HA1 := hid ha1
  have HS1 := hid hs1
  have HC1 := hid hc1
  clear hown0 ha1 hs1 hc1 hT1
  obtain ⟨d0, hd0⟩ : ∃ d0, d0 = w.heap.size := ⟨_, rfl⟩
  have HD0 := hid hd0
  rw [← hd0] at HA1 HS1 ⊢
  clear hd0
  go_loopw [5, 14] (fun v5 i wr => ∃ (k : Nat) (x : Value), x = v5 ∧ k ≤ rs.length ∧ i = .int .i64 k ∧ wr.ownsRow 0 9 1 x (k + 2) ((keyTs code (rs.take k)).map nmV) ∧ (∀ q, x.ownBlock = some q → d0 + 1 ≤ q) ∧ Chg (fun _ => False) w1 wr) (fun _ i _ => rs.length - (intOf i).toNat)
  case atStart =>
    refine ⟨0, _, rfl, Nat.zero_le _, rfl, ?_, fun q h => ?_, al_chg w1 _⟩
    · have h := HOWN0.out
      rw [HS1.out] at h
      have e : (keyTs code (rs.take 0)).map nmV = [Value.string { data := #[97, 99, 116, 105, 111, 110] }, Value.string code] := by simp [keyTs, nmV, bs_bl]; rfl
      rw [e]
      exact h
    · simp [Value.ownBlock] at h
      have := HS1.out
      omega
  case round =>
    obtain ⟨k, x5, hx5, hk, rfl, hown, hbl, hch⟩ := hrel
    subst hx5
    have HOWN := hid hown
    have HBL := hid hbl
    have HCH := hid hch
    clear hown hbl hch
    by_cases hkn : k < rs.length
    · have hkn' : (k : Int) < rs.length := by omega
      have hcw : Chg (fun _ => False) w wr := HC1.out.trans HCH.out (fun _ _ h => h)
      obtain ⟨bb, oo, hix, e0, e1, hlt⟩ := (HIN.out.chg hcw (fun _ _ h => h)).ix k hkn
      have hcdk := HCD.out _ (List.getElem_mem hkn)
      have hbk := HBZ.out _ (List.getElem_mem hkn)
      have HTK := hid (keyTs_take code rs k hkn)
      have hwd : wordR rs[k] = if rs[k].1 = 0 then 100 :: bl (hashS rs[k].2) else 101 :: numL rs[k].1 := rfl
      obtain ⟨wd, hwd2⟩ : ∃ wd, wd = wordR rs[k] := ⟨_, rfl⟩
      rw [← hwd2] at HTK hwd
      have HTR := hid (HT.out.keep hcw)
      have HBR : Hid (B ≤ wr.heap.size) := hid (Nat.le_trans HBB.out hcw.size)
      have HSZ : Hid (d0 + 1 ≤ wr.heap.size) := hid (by have := HCH.out.size; have := HS1.out; omega)
      clear hwd2 hcw
      generalize rs[k].1 = cd at *
      generalize rs[k].2 = bb2 at *
      have HWD2 := hid hwd
      clear hwd
      have hk7 := heap_alloc_new' wr (.cells #[.int .i64 cd, .string bb2] 47)
      have HK7 := hid hk7
      have hnz := bs_size (numL cd)
      have hnl := numL_len cd
      have hadd1 : ¬ 9223372036854775807 < 1 + (bs (numL cd)).size := by omega
      have hadd2 : ¬ 9223372036854775807 < (⟨#[101]⟩ : ByteArray).size + (bs (numL cd)).size := hadd1
      clear hk7 hnz hnl
      by_cases h0 : cd = 0
      · subst h0
        have hhz := hashS_size bb2
        have hadd3 : ¬ 9223372036854775807 < 1 + (hashS bb2).size := by omega
        have hadd4 : ¬ 9223372036854775807 < (⟨#[100]⟩ : ByteArray).size + (hashS bb2).size := hadd3
        have HW : Hid (nmV wd = .string ((⟨#[100]⟩ : ByteArray) ++ hashS bb2)) := hid (by
          rw [HWD2.out, if_pos rfl]
          show Value.string (bs ([100] ++ bl (hashS bb2))) = _
          rw [bs_append, bs_bl]; rfl)
        clear hhz
        go_wp2_with (first | (go_at_call 62; refine (num_any 0 (by omega) (by omega) _).mono ?_; rintro e w2 ⟨rfl, hc2⟩; have p0 := cell_of (hc2.obj HK7.out (fun h => h)) 0; have p1 := cell_of (hc2.obj HK7.out (fun h => h)) 1; simp at p0 p1; have HC2 := hid (((Chg.refl _ wr).alloc _).trans hc2 (fun _ _ h => h))) | (go_at_call 28; refine (of_one bb2 hbk w2 (HTR.out.keep HC2.out) (Nat.le_trans HBR.out HC2.out.size)).mono ?_; rintro e w3 ⟨rfl, hc3⟩; have HC3 := hid ((HC2.out.alloc _).trans hc3 (fun _ _ h => h))) | (guard_target =~ wpList _ _ _ (Oper.mk (some 9) _ _ _ _ _ :: _) _ _; refine wpList_alloc0 rfl 57 rfl (rowB 32 (fun _ => 0)) (alloc37 _) ?_; intro w4 ha4 hs4 hc4; clear hs4) | (guard_target =~ wpList _ _ _ (Oper.mk (none) _ _ _ _ _ :: _) _ _; refine wpList_store0 rfl 57 _ _ rfl w3.heap.size (rowB 32 (fun _ => 0)) (rowB 32 (ofB [bb2])) rfl rfl ha4 (by rw [rowB_size]; exact size37) rfl (rowB_one _ _) ?_; intro w5 hb5 hs5 hc5; clear hs5; have hcv := conv_hash bb2 w5 w3.heap.size hb5; have HC5 := hid ((HC3.out.trans hc4 (fun _ _ h => h)).trans hc5 (fun i hi h => by have := HC3.out.size; omega)); have hown5 := HC5.out.owns HOWN.out (fun _ _ h => h)) | (guard_target =~ wpList _ _ _ (Oper.mk (some 35) _ _ _ _ _ :: _) _ _; refine wpList_append_new rfl _ _ 22 rfl elStr hown5 rfl #[.string ((⟨#[100]⟩ : ByteArray) ++ hashS bb2)] 1 1 rfl rfl rfl (by unfold maxLen; omega) (by omega) (by decide) ?_; intro g6 cap6 w6 hown6 hch6 hg6))
        go_roundw
        case rel =>
          refine ⟨k + 1, _, rfl, by omega, by go_num, ?_, fun q hq => ?_, (HCH.out.trans HC5.out (fun _ _ h => h)).trans hch6 (fun q hq h => absurd (HBL.out q h) (by have := HS1.out; omega))⟩
          · rw [HTK.out, List.map_append]
            show w6.ownsRow 0 9 1 _ (k + 1 + 2) (_ ++ [nmV wd])
            rw [HW.out, show k + 1 + 2 = k + 2 + 1 by omega]
            exact hown6
          · simp [Value.ownBlock] at hq
            subst hq
            rcases hg6 with h | h
            · exact HBL.out _ h
            · have := HC5.out.size
              have := HSZ.out
              omega
        case measure => simp [intOf]; omega
      · have hne : (cd == 0) = false := by rw [beq_eq_false_iff_ne]; exact h0
        have HW : Hid (nmV wd = .string ((⟨#[101]⟩ : ByteArray) ++ bs (numL cd))) := hid (by
          rw [HWD2.out, if_neg h0]
          show Value.string (bs ([101] ++ numL cd)) = _
          rw [bs_append]; rfl)
        go_wp2_with (first | (go_at_call 62; refine (num_any cd hcdk.1 hcdk.2 _).mono ?_; rintro e w2 ⟨rfl, hc2⟩; have p0 := cell_of (hc2.obj HK7.out (fun h => h)) 0; have p1 := cell_of (hc2.obj HK7.out (fun h => h)) 1; simp at p0 p1; have HC2 := hid (((Chg.refl _ wr).alloc _).trans hc2 (fun _ _ h => h)); have hown2 := HC2.out.owns HOWN.out (fun _ _ h => h)) | (guard_target =~ wpList _ _ _ (Oper.mk (some 35) _ _ _ _ _ :: _) _ _; refine wpList_append_new rfl _ _ 22 rfl elStr hown2 rfl #[.string ((⟨#[101]⟩ : ByteArray) ++ bs (numL cd))] 1 1 rfl rfl rfl (by unfold maxLen; omega) (by omega) (by decide) ?_; intro g6 cap6 w6 hown6 hch6 hg6))
        go_roundw
        case rel =>
          refine ⟨k + 1, _, rfl, by omega, by go_num, ?_, fun q hq => ?_, (HCH.out.trans HC2.out (fun _ _ h => h)).trans hch6 (fun q hq h => absurd (HBL.out q h) (by have := HS1.out; omega))⟩
          · rw [HTK.out, List.map_append]
            show w6.ownsRow 0 9 1 _ (k + 1 + 2) (_ ++ [nmV wd])
            rw [HW.out, show k + 1 + 2 = k + 2 + 1 by omega]
            exact hown6
          · simp [Value.ownBlock] at hq
            subst hq
            rcases hg6 with h | h
            · exact HBL.out _ h
            · have := HC2.out.size
              have := HSZ.out
              omega
        case measure => simp [intOf]; omega
    · obtain rfl : k = rs.length := by omega
      have hown := HOWN.out
      rw [List.take_length] at hown
      have hkl := keyTs_len code rs
      rw [← hkl] at hown
      have hnm : NamesAt wr x5 (keyTs code rs) := NamesAt.of_owns hown (by unfold maxLen; omega) (fun s hs => by have := HWD.out rs s hs; unfold maxLen; omega)
      have hcw : Chg (fun _ => False) w wr := HC1.out.trans HCH.out (fun _ _ h => h)
      have hrow := srow_any (keyTs code rs) HROW.out (by omega) x5 wr hnm (HT.out.keep hcw) (Nat.le_trans HBB.out hcw.size)
      obtain ⟨D, hD⟩ : ∃ D, D = ofB [bs (rowN (keyTs code rs))] := ⟨_, rfl⟩
      rw [← hD] at hrow
      have HRW := hid hrow
      have HDD : Hid (D = keyF code rs) := hid hD
      clear hown hkl hnm hcw hrow hD
      go_wp2_with (first | (go_at_call 67; refine HRW.out.mono ?_; rintro e w9 ⟨rfl, hc9⟩; have hblk := (HCH.out.trans hc9 (fun _ _ h => h)).obj HA1.out (fun h => h)) | (guard_target =~ wpList _ _ _ (Oper.mk (none) _ _ _ _ _ :: _) _ _; refine wpList_store0 rfl 57 _ _ rfl d0 (rowB 32 (fun _ => 0)) (rowB 32 D) rfl rfl hblk (by rw [rowB_size]; exact size37) rfl (rowB_one _ _) ?_; intro w5 hb5 hs5 hc5))
      refine bodyPost_ret (v := .agg (rowB 32 D)) ?_ rfl ⟨by rw [HDD.out], ?_⟩
      · exact results_row Tryz.results29 _ _ d0 rfl _ (run_loadVar_row _ d0 57 57 _ (0, 0) (.array 32 5) hb5 Tryz.underlying57 rfl (by rw [rowB_size]; kernel_rfl))
      · exact ((HC1.out.trans HCH.out (fun _ _ h => h)).trans hc9 (fun _ _ h => h)).trans hc5 (fun i hi h => by have := HD0.out; omega)
end Go.Proofs.YthglfmacjoecgaaGreatDoor
namespace Go.Proofs.YthglfmacjoecgaaGreatDoor
open Go.RowKit

theorem hashS_bytes (x : ByteArray) : bytesS (ofB [x]) = hashS x := rfl

set_option maxRecDepth 100000 in
set_option maxHeartbeats 4000000 in
theorem rkey_any (code : ByteArray) (hc : code.size ≤ 1000) (rs : List ResR) (hn : rs.length ≤ 32) (hb : ∀ r ∈ rs, r.2.size ≤ 100000) (hcd : Codes rs) (v : Value) (w : World) (hin : ResAt w v rs) :
    Calls Tryz.prog 32 #[.string code, v] w (Rets (.agg (rowB 32 (keyF code rs))) (Chg (fun _ => False) w)) := by
  have hlen := hin.len
  have HIN := hid hin
  have HBZ := hid hb
  have HCD := hid hcd
  have HROW := hid (keyTs_row code hc rs hn)
  have HWD := hid (keyTs_wide code hc)
  clear hin hb hcd
  go_enter Tryz.func32, Tryz.ntmps32
  go_wp2_with (refine wpList_alloc0 rfl 57 rfl (rowB 32 (fun _ => 0)) (alloc37 _) ?_; intro w1 ha1 hs1 hc1)
  have hown0 := owns_new w1 [.string { data := #[97, 99, 116, 105, 111, 110] }, .string code] 9 1 2 rfl (by unfold maxLen; omega)
  have HOWN0 := hid hown0
  have HA1 := hid ha1
  have HS1 := hid hs1
  have HC1 := hid hc1
  clear hown0 ha1 hs1 hc1
  obtain ⟨d0, hd0⟩ : ∃ d0, d0 = w.heap.size := ⟨_, rfl⟩
  have HD0 := hid hd0
  rw [← hd0] at HA1 HS1 ⊢
  clear hd0
  go_loopw [5, 6] (fun v5 i wr => ∃ (k : Nat) (x : Value), x = v5 ∧ k ≤ rs.length ∧ i = .int .i64 k ∧ wr.ownsRow 0 9 1 x (k + 2) ((keyTs code (rs.take k)).map nmV) ∧ (∀ q, x.ownBlock = some q → d0 + 1 ≤ q) ∧ Chg (fun _ => False) w1 wr) (fun _ i _ => rs.length - (intOf i).toNat)
  case atStart =>
    refine ⟨0, _, rfl, Nat.zero_le _, rfl, ?_, fun q h => ?_, al_chg w1 _⟩
    · have h := HOWN0.out
      rw [HS1.out] at h
      have e : (keyTs code (rs.take 0)).map nmV = [Value.string { data := #[97, 99, 116, 105, 111, 110] }, Value.string code] := by simp [keyTs, nmV, bs_bl]; rfl
      rw [e]
      exact h
    · simp [Value.ownBlock] at h
      have := HS1.out
      omega
  case round =>
    obtain ⟨k, x5, hx5, hk, rfl, hown, hbl, hch⟩ := hrel
    subst hx5
    have HOWN := hid hown
    have HBL := hid hbl
    have HCH := hid hch
    clear hown hbl hch
    by_cases hkn : k < rs.length
    · have hkn' : (k : Int) < rs.length := by omega
      have hcw : Chg (fun _ => False) w wr := HC1.out.trans HCH.out (fun _ _ h => h)
      obtain ⟨bb, oo, hix, e0, e1, hlt⟩ := (HIN.out.chg hcw (fun _ _ h => h)).ix k hkn
      have hcdk := HCD.out _ (List.getElem_mem hkn)
      have hbk := HBZ.out _ (List.getElem_mem hkn)
      have HTK := hid (keyTs_take code rs k hkn)
      have hwd : wordR rs[k] = if rs[k].1 = 0 then 100 :: bl (hashS rs[k].2) else 101 :: numL rs[k].1 := rfl
      obtain ⟨wd, hwd2⟩ : ∃ wd, wd = wordR rs[k] := ⟨_, rfl⟩
      rw [← hwd2] at HTK hwd
      have HSZ : Hid (d0 + 1 ≤ wr.heap.size) := hid (by have := HCH.out.size; have := HS1.out; omega)
      clear hwd2 hcw
      generalize rs[k].1 = cd at *
      generalize rs[k].2 = bb2 at *
      have HWD2 := hid hwd
      clear hwd
      have hnz := bs_size (numL cd)
      have hnl := numL_len cd
      have hadd1 : ¬ 9223372036854775807 < 1 + (bs (numL cd)).size := by omega
      have hadd2 : ¬ 9223372036854775807 < (⟨#[101]⟩ : ByteArray).size + (bs (numL cd)).size := hadd1
      clear hnz hnl
      by_cases h0 : cd = 0
      · subst h0
        have hhz := hashS_size bb2
        have hadd3 : ¬ 9223372036854775807 < 1 + (hashS bb2).size := by omega
        have hadd4 : ¬ 9223372036854775807 < (⟨#[100]⟩ : ByteArray).size + (hashS bb2).size := hadd3
        have HW : Hid (nmV wd = .string ((⟨#[100]⟩ : ByteArray) ++ hashS bb2)) := hid (by
          rw [HWD2.out, if_pos rfl]
          show Value.string (bs ([100] ++ bl (hashS bb2))) = _
          rw [bs_append, bs_bl]; rfl)
        clear hhz
        go_wp2_with (first | (go_at_call 70; refine (rof_any bb2 hbk _).mono ?_; rintro e w2 ⟨rfl, hc2⟩) | (go_at_call 69; refine (rBytes_any (ofB [bb2]) _).mono ?_; rintro e w3 ⟨rfl, hc3⟩; have HC5 := hid (hc2.trans hc3 (fun _ _ h => h)); have hown5 := HC5.out.owns HOWN.out (fun _ _ h => h); rw [hashS_bytes]) | (guard_target =~ wpList _ _ _ (Oper.mk (some 41) _ _ _ _ _ :: _) _ _; refine wpList_append_new rfl _ _ 22 rfl elStr hown5 rfl #[.string ((⟨#[100]⟩ : ByteArray) ++ hashS bb2)] 1 1 rfl rfl rfl (by unfold maxLen; omega) (by omega) (by decide) ?_; intro g6 cap6 w6 hown6 hch6 hg6))
        go_roundw
        case rel =>
          refine ⟨k + 1, _, rfl, by omega, by go_num, ?_, fun q hq => ?_, (HCH.out.trans HC5.out (fun _ _ h => h)).trans hch6 (fun q hq h => absurd (HBL.out q h) (by have := HS1.out; omega))⟩
          · rw [HTK.out, List.map_append]
            show w6.ownsRow 0 9 1 _ (k + 1 + 2) (_ ++ [nmV wd])
            rw [HW.out, show k + 1 + 2 = k + 2 + 1 by omega]
            exact hown6
          · simp [Value.ownBlock] at hq
            subst hq
            rcases hg6 with h | h
            · exact HBL.out _ h
            · have := HC5.out.size
              have := HSZ.out
              omega
        case measure => simp [intOf]; omega
      · have hne : (cd == 0) = false := by rw [beq_eq_false_iff_ne]; exact h0
        have HW : Hid (nmV wd = .string ((⟨#[101]⟩ : ByteArray) ++ bs (numL cd))) := hid (by
          rw [HWD2.out, if_neg h0]
          show Value.string (bs ([101] ++ numL cd)) = _
          rw [bs_append]; rfl)
        go_wp2_with (first | (go_at_call 68; refine (rnum_any cd hcdk.1 hcdk.2 _).mono ?_; rintro e w2 ⟨rfl, hc2⟩; have HC2 := hid hc2; have hown2 := HC2.out.owns HOWN.out (fun _ _ h => h)) | (guard_target =~ wpList _ _ _ (Oper.mk (some 30) _ _ _ _ _ :: _) _ _; refine wpList_append_new rfl _ _ 22 rfl elStr hown2 rfl #[.string ((⟨#[101]⟩ : ByteArray) ++ bs (numL cd))] 1 1 rfl rfl rfl (by unfold maxLen; omega) (by omega) (by decide) ?_; intro g6 cap6 w6 hown6 hch6 hg6))
        go_roundw
        case rel =>
          refine ⟨k + 1, _, rfl, by omega, by go_num, ?_, fun q hq => ?_, (HCH.out.trans HC2.out (fun _ _ h => h)).trans hch6 (fun q hq h => absurd (HBL.out q h) (by have := HS1.out; omega))⟩
          · rw [HTK.out, List.map_append]
            show w6.ownsRow 0 9 1 _ (k + 1 + 2) (_ ++ [nmV wd])
            rw [HW.out, show k + 1 + 2 = k + 2 + 1 by omega]
            exact hown6
          · simp [Value.ownBlock] at hq
            subst hq
            rcases hg6 with h | h
            · exact HBL.out _ h
            · have := HC2.out.size
              have := HSZ.out
              omega
        case measure => simp [intOf]; omega
    · obtain rfl : k = rs.length := by omega
      have hown := HOWN.out
      rw [List.take_length] at hown
      have hkl := keyTs_len code rs
      rw [← hkl] at hown
      have hnm : NamesAt wr x5 (keyTs code rs) := NamesAt.of_owns hown (by unfold maxLen; omega) (fun s hs => by have := HWD.out rs s hs; unfold maxLen; omega)
      have hcw : Chg (fun _ => False) w wr := HC1.out.trans HCH.out (fun _ _ h => h)
      have hrow := rsrow_any (keyTs code rs) HROW.out (by omega) x5 wr hnm
      obtain ⟨D, hD⟩ : ∃ D, D = ofB [bs (rowN (keyTs code rs))] := ⟨_, rfl⟩
      rw [← hD] at hrow
      have HRW := hid hrow
      have HDD : Hid (D = keyF code rs) := hid hD
      clear hown hkl hnm hcw hrow hD
      go_wp2_with (first | (go_at_call 71; refine HRW.out.mono ?_; rintro e w9 ⟨rfl, hc9⟩; have hblk := (HCH.out.trans hc9 (fun _ _ h => h)).obj HA1.out (fun h => h)) | (guard_target =~ wpList _ _ _ (Oper.mk (none) _ _ _ _ _ :: _) _ _; refine wpList_store0 rfl 57 _ _ rfl d0 (rowB 32 (fun _ => 0)) (rowB 32 D) rfl rfl hblk (by rw [rowB_size]; exact size37) rfl (rowB_one _ _) ?_; intro w5 hb5 hs5 hc5))
      refine bodyPost_ret (v := .agg (rowB 32 D)) ?_ rfl ⟨by rw [HDD.out], ?_⟩
      · exact results_row Tryz.results32 _ _ d0 rfl _ (run_loadVar_row _ d0 57 57 _ (0, 0) (.array 32 5) hb5 Tryz.underlying57 rfl (by rw [rowB_size]; kernel_rfl))
      · exact ((HC1.out.trans HCH.out (fun _ _ h => h)).trans hc9 (fun _ _ h => h)).trans hc5 (fun i hi h => by have := HD0.out; omega)
end Go.Proofs.YthglfmacjoecgaaGreatDoor
namespace Go.Proofs.YthglfmacjoecgaaGreatDoor
open Go.RowKit

def digsB : ByteArray := { data := #[48, 49, 50, 51, 52, 53, 54, 55, 56, 57] }
theorem digs_one : ∀ n : Fin 10, digsB.extract n.1 (n.1 + 1) = ⟨#[UInt8.ofNat (48 + n.1)]⟩ := by decide +kernel
def decS (n : Nat) : ByteArray := ⟨(Lib.decDigits n).toArray⟩
theorem itoaS_dec (n : Nat) : itoaS n = decS n := by
  have : Lib.itoa (n : Int) = Lib.decDigits n := by unfold Lib.itoa; rw [if_neg (by omega)]; rfl
  unfold itoaS decS
  rw [this]
theorem decS_small (n : Nat) (h : n < 10) : decS n = digsB.extract n (n + 1) := by
  rw [digs_one ⟨n, h⟩]
  unfold decS
  rw [Lib.decDigits, dif_pos h]
theorem decS_big (n : Nat) (h : ¬ n < 10) : decS n = decS (n / 10) ++ digsB.extract (n % 10) (n % 10 + 1) := by
  rw [digs_one ⟨n % 10, by omega⟩]
  apply ByteArray.ext
  apply Array.ext'
  rw [ByteArray.data_append, Array.toList_append]
  show Lib.decDigits n = Lib.decDigits (n / 10) ++ [UInt8.ofNat (48 + n % 10)]
  conv => lhs; rw [Lib.decDigits, dif_neg h]
theorem decS_size (n : Nat) : (decS n).size ≤ n + 1 := by rw [← itoaS_dec]; exact itoaS_size n

set_option maxRecDepth 100000 in
set_option maxHeartbeats 2000000 in
theorem rdigits_any : ∀ (n : Nat) (_ : n ≤ 1000) (w : World), Calls Tryz.prog 131 #[.int .i64 n] w (Rets (.string (decS n)) (fun w' => ∃ m, w' = w.drewN m)) := by
  intro n
  induction n using Nat.strongRecOn with
  | ind n ih =>
    intro hn w
    by_cases h : n < 10
    · have h1 : (n : Int) < 10 := by omega
      have h2 : IntKind.i64.wrap ((n : Int) + 1) = (n : Int) + 1 := IntWalk.i64_in _ (by omega)
      have h3 : (n : Int) + 1 ≤ 10 := by omega
      have HD : Hid (digsB.extract n (n + 1) = decS n) := (decS_small n h).symm
      clear ih
      go_enter Tryz.func131, Tryz.ntmps131
      go_wp2_with fail
      go_ret
      exact ⟨congrArg (fun x => Ending.returned (Value.string x)) HD.out, 0, rfl⟩
    · have h1 : ¬ (n : Int) < 10 := by omega
      have d1 : decide ((n : Int) < 10) = false := decide_eq_false h1
      have hih := fun w => ih (n / 10) (by omega) (by omega) w
      obtain ⟨q, hq⟩ : ∃ q, q = n / 10 := ⟨_, rfl⟩
      obtain ⟨r, hr⟩ : ∃ r, r = n % 10 := ⟨_, rfl⟩
      have hr10 : r < 10 := by omega
      have t1 : IntKind.i64.wrap ((n : Int).tdiv 10) = (q : Int) := by rw [IntWalk.i64_quo _ _ (by omega)]; omega
      have t1b : IntKind.i64.wrap ((n : Int) / 10) = (q : Int) := by rw [IntWalk.i64_in _ (by omega)]; omega
      have t2b : (n : Int) % 10 = (r : Int) := by omega
      have t2 : (n : Int).tmod 10 = (r : Int) := by rw [Int.tmod_eq_emod_of_nonneg (by omega)]; omega
      have t3 : IntKind.i64.wrap ((r : Int) + 1) = (r : Int) + 1 := IntWalk.i64_in _ (by omega)
      have t4 : wrap64 ((r : Int) + 1) = (r : Int) + 1 := by unfold wrap64; omega
      have t5 : (r : Int) + 1 ≤ 10 := by omega
      have t6 : (0 : Int) ≤ (r : Int) + 1 := by omega
      have t7 : ((r : Int) + 1).toNat = r + 1 := by omega
      have HD : Hid (decS n = decS q ++ digsB.extract r (r + 1)) := by rw [hq, hr]; exact decS_big n h
      have hsz := decS_size q
      have hz1 : ¬ 9223372036854775807 < (decS q).size + 1 := by omega
      rw [← hq] at hih
      generalize decS q = sq at hih HD hsz hz1
      clear ih hq hr h
      go_enter Tryz.func131, Tryz.ntmps131
      go_wp2_with fail
      go_quiet ((go_at_call 131; refine Calls.quiet_of (hih _)))
      go_wp2_with fail
      go_ret
      exact ⟨congrArg (fun x => Ending.returned (Value.string x)) HD.out.symm, _, rfl⟩
end Go.Proofs.YthglfmacjoecgaaGreatDoor
namespace Go.Proofs.YthglfmacjoecgaaGreatDoor
open Go.RowKit

def popT (c : Int) : Int := if c = 105 ∨ c = 112 then 0 else if c = 99 ∨ c = 61 then 2 else if c = 115 then 2 else if c = 100 then 1 else if c = 120 ∨ c = 106 then 1 else if c = 103 then 0 else 1
def popG (c : Int) : Int := if c = 105 ∨ c = 112 then 1 else if c = 99 ∨ c = 61 then 1 else if c = 115 then 2 else if c = 100 then 2 else if c = 120 ∨ c = 106 then 0 else if c = 103 then 0 else 1

set_option maxHeartbeats 2000000 in
theorem rpop_any (c : Int) (w : World) : Calls Tryz.prog 130 #[.int .u8 c] w (Rets (.tuple #[.int .i64 (popT c), .int .i64 (popG c)]) (fun w' => w = w')) := by
  go_enter Tryz.func130, Tryz.ntmps130
  go_wp2
  all_goals (refine bodyPost_ret (v := .tuple #[.int .i64 (popT c), .int .i64 (popG c)]) ?_ rfl ⟨rfl, rfl⟩)
  all_goals simp_all [results, Tryz.results130, go_sem, popT, popG]
end Go.Proofs.YthglfmacjoecgaaGreatDoor
namespace Go.Proofs.YthglfmacjoecgaaGreatDoor
open Go.RowKit

/-- 'append(s, x ..)' at a row of the call's own, the new elements lying anywhere; there may be none. -/
theorem wpList_append_lies {P : Program} {w : World} {ops : Array Oper} {rest : List Oper} {o : Oper} {a : Act} {Q : Exit → Act → World → Prop} (hgd : o.guard = none) (s x : Operand) (t : TypeId)
    (ho : o.op = .call { callee := .builtin .append, args := #[s, x], argTypes := #[t, t] })
    {e : TypeId} {size bytes : Nat} (T : ElT P t e size bytes)
    {v : Value} {n : Nat} {xs : List Value} (hown : w.ownsRow 0 e size v n xs) (hs : a.eval s = v)
    (ad : Addr) (m c : Nat) (news : List Value) (hx : a.eval x = .slice (some ad) m c) (hl : news.length = m * size) (hnews : ∀ j u, news[j]? = some u → w.cell? (ad.add j) = some u) (h1 : ∀ u ∈ news, u.oneCell' = true)
    (h63 : n + m ≤ maxLen) (hbytes : (n + m) * bytes ≤ 140737488355328)
    (h : ∀ v' w', w'.ownsRow 0 e size v' (n + m) (xs ++ news) → Chg (fun k => v.ownBlock = some k) w w' → (∀ k, v'.ownBlock = some k → v.ownBlock = some k ∨ w.heap.size ≤ k) →
      wpList P ops Q rest (a.put o.dst v') w') : wpList P ops Q (o :: rest) a w :=
  wpList_plain hgd fun _ hK => by
    obtain ⟨i, z, hi, hz, h2, h3, h4, _⟩ := T.info
    obtain ⟨v', w', hr, h2, h3, h4, _⟩ := run_append_chg (P := P) w t o.type e i z size bytes T.ht hi hz h2 h3 h4 T.pos v n xs hown ad m c news hl hnews h1 h63 hbytes
    unfold Oper.wp execOp
    simp only [ho, resolve, invoke, builtin, Sem.run_bind, Sem.run_pure, Result.andThen_ok, List.map_toArray, List.map_cons, List.map_nil, hs, hx, hr]
    exact hK _ _ (h v' w' h2 h3 h4)
theorem add_off (g o j : Nat) : (⟨g, o, none⟩ : Addr).add j = ⟨g, o + j, none⟩ := by unfold Addr.add; split <;> simp_all
theorem own_form {w : World} {e : TypeId} {size n : Nat} {v : Value} {xs : List Value} (h : w.ownsRow 0 e size v n xs) : ∃ oa cap, v = .slice oa n cap := by
  rcases h.2 with ⟨rfl, rfl⟩ | ⟨g, cap, cur, rfl, _⟩
  · exact ⟨none, 0, rfl⟩
  · exact ⟨_, cap, rfl⟩
/-- The first texts of a row. -/
theorem news_take {w : World} {g cap n : Nat} {xs : List ByteArray} (hown : w.ownsRow 0 9 1 (.slice (some ⟨g, 0, none⟩) n cap) n (xs.map Value.string)) (hn : n = xs.length) (i : Nat) :
    ∀ j u, ((xs.take i).map Value.string)[j]? = some u → w.cell? ((⟨g, 0, none⟩ : Addr).add j) = some u := by
  intro j u hj
  rw [add_off, Nat.zero_add]
  have hj2 : j < (xs.take i).length := by have := (List.getElem?_eq_some_iff.1 hj).1; simpa using this
  have hlt : j < xs.length := by rw [List.length_take] at hj2; omega
  rw [hown.cellAt j (by omega), ← hj]
  simp only [List.getElem?_map, List.getElem?_take]
  rw [if_pos (by rw [List.length_take] at hj2; omega)]
end Go.Proofs.YthglfmacjoecgaaGreatDoor
namespace Go.Proofs.YthglfmacjoecgaaGreatDoor
open Go.RowKit

/-- A row of texts of the call's own, with a block. -/
def RowT (w : World) (g cap n : Nat) (l : List ByteArray) : Prop := w.ownsRow 0 9 1 (.slice (some ⟨g, 0, none⟩) n cap) n (l.map Value.string)
theorem RowT.len {w : World} {g cap n : Nat} {l : List ByteArray} (h : RowT w g cap n l) : n = l.length := by
  have := h.1; simpa using this.symm
theorem RowT.cellAt {w : World} {g cap n : Nat} {l : List ByteArray} (h : RowT w g cap n l) (i : Nat) (x : ByteArray) (hx : l[i]? = some x) : w.cell? ⟨g, i, none⟩ = some (.string x) := by
  have hi := (List.getElem?_eq_some_iff.1 hx).1
  have h2 := (World.ownsRow.cellAt h i (by rw [h.len]; omega)).trans (show (l.map Value.string)[i]? = some (.string x) by simp [hx])
  exact h2
theorem RowT.cap {w : World} {g cap n : Nat} {l : List ByteArray} (h : RowT w g cap n l) : n ≤ cap := by
  rcases h.2 with ⟨h, _⟩ | ⟨_, _, _, h, _, _, h2, _⟩
  · cases h
  · cases h; exact h2
theorem RowT.lt {w : World} {g cap n : Nat} {l : List ByteArray} (h : RowT w g cap n l) : g < w.heap.size := by
  rcases h.2 with ⟨h, _⟩ | ⟨_, _, _, h, _, h2, _⟩
  · cases h
  · cases h; exact heap_lt h2
theorem RowT.alloc {w : World} {g cap n : Nat} {l : List ByteArray} (h : RowT w g cap n l) (o : Obj) : RowT (w.alloc o) g cap n l := World.ownsRow.alloc h o
theorem RowT.chg {F : Nat → Prop} {w w' : World} {g cap n : Nat} {l : List ByteArray} (h : RowT w g cap n l) (hc : Chg F w w') (hg : ¬ F g) : RowT w' g cap n l := by
  rcases h.2 with ⟨h, _⟩ | ⟨_, _, cur, e, hb, h2, h3⟩
  · cases h
  · cases e; exact ⟨h.1, .inr ⟨g, _, cur, rfl, hb, hc.obj h2 hg, h3⟩⟩

/-- 'append(empty, l[:m]..)' into a row with a block: a row with a block. -/
theorem wpList_append_rest {w : World} {ops : Array Oper} {rest : List Oper} {o : Oper} {a : Act} {Q : Exit → Act → World → Prop} (hgd : o.guard = none) (s x : Operand)
    (ho : o.op = .call { callee := .builtin .append, args := #[s, x], argTypes := #[22, 22] })
    {g0 : Nat} (hown : RowT w g0 0 0 []) (hs : a.eval s = .slice (some ⟨g0, 0, none⟩) 0 0)
    {g c m n cap : Nat} (hx : a.eval x = .slice (some ⟨g, 0, none⟩) m c) {l r : List ByteArray} (hl : RowT w g cap n l) (hr : l.take m = r) (hm : m = r.length) (hm2 : m ≤ 1000)
    (h : ∀ g1 cap1 w', RowT w' g1 cap1 m r → Chg (fun k => k = g0) w w' → (g1 = g0 ∨ w.heap.size ≤ g1) → wpList Tryz.prog ops Q rest (a.put o.dst (.slice (some ⟨g1, 0, none⟩) m cap1)) w') : wpList Tryz.prog ops Q (o :: rest) a w := by
  by_cases h0 : m = 0
  · subst h0
    refine wpList_plain hgd fun _ hK => ?_
    obtain ⟨i, z, hi, hz, h2, h3, h4, _⟩ := elStrM.info
    have hrun := run_append_nothing (P := Tryz.prog) w 22 22 o.type 9 i elStrM.ht hi (some ⟨g0, 0, none⟩) 0 0 (Nat.le_refl _) (.slice (some ⟨g, 0, none⟩) 0 c) (by rw [h2]; exact Src.ofSlice w elStrM.ht ⟨g, 0, none⟩ 0 c [] (by simp) (by simp) (by simp))
    unfold Oper.wp execOp
    simp only [ho, resolve, invoke, builtin, Sem.run_bind, Sem.run_pure, Result.andThen_ok, List.map_toArray, List.map_cons, List.map_nil, hs, hx, hrun]
    obtain rfl : r = [] := List.eq_nil_of_length_eq_zero hm.symm
    exact hK _ _ (h g0 0 w hown (Chg.refl _ w) (.inl rfl))
  · refine wpList_append_lies hgd s x 22 ho elStrM hown hs ⟨g, 0, none⟩ m c (r.map Value.string) hx (by simp [hm]) (by subst hr; exact news_take (cap := cap) (n := n) hl hl.len m) (by simp [Value.oneCell']) (by unfold maxLen; omega) (by omega) ?_
    intro v' w' h1 h2 h3
    rw [Nat.zero_add] at h1
    obtain ⟨g1, cap1, rfl, _⟩ := owns_some h1 (by omega)
    exact h g1 cap1 w' h1 (h2.mono (fun k _ hk => by simpa [Value.ownBlock, eq_comm] using hk)) (by simpa [Value.ownBlock, eq_comm] using h3 g1 (by simp [Value.ownBlock]))

theorem frev_one (y : ByteArray) (h : y.size = 1) : revS y = y := by
  obtain ⟨x, hx⟩ := Array.size_eq_one_iff.1 (show y.data.size = 1 from h)
  apply ByteArray.ext
  show y.data.reverse = y.data
  rw [hx]
  rfl
theorem frev_append (x y : ByteArray) : revS (x ++ y) = revS y ++ revS x := by
  apply ByteArray.ext
  show (x ++ y).data.reverse = (revS y ++ revS x).data
  rw [ByteArray.data_append, ByteArray.data_append, Array.reverse_append]
  rfl
theorem frev_next (a : ByteArray) (k : Nat) (hk : k < a.size) : revS (a.extract 0 (k + 1)) = a.extract k (k + 1) ++ revS (a.extract 0 k) := by
  have h1 : a.extract 0 k ++ a.extract k (k + 1) = a.extract 0 (k + 1) := by
    rw [ByteArray.extract_append_extract]
    congr 1 <;> omega
  rw [← h1, frev_append, frev_one (a.extract k (k + 1)) (by rw [ByteArray.size_extract]; omega)]
theorem frev_all (a : ByteArray) : revS (a.extract 0 a.size) = revS a := by rw [ByteArray.extract_zero_size]
theorem decS_digs (n : Nat) (h : n ≤ 512) : (decS n).size ≤ 512 := by
  by_cases h10 : n < 10
  · have := decS_size n; omega
  · rw [decS_big n h10, ByteArray.size_append, ByteArray.size_extract]
    have := decS_size (n / 10)
    omega

/-- What a step leaves: a stack of its own, where it goes on. -/
def StepOk (w : World) (l : List ByteArray) (to2 : Int) (e : Ending) (w' : World) : Prop :=
  ∃ g cap, e = .returned (.tuple #[.slice (some ⟨g, 0, none⟩) l.length cap, .int .i64 to2, .int .i64 0]) ∧ RowT w' g cap l.length l ∧ Chg (fun _ => False) w w'

/-- A row laid since w0. -/
structure Fresh (w0 w : World) (g cap n : Nat) (l : List ByteArray) : Prop where
  own : RowT w g cap n l
  chg : Chg (fun k => w0.heap.size ≤ k) w0 w
  ge : w0.heap.size ≤ g
theorem Fresh.cell {w0 w : World} {g cap n : Nat} {l : List ByteArray} (h : Fresh w0 w g cap n l) {p : Addr} {v : Value} (hc : w0.cell? p = some v) (hp : ¬ w0.heap.size ≤ p.block) : w.cell? p = some v := h.chg.cell hc hp
theorem Fresh.move {w0 w w' : World} {g cap n : Nat} {l : List ByteArray} (h : Fresh w0 w g cap n l) (hc : Chg (fun _ => False) w w') : Fresh w0 w' g cap n l :=
  ⟨h.own.chg hc (fun h => h), h.chg.trans hc (fun _ _ h => h.elim), h.ge⟩
theorem Fresh.moveN {w0 w w' : World} {g cap n : Nat} {l : List ByteArray} (h : Fresh w0 w g cap n l) {m : Nat} (hc : w' = w.drewN m) : Fresh w0 w' g cap n l := by
  subst hc; exact h.move ((Chg.refl _ w).drewN m)
theorem fresh_chg {w w' : World} (h : Chg (fun k => w.heap.size ≤ k) w w') : Chg (fun _ => False) w w' := (Chg.refl _ w).trans h (fun i hi h => by omega)
theorem Fresh.ok {w0 w : World} {g cap n : Nat} {l : List ByteArray} (h : Fresh w0 w g cap n l) (to2 : Int) : StepOk w0 l to2 (.returned (.tuple #[.slice (some ⟨g, 0, none⟩) n cap, .int .i64 to2, .int .i64 0])) w := by
  have hl := h.own.len
  subst hl
  exact ⟨g, cap, rfl, h.own, fresh_chg h.chg⟩

theorem wpList_fresh_rest {w : World} {ops : Array Oper} {rest : List Oper} {o : Oper} {a : Act} {Q : Exit → Act → World → Prop} (hgd : o.guard = none) (s x : Operand)
    (ho : o.op = .call { callee := .builtin .append, args := #[s, x], argTypes := #[22, 22] })
    {g c m n cap : Nat} {l r : List ByteArray} (hl : RowT w g cap n l) (hs : a.eval s = .slice (some ⟨w.heap.size, 0, none⟩) 0 0)
    (hx : a.eval x = .slice (some ⟨g, 0, none⟩) m c) (hr : l.take m = r) (hm : m = r.length) (hm2 : m ≤ 1000)
    (h : ∀ g1 cap1 w', Fresh w w' g1 cap1 m r → wpList Tryz.prog ops Q rest (a.put o.dst (.slice (some ⟨g1, 0, none⟩) m cap1)) w') : wpList Tryz.prog ops Q (o :: rest) a (w.alloc (.cells #[] 9)) := by
  refine wpList_append_rest hgd s x ho (owns_emptyM w 9 1) hs hx (hl.alloc _) hr hm hm2 ?_
  intro g1 cap1 w' h1 h2 h3
  refine h g1 cap1 w' ⟨h1, ((Chg.refl _ w).alloc _).trans h2 (fun i _ hi => Nat.le_of_eq hi.symm), ?_⟩
  rcases h3 with h3 | h3
  · omega
  · simp at h3; omega

theorem wpList_fresh_new {w0 w : World} {ops : Array Oper} {rest : List Oper} {o : Oper} {a : Act} {Q : Exit → Act → World → Prop} (hgd : o.guard = none) (s x : Operand)
    (ho : o.op = .call { callee := .builtin .append, args := #[s, x], argTypes := #[22, 22] })
    {g cap n : Nat} {l : List ByteArray} (hf : Fresh w0 w g cap n l) (hn : n ≤ 1000) (hs : a.eval s = .slice (some ⟨g, 0, none⟩) n cap)
    {c : Nat} (y : ByteArray) (hx : a.eval x = .slice (some ⟨w.heap.size, 0, none⟩) 1 c)
    (h : ∀ g1 cap1 w', Fresh w0 w' g1 cap1 (n + 1) (l ++ [y]) → wpList Tryz.prog ops Q rest (a.put o.dst (.slice (some ⟨g1, 0, none⟩) (n + 1) cap1)) w') : wpList Tryz.prog ops Q (o :: rest) a (w.alloc (.cells #[.string y] 9)) := by
  refine wpList_append_new hgd s x 22 ho elStrM hf.own hs _ 1 c hx rfl rfl (by unfold maxLen; omega) (by omega) (by decide) ?_
  intro g1 cap1 w' h1 h2 h3
  have hge : w0.heap.size ≤ g1 := by
    rcases h3 with h3 | h3
    · simp [Value.ownBlock] at h3; have := hf.ge; omega
    · have := hf.chg.size; omega
  refine h g1 cap1 w' ⟨?_, hf.chg.trans h2 (fun i _ hi => ?_), hge⟩
  · unfold RowT; rw [List.map_append]; exact h1
  · simp [Value.ownBlock] at hi; have := hf.ge; omega
end Go.Proofs.YthglfmacjoecgaaGreatDoor
