/- Texts of the proof, one behind the other: What an action more does to a build, in plain words. No program in sight; What needs' answer says, in the laws' words; A slice of results that came in, or was made: its cells, read only. A key's texts, in plain words; oven.Key walked; apiaryref09.Key walked; apiaryref06.digits walked: a number in decimal; apiaryref06.pop walked: how many blobs a step takes, and puts; An append of what lies elsewhere; a row of texts; apiaryref06.step: the rest of a stack, laid anew; an append to it; apiaryref06.step, a theorem a letter (printed by genr.py): c d s = x j g; apiaryref06.step, a theorem a letter (printed by genr.py): p i t k l h r; what is none. -/
import Derived.Test.YthglfmacjoecgaaGreatDoorMx06
import Derived.Test.YthglfmacjoecgaaGreatDoorMx04
import Derived.Test.YthglfmacjoecgaaGreatDoorMx05
import Derived.Test.YthglfmacjoecgaaGreatDoorMx03
import Derived.Deep.Upon
namespace Go.Proofs.YthglfmacjoecgaaGreatDoor
open Go

/-- The build with an action more. -/
def more (g : GrR) (a : ActR) : GrR := ⟨g.srcs, g.acts ++ [a]⟩
section
variable {g : GrR} {a : ActR}
end
end Go.Proofs.YthglfmacjoecgaaGreatDoor
namespace Go.Proofs.YthglfmacjoecgaaGreatDoor
open Go.RowKit

end Go.Proofs.YthglfmacjoecgaaGreatDoor
namespace Go.Proofs.YthglfmacjoecgaaGreatDoor
open Go.RowKit

def resL (r : ResR) : List Value := [.int .i64 r.1, .string r.2]
/-- v is a slice of the results rs. -/
structure ResAt (w : World) (v : Value) (rs : List ResR) : Prop where
  rows : RowsAt w v 2 rs.length (fun i => resL (rs.getD i noRes))
  wide : ∀ r ∈ rs, r.2.size ≤ maxLen
theorem ResAt.chg {F : Nat → Prop} {w w' : World} {v : Value} {rs : List ResR} (h : ResAt w v rs) (hc : Chg F w w') (hF : ∀ k, k < w.heap.size → ¬ F k) : ResAt w' v rs := ⟨h.rows.chg hc hF, h.wide⟩
theorem ResAt.len {w0 : World} {v : Value} {rs : List ResR} (h : ResAt w0 v rs) (w : World) (ty : TypeId) : (Builtin.len_ #[58] ty #[v]).run Tryz.prog w = .ok (.int .i64 rs.length) w :=
  RowsAt.len (P := Tryz.prog) h.rows Tryz.underlying58 w ty
theorem ResAt.ix {w : World} {v : Value} {rs : List ResR} (h : ResAt w v rs) (k : Nat) (hk : k < rs.length) :
    ∃ bb oo, (∀ w, (Instr.indexAt 58 v (.int .i64 k)).run Tryz.prog w = .ok (.pointer (some ⟨bb, oo, none⟩)) w) ∧ w.cell? ⟨bb, oo, none⟩ = some (.int .i64 rs[k].1) ∧ w.cell? ⟨bb, oo + 1, none⟩ = some (.string rs[k].2) ∧ bb < w.heap.size := by
  obtain ⟨bb, oo, h1, h2, h3⟩ := RowsAt.ix (P := Tryz.prog) h.rows Tryz.underlying58 (fun w => by kernel_rfl) (by decide) k hk
  have e := getD_of_lt rs noRes k hk
  refine ⟨bb, oo, h1, ?_, ?_, h3⟩
  · have := h2 0 (by decide)
    rw [e] at this
    exact this
  · have := h2 1 (by decide)
    rw [e] at this
    exact this
theorem ResAt.form {w : World} {v : Value} {rs : List ResR} (h : ResAt w v rs) : ∃ oa c, v = .slice oa rs.length c := by
  rcases h.rows.form with ⟨h1, h2⟩ | ⟨a, cap, h1, _⟩
  · exact ⟨none, 0, by rw [h1, h2]⟩
  · exact ⟨some a, cap, h1⟩
theorem ResAt.nil (w : World) : ResAt w (.slice none 0 0) [] := ⟨⟨.inl ⟨rfl, rfl⟩, Nat.zero_le _, fun i hi => absurd hi (Nat.not_lt_zero _)⟩, by simp⟩

def bl (s : ByteArray) : List UInt8 := s.data.toList
theorem bs_bl (s : ByteArray) : bs (bl s) = s := bs_list s
theorem bl_len (s : ByteArray) : (bl s).length = s.size := by unfold bl; simp
/-- What a key's row says of a result. -/
def wordR (r : ResR) : List UInt8 := if r.1 = 0 then 100 :: bl (hashS r.2) else 101 :: numL r.1
def wAction : List UInt8 := [97, 99, 116, 105, 111, 110]
def keyTs (code : ByteArray) (rs : List ResR) : List (List UInt8) := wAction :: bl code :: rs.map wordR
/-- A key's bytes. -/
def keyF (code : ByteArray) (rs : List ResR) : Nat → UInt8 := ofB [bs (rowN (keyTs code rs))]
theorem wordR_len (r : ResR) : (wordR r).length ≤ 33 := by
  unfold wordR
  split
  · simp [bl_len, hashS_size]
  · have := numL_len r.1
    simp; omega
theorem keyTs_wide (code : ByteArray) (hc : code.size ≤ 1000) (rs : List ResR) : ∀ t ∈ keyTs code rs, t.length ≤ 1000 := by
  intro t ht
  simp only [keyTs, List.mem_cons, List.mem_map] at ht
  rcases ht with rfl | rfl | ⟨r, _, rfl⟩
  · decide
  · rw [bl_len]; exact hc
  · have := wordR_len r; omega
theorem keyTs_len (code : ByteArray) (rs : List ResR) : (keyTs code rs).length = rs.length + 2 := by simp [keyTs]
theorem keyTs_row (code : ByteArray) (hc : code.size ≤ 1000) (rs : List ResR) (hn : rs.length ≤ 32) : (rowN (keyTs code rs)).length ≤ 90000 := by
  have := rowN_len (keyTs code rs) 1000 (keyTs_wide code hc rs)
  rw [keyTs_len] at this
  have h2 : (1000 + 9) * (rs.length + 2) ≤ (1000 + 9) * 34 := Nat.mul_le_mul_left _ (by omega)
  omega
theorem keyTs_take (code : ByteArray) (rs : List ResR) (k : Nat) (h : k < rs.length) : keyTs code (rs.take (k + 1)) = keyTs code (rs.take k) ++ [wordR rs[k]] := by
  unfold keyTs
  rw [List.take_succ_eq_append_getElem h, List.map_append]
  rfl
/-- The codes are numbers of 64 bits. -/
def Codes (rs : List ResR) : Prop := ∀ r ∈ rs, -9223372036854775808 ≤ r.1 ∧ r.1 ≤ 9223372036854775807
theorem conv_hash (x : ByteArray) (W : World) (d : Nat) {T : TypeId} {fz : Nat × Nat} (hb : W.heap[d]? = some (.cells (rowB 32 (ofB [x])) T fz)) :
    (convert 125 9 (.slice (some ⟨d, 0, none⟩) 32 32)).run Tryz.prog W = .ok (.string (hashS x)) W := by
  have hby : Lib.Bytes W d 0 (hashS x) := by
    intro i hi
    rw [Nat.zero_add, rowB_cell hb i (by rw [hashS_size] at hi; exact hi), hashS_get x i hi]
  have := Lib.run_convert_whole (P := Tryz.prog) W 125 5 9 Tryz.underlying125 Tryz.underlying5 Tryz.underlying9 d 0 (hashS x) hby 32
  rwa [hashS_size] at this
end Go.Proofs.YthglfmacjoecgaaGreatDoor
namespace Go.Proofs.YthglfmacjoecgaaGreatDoor
open Go.RowKit

set_option maxRecDepth 100000 in
set_option maxHeartbeats 4000000 in
theorem key_any {B : Nat} (code : ByteArray) (hc : code.size ≤ 1000) (rs : List ResR) (hn : rs.length ≤ 32) (hb : ∀ r ∈ rs, r.2.size ≤ 100000) (hcd : Codes rs) (v : Value) (w : World) (hin : ResAt w v rs) (hT : TabsOK B w) (hB : B ≤ w.heap.size) :
    Calls Tryz.prog 29 #[.string code, v] w (Rets (.agg (rowB 32 (keyF code rs))) (Chg (fun _ => False) w)) := by
  have hlen := hin.len
  have HIN := hid hin
  have HT := hid hT
  have HBB := hid hB
  have HBZ := hid hb
  have HCD := hid hcd
  have HROW := hid (keyTs_row code hc rs hn)
  have HWD := hid (keyTs_wide code hc)
  clear hin hT hB hb hcd
  go_enter Tryz.func29, Tryz.ntmps29
  go_wp2_with (refine wpList_alloc0 rfl 57 rfl (rowB 32 (fun _ => 0)) (alloc37 _) ?_; intro w1 ha1 hs1 hc1)
  have hown0 := owns_new w1 [.string { data := #[97, 99, 116, 105, 111, 110] }, .string code] 9 1 2 rfl (by unfold maxLen; omega)
  have hT1 := HT.out.keep hc1
  have HOWN0 := hid hown0
  have HA1 := hid ha1
  have HS1 := hid hs1
  have HC1 := hid hc1
  clear hown0 ha1 hs1 hc1 hT1
  obtain ⟨d0, hd0⟩ : ∃ d0, d0 = w.heap.size := ⟨_, rfl⟩
  have HD0 := hid hd0
  rw [← hd0] at HA1 HS1 ⊢
  clear hd0
  go_loopw [5, 14] (fun v5 i wr => ∃ (k : Nat) (x : Value), x = v5 ∧ k ≤ rs.length ∧ i = .int .i64 k ∧ wr.ownsRow 0 9 1 x (k + 2) ((keyTs code (rs.take k)).map nmV) ∧ (∀ q, x.ownBlock = some q → d0 + 1 ≤ q) ∧ Chg (fun _ => False) w1 wr) (fun _ i _ => rs.length - (intOf i).toNat)
  case atStart =>
    refine ⟨0, _, rfl, Nat.zero_le _, rfl, ?_, fun q h => ?_, al_chg w1 _⟩
    · have h := HOWN0.out
      rw [HS1.out] at h
      have e : (keyTs code (rs.take 0)).map nmV = [Value.string { data := #[97, 99, 116, 105, 111, 110] }, Value.string code] := by simp [keyTs, nmV, bs_bl]; rfl
      rw [e]
      exact h
    · simp [Value.ownBlock] at h
      have := HS1.out
      omega
  case round =>
    obtain ⟨k, x5, hx5, hk, rfl, hown, hbl, hch⟩ := hrel
    subst hx5
    have HOWN := hid hown
    have HBL := hid hbl
    have HCH := hid hch
    clear hown hbl hch
    by_cases hkn : k < rs.length
    · have hkn' : (k : Int) < rs.length := by omega
      have hcw : Chg (fun _ => False) w wr := HC1.out.trans HCH.out (fun _ _ h => h)
      obtain ⟨bb, oo, hix, e0, e1, hlt⟩ := (HIN.out.chg hcw (fun _ _ h => h)).ix k hkn
      have hcdk := HCD.out _ (List.getElem_mem hkn)
      have hbk := HBZ.out _ (List.getElem_mem hkn)
      have HTK := hid (keyTs_take code rs k hkn)
      have hwd : wordR rs[k] = if rs[k].1 = 0 then 100 :: bl (hashS rs[k].2) else 101 :: numL rs[k].1 := rfl
      obtain ⟨wd, hwd2⟩ : ∃ wd, wd = wordR rs[k] := ⟨_, rfl⟩
      rw [← hwd2] at HTK hwd
      have HTR := hid (HT.out.keep hcw)
      have HBR : Hid (B ≤ wr.heap.size) := hid (Nat.le_trans HBB.out hcw.size)
      have HSZ : Hid (d0 + 1 ≤ wr.heap.size) := hid (by have := HCH.out.size; have := HS1.out; omega)
      clear hwd2 hcw
      generalize rs[k].1 = cd at *
      generalize rs[k].2 = bb2 at *
      have HWD2 := hid hwd
      clear hwd
      have hk7 := heap_alloc_new' wr (.cells #[.int .i64 cd, .string bb2] 47)
      have HK7 := hid hk7
      have hnz := bs_size (numL cd)
      have hnl := numL_len cd
      have hadd1 : ¬ 9223372036854775807 < 1 + (bs (numL cd)).size := by omega
      have hadd2 : ¬ 9223372036854775807 < (⟨#[101]⟩ : ByteArray).size + (bs (numL cd)).size := hadd1
      clear hk7 hnz hnl
      by_cases h0 : cd = 0
      · subst h0
        have hhz := hashS_size bb2
        have hadd3 : ¬ 9223372036854775807 < 1 + (hashS bb2).size := by omega
        have hadd4 : ¬ 9223372036854775807 < (⟨#[100]⟩ : ByteArray).size + (hashS bb2).size := hadd3
        have HW : Hid (nmV wd = .string ((⟨#[100]⟩ : ByteArray) ++ hashS bb2)) := hid (by
          rw [HWD2.out, if_pos rfl]
          show Value.string (bs ([100] ++ bl (hashS bb2))) = _
          rw [bs_append, bs_bl]; rfl)
        clear hhz
        go_wp2_with (first | (go_at_call 62; refine (num_any 0 (by omega) (by omega) _).mono ?_; rintro e w2 ⟨rfl, hc2⟩; have p0 := cell_of (hc2.obj HK7.out (fun h => h)) 0; have p1 := cell_of (hc2.obj HK7.out (fun h => h)) 1; simp at p0 p1; have HC2 := hid (((Chg.refl _ wr).alloc _).trans hc2 (fun _ _ h => h))) | (go_at_call 28; refine (of_one bb2 hbk w2 (HTR.out.keep HC2.out) (Nat.le_trans HBR.out HC2.out.size)).mono ?_; rintro e w3 ⟨rfl, hc3⟩; have HC3 := hid ((HC2.out.alloc _).trans hc3 (fun _ _ h => h))) | (guard_target =~ wpList _ _ _ (Oper.mk (some 9) _ _ _ _ _ :: _) _ _; refine wpList_alloc0 rfl 57 rfl (rowB 32 (fun _ => 0)) (alloc37 _) ?_; intro w4 ha4 hs4 hc4; clear hs4) | (guard_target =~ wpList _ _ _ (Oper.mk (none) _ _ _ _ _ :: _) _ _; refine wpList_store0 rfl 57 _ _ rfl w3.heap.size (rowB 32 (fun _ => 0)) (rowB 32 (ofB [bb2])) rfl rfl ha4 (by rw [rowB_size]; exact size37) rfl (rowB_one _ _) ?_; intro w5 hb5 hs5 hc5; clear hs5; have hcv := conv_hash bb2 w5 w3.heap.size hb5; have HC5 := hid ((HC3.out.trans hc4 (fun _ _ h => h)).trans hc5 (fun i hi h => by have := HC3.out.size; omega)); have hown5 := HC5.out.owns HOWN.out (fun _ _ h => h)) | (guard_target =~ wpList _ _ _ (Oper.mk (some 35) _ _ _ _ _ :: _) _ _; refine wpList_append_new rfl _ _ 22 rfl elStr hown5 rfl #[.string ((⟨#[100]⟩ : ByteArray) ++ hashS bb2)] 1 1 rfl rfl rfl (by unfold maxLen; omega) (by omega) (by decide) ?_; intro g6 cap6 w6 hown6 hch6 hg6))
        go_roundw
        case rel =>
          refine ⟨k + 1, _, rfl, by omega, by go_num, ?_, fun q hq => ?_, (HCH.out.trans HC5.out (fun _ _ h => h)).trans hch6 (fun q hq h => absurd (HBL.out q h) (by have := HS1.out; omega))⟩
          · rw [HTK.out, List.map_append]
            show w6.ownsRow 0 9 1 _ (k + 1 + 2) (_ ++ [nmV wd])
            rw [HW.out, show k + 1 + 2 = k + 2 + 1 by omega]
            exact hown6
          · simp [Value.ownBlock] at hq
            subst hq
            rcases hg6 with h | h
            · exact HBL.out _ h
            · have := HC5.out.size
              have := HSZ.out
              omega
        case measure => simp [intOf]; omega
      · have hne : (cd == 0) = false := by rw [beq_eq_false_iff_ne]; exact h0
        have HW : Hid (nmV wd = .string ((⟨#[101]⟩ : ByteArray) ++ bs (numL cd))) := hid (by
          rw [HWD2.out, if_neg h0]
          show Value.string (bs ([101] ++ numL cd)) = _
          rw [bs_append]; rfl)
        go_wp2_with (first | (go_at_call 62; refine (num_any cd hcdk.1 hcdk.2 _).mono ?_; rintro e w2 ⟨rfl, hc2⟩; have p0 := cell_of (hc2.obj HK7.out (fun h => h)) 0; have p1 := cell_of (hc2.obj HK7.out (fun h => h)) 1; simp at p0 p1; have HC2 := hid (((Chg.refl _ wr).alloc _).trans hc2 (fun _ _ h => h)); have hown2 := HC2.out.owns HOWN.out (fun _ _ h => h)) | (guard_target =~ wpList _ _ _ (Oper.mk (some 35) _ _ _ _ _ :: _) _ _; refine wpList_append_new rfl _ _ 22 rfl elStr hown2 rfl #[.string ((⟨#[101]⟩ : ByteArray) ++ bs (numL cd))] 1 1 rfl rfl rfl (by unfold maxLen; omega) (by omega) (by decide) ?_; intro g6 cap6 w6 hown6 hch6 hg6))
        go_roundw
        case rel =>
          refine ⟨k + 1, _, rfl, by omega, by go_num, ?_, fun q hq => ?_, (HCH.out.trans HC2.out (fun _ _ h => h)).trans hch6 (fun q hq h => absurd (HBL.out q h) (by have := HS1.out; omega))⟩
          · rw [HTK.out, List.map_append]
            show w6.ownsRow 0 9 1 _ (k + 1 + 2) (_ ++ [nmV wd])
            rw [HW.out, show k + 1 + 2 = k + 2 + 1 by omega]
            exact hown6
          · simp [Value.ownBlock] at hq
            subst hq
            rcases hg6 with h | h
            · exact HBL.out _ h
            · have := HC2.out.size
              have := HSZ.out
              omega
        case measure => simp [intOf]; omega
    · obtain rfl : k = rs.length := by omega
      have hown := HOWN.out
      rw [List.take_length] at hown
      have hkl := keyTs_len code rs
      rw [← hkl] at hown
      have hnm : NamesAt wr x5 (keyTs code rs) := NamesAt.of_owns hown (by unfold maxLen; omega) (fun s hs => by have := HWD.out rs s hs; unfold maxLen; omega)
      have hcw : Chg (fun _ => False) w wr := HC1.out.trans HCH.out (fun _ _ h => h)
      have hrow := srow_any (keyTs code rs) HROW.out (by omega) x5 wr hnm (HT.out.keep hcw) (Nat.le_trans HBB.out hcw.size)
      obtain ⟨D, hD⟩ : ∃ D, D = ofB [bs (rowN (keyTs code rs))] := ⟨_, rfl⟩
      rw [← hD] at hrow
      have HRW := hid hrow
      have HDD : Hid (D = keyF code rs) := hid hD
      clear hown hkl hnm hcw hrow hD
      go_wp2_with (first | (go_at_call 67; refine HRW.out.mono ?_; rintro e w9 ⟨rfl, hc9⟩; have hblk := (HCH.out.trans hc9 (fun _ _ h => h)).obj HA1.out (fun h => h)) | (guard_target =~ wpList _ _ _ (Oper.mk (none) _ _ _ _ _ :: _) _ _; refine wpList_store0 rfl 57 _ _ rfl d0 (rowB 32 (fun _ => 0)) (rowB 32 D) rfl rfl hblk (by rw [rowB_size]; exact size37) rfl (rowB_one _ _) ?_; intro w5 hb5 hs5 hc5))
      refine bodyPost_ret (v := .agg (rowB 32 D)) ?_ rfl ⟨by rw [HDD.out], ?_⟩
      · exact results_row Tryz.results29 _ _ d0 rfl _ (run_loadVar_row _ d0 57 57 _ (0, 0) (.array 32 5) hb5 Tryz.underlying57 rfl (by rw [rowB_size]; kernel_rfl))
      · exact ((HC1.out.trans HCH.out (fun _ _ h => h)).trans hc9 (fun _ _ h => h)).trans hc5 (fun i hi h => by have := HD0.out; omega)
end Go.Proofs.YthglfmacjoecgaaGreatDoor
namespace Go.Proofs.YthglfmacjoecgaaGreatDoor
open Go.RowKit

theorem hashS_bytes (x : ByteArray) : bytesS (ofB [x]) = hashS x := rfl

set_option maxRecDepth 100000 in
set_option maxHeartbeats 4000000 in
theorem rkey_any (code : ByteArray) (hc : code.size ≤ 1000) (rs : List ResR) (hn : rs.length ≤ 32) (hb : ∀ r ∈ rs, r.2.size ≤ 100000) (hcd : Codes rs) (v : Value) (w : World) (hin : ResAt w v rs) :
    Calls Tryz.prog 32 #[.string code, v] w (Rets (.agg (rowB 32 (keyF code rs))) (Chg (fun _ => False) w)) := by
  have hlen := hin.len
  have HIN := hid hin
  have HBZ := hid hb
  have HCD := hid hcd
  have HROW := hid (keyTs_row code hc rs hn)
  have HWD := hid (keyTs_wide code hc)
  clear hin hb hcd
  go_enter Tryz.func32, Tryz.ntmps32
  go_wp2_with (refine wpList_alloc0 rfl 57 rfl (rowB 32 (fun _ => 0)) (alloc37 _) ?_; intro w1 ha1 hs1 hc1)
  have hown0 := owns_new w1 [.string { data := #[97, 99, 116, 105, 111, 110] }, .string code] 9 1 2 rfl (by unfold maxLen; omega)
  have HOWN0 := hid hown0
  have HA1 := hid ha1
  have HS1 := hid hs1
  have HC1 := hid hc1
  clear hown0 ha1 hs1 hc1
  obtain ⟨d0, hd0⟩ : ∃ d0, d0 = w.heap.size := ⟨_, rfl⟩
  have HD0 := hid hd0
  rw [← hd0] at HA1 HS1 ⊢
  clear hd0
  go_loopw [5, 6] (fun v5 i wr => ∃ (k : Nat) (x : Value), x = v5 ∧ k ≤ rs.length ∧ i = .int .i64 k ∧ wr.ownsRow 0 9 1 x (k + 2) ((keyTs code (rs.take k)).map nmV) ∧ (∀ q, x.ownBlock = some q → d0 + 1 ≤ q) ∧ Chg (fun _ => False) w1 wr) (fun _ i _ => rs.length - (intOf i).toNat)
  case atStart =>
    refine ⟨0, _, rfl, Nat.zero_le _, rfl, ?_, fun q h => ?_, al_chg w1 _⟩
    · have h := HOWN0.out
      rw [HS1.out] at h
      have e : (keyTs code (rs.take 0)).map nmV = [Value.string { data := #[97, 99, 116, 105, 111, 110] }, Value.string code] := by simp [keyTs, nmV, bs_bl]; rfl
      rw [e]
      exact h
    · simp [Value.ownBlock] at h
      have := HS1.out
      omega
  case round =>
    obtain ⟨k, x5, hx5, hk, rfl, hown, hbl, hch⟩ := hrel
    subst hx5
    have HOWN := hid hown
    have HBL := hid hbl
    have HCH := hid hch
    clear hown hbl hch
    by_cases hkn : k < rs.length
    · have hkn' : (k : Int) < rs.length := by omega
      have hcw : Chg (fun _ => False) w wr := HC1.out.trans HCH.out (fun _ _ h => h)
      obtain ⟨bb, oo, hix, e0, e1, hlt⟩ := (HIN.out.chg hcw (fun _ _ h => h)).ix k hkn
      have hcdk := HCD.out _ (List.getElem_mem hkn)
      have hbk := HBZ.out _ (List.getElem_mem hkn)
      have HTK := hid (keyTs_take code rs k hkn)
      have hwd : wordR rs[k] = if rs[k].1 = 0 then 100 :: bl (hashS rs[k].2) else 101 :: numL rs[k].1 := rfl
      obtain ⟨wd, hwd2⟩ : ∃ wd, wd = wordR rs[k] := ⟨_, rfl⟩
      rw [← hwd2] at HTK hwd
      have HSZ : Hid (d0 + 1 ≤ wr.heap.size) := hid (by have := HCH.out.size; have := HS1.out; omega)
      clear hwd2 hcw
      generalize rs[k].1 = cd at *
      generalize rs[k].2 = bb2 at *
      have HWD2 := hid hwd
      clear hwd
      have hnz := bs_size (numL cd)
      have hnl := numL_len cd
      have hadd1 : ¬ 9223372036854775807 < 1 + (bs (numL cd)).size := by omega
      have hadd2 : ¬ 9223372036854775807 < (⟨#[101]⟩ : ByteArray).size + (bs (numL cd)).size := hadd1
      clear hnz hnl
      by_cases h0 : cd = 0
      · subst h0
        have hhz := hashS_size bb2
        have hadd3 : ¬ 9223372036854775807 < 1 + (hashS bb2).size := by omega
        have hadd4 : ¬ 9223372036854775807 < (⟨#[100]⟩ : ByteArray).size + (hashS bb2).size := hadd3
        have HW : Hid (nmV wd = .string ((⟨#[100]⟩ : ByteArray) ++ hashS bb2)) := hid (by
          rw [HWD2.out, if_pos rfl]
          show Value.string (bs ([100] ++ bl (hashS bb2))) = _
          rw [bs_append, bs_bl]; rfl)
        clear hhz
        go_wp2_with (first | (go_at_call 70; refine (rof_any bb2 hbk _).mono ?_; rintro e w2 ⟨rfl, hc2⟩) | (go_at_call 69; refine (rBytes_any (ofB [bb2]) _).mono ?_; rintro e w3 ⟨rfl, hc3⟩; have HC5 := hid (hc2.trans hc3 (fun _ _ h => h)); have hown5 := HC5.out.owns HOWN.out (fun _ _ h => h); rw [hashS_bytes]) | (guard_target =~ wpList _ _ _ (Oper.mk (some 41) _ _ _ _ _ :: _) _ _; refine wpList_append_new rfl _ _ 22 rfl elStr hown5 rfl #[.string ((⟨#[100]⟩ : ByteArray) ++ hashS bb2)] 1 1 rfl rfl rfl (by unfold maxLen; omega) (by omega) (by decide) ?_; intro g6 cap6 w6 hown6 hch6 hg6))
        go_roundw
        case rel =>
          refine ⟨k + 1, _, rfl, by omega, by go_num, ?_, fun q hq => ?_, (HCH.out.trans HC5.out (fun _ _ h => h)).trans hch6 (fun q hq h => absurd (HBL.out q h) (by have := HS1.out; omega))⟩
          · rw [HTK.out, List.map_append]
            show w6.ownsRow 0 9 1 _ (k + 1 + 2) (_ ++ [nmV wd])
            rw [HW.out, show k + 1 + 2 = k + 2 + 1 by omega]
            exact hown6
          · simp [Value.ownBlock] at hq
            subst hq
            rcases hg6 with h | h
            · exact HBL.out _ h
            · have := HC5.out.size
              have := HSZ.out
              omega
        case measure => simp [intOf]; omega
      · have hne : (cd == 0) = false := by rw [beq_eq_false_iff_ne]; exact h0
        have HW : Hid (nmV wd = .string ((⟨#[101]⟩ : ByteArray) ++ bs (numL cd))) := hid (by
          rw [HWD2.out, if_neg h0]
          show Value.string (bs ([101] ++ numL cd)) = _
          rw [bs_append]; rfl)
        go_wp2_with (first | (go_at_call 68; refine (rnum_any cd hcdk.1 hcdk.2 _).mono ?_; rintro e w2 ⟨rfl, hc2⟩; have HC2 := hid hc2; have hown2 := HC2.out.owns HOWN.out (fun _ _ h => h)) | (guard_target =~ wpList _ _ _ (Oper.mk (some 30) _ _ _ _ _ :: _) _ _; refine wpList_append_new rfl _ _ 22 rfl elStr hown2 rfl #[.string ((⟨#[101]⟩ : ByteArray) ++ bs (numL cd))] 1 1 rfl rfl rfl (by unfold maxLen; omega) (by omega) (by decide) ?_; intro g6 cap6 w6 hown6 hch6 hg6))
        go_roundw
        case rel =>
          refine ⟨k + 1, _, rfl, by omega, by go_num, ?_, fun q hq => ?_, (HCH.out.trans HC2.out (fun _ _ h => h)).trans hch6 (fun q hq h => absurd (HBL.out q h) (by have := HS1.out; omega))⟩
          · rw [HTK.out, List.map_append]
            show w6.ownsRow 0 9 1 _ (k + 1 + 2) (_ ++ [nmV wd])
            rw [HW.out, show k + 1 + 2 = k + 2 + 1 by omega]
            exact hown6
          · simp [Value.ownBlock] at hq
            subst hq
            rcases hg6 with h | h
            · exact HBL.out _ h
            · have := HC2.out.size
              have := HSZ.out
              omega
        case measure => simp [intOf]; omega
    · obtain rfl : k = rs.length := by omega
      have hown := HOWN.out
      rw [List.take_length] at hown
      have hkl := keyTs_len code rs
      rw [← hkl] at hown
      have hnm : NamesAt wr x5 (keyTs code rs) := NamesAt.of_owns hown (by unfold maxLen; omega) (fun s hs => by have := HWD.out rs s hs; unfold maxLen; omega)
      have hcw : Chg (fun _ => False) w wr := HC1.out.trans HCH.out (fun _ _ h => h)
      have hrow := rsrow_any (keyTs code rs) HROW.out (by omega) x5 wr hnm
      obtain ⟨D, hD⟩ : ∃ D, D = ofB [bs (rowN (keyTs code rs))] := ⟨_, rfl⟩
      rw [← hD] at hrow
      have HRW := hid hrow
      have HDD : Hid (D = keyF code rs) := hid hD
      clear hown hkl hnm hcw hrow hD
      go_wp2_with (first | (go_at_call 71; refine HRW.out.mono ?_; rintro e w9 ⟨rfl, hc9⟩; have hblk := (HCH.out.trans hc9 (fun _ _ h => h)).obj HA1.out (fun h => h)) | (guard_target =~ wpList _ _ _ (Oper.mk (none) _ _ _ _ _ :: _) _ _; refine wpList_store0 rfl 57 _ _ rfl d0 (rowB 32 (fun _ => 0)) (rowB 32 D) rfl rfl hblk (by rw [rowB_size]; exact size37) rfl (rowB_one _ _) ?_; intro w5 hb5 hs5 hc5))
      refine bodyPost_ret (v := .agg (rowB 32 D)) ?_ rfl ⟨by rw [HDD.out], ?_⟩
      · exact results_row Tryz.results32 _ _ d0 rfl _ (run_loadVar_row _ d0 57 57 _ (0, 0) (.array 32 5) hb5 Tryz.underlying57 rfl (by rw [rowB_size]; kernel_rfl))
      · exact ((HC1.out.trans HCH.out (fun _ _ h => h)).trans hc9 (fun _ _ h => h)).trans hc5 (fun i hi h => by have := HD0.out; omega)
end Go.Proofs.YthglfmacjoecgaaGreatDoor
namespace Go.Proofs.YthglfmacjoecgaaGreatDoor
open Go.RowKit

end Go.Proofs.YthglfmacjoecgaaGreatDoor
namespace Go.Proofs.YthglfmacjoecgaaGreatDoor
open Go.RowKit

end Go.Proofs.YthglfmacjoecgaaGreatDoor
namespace Go.Proofs.YthglfmacjoecgaaGreatDoor
open Go.RowKit

theorem own_form {w : World} {e : TypeId} {size n : Nat} {v : Value} {xs : List Value} (h : w.ownsRow 0 e size v n xs) : ∃ oa cap, v = .slice oa n cap := by
  rcases h.2 with ⟨rfl, rfl⟩ | ⟨g, cap, cur, rfl, _⟩
  · exact ⟨none, 0, rfl⟩
  · exact ⟨_, cap, rfl⟩
end Go.Proofs.YthglfmacjoecgaaGreatDoor
namespace Go.Proofs.YthglfmacjoecgaaGreatDoor
open Go.RowKit

/-- A row of texts of the call's own, with a block. -/
def RowT (w : World) (g cap n : Nat) (l : List ByteArray) : Prop := w.ownsRow 0 9 1 (.slice (some ⟨g, 0, none⟩) n cap) n (l.map Value.string)
theorem RowT.len {w : World} {g cap n : Nat} {l : List ByteArray} (h : RowT w g cap n l) : n = l.length := by
  have := h.1; simpa using this.symm
theorem RowT.cellAt {w : World} {g cap n : Nat} {l : List ByteArray} (h : RowT w g cap n l) (i : Nat) (x : ByteArray) (hx : l[i]? = some x) : w.cell? ⟨g, i, none⟩ = some (.string x) := by
  have hi := (List.getElem?_eq_some_iff.1 hx).1
  have h2 := (World.ownsRow.cellAt h i (by rw [h.len]; omega)).trans (show (l.map Value.string)[i]? = some (.string x) by simp [hx])
  exact h2
theorem RowT.cap {w : World} {g cap n : Nat} {l : List ByteArray} (h : RowT w g cap n l) : n ≤ cap := by
  rcases h.2 with ⟨h, _⟩ | ⟨_, _, _, h, _, _, h2, _⟩
  · cases h
  · cases h; exact h2
theorem RowT.lt {w : World} {g cap n : Nat} {l : List ByteArray} (h : RowT w g cap n l) : g < w.heap.size := by
  rcases h.2 with ⟨h, _⟩ | ⟨_, _, _, h, _, h2, _⟩
  · cases h
  · cases h; exact heap_lt h2
theorem RowT.alloc {w : World} {g cap n : Nat} {l : List ByteArray} (h : RowT w g cap n l) (o : Obj) : RowT (w.alloc o) g cap n l := World.ownsRow.alloc h o
theorem RowT.chg {F : Nat → Prop} {w w' : World} {g cap n : Nat} {l : List ByteArray} (h : RowT w g cap n l) (hc : Chg F w w') (hg : ¬ F g) : RowT w' g cap n l := by
  rcases h.2 with ⟨h, _⟩ | ⟨_, _, cur, e, hb, h2, h3⟩
  · cases h
  · cases e; exact ⟨h.1, .inr ⟨g, _, cur, rfl, hb, hc.obj h2 hg, h3⟩⟩

/-- What a step leaves: a stack of its own, where it goes on. -/
def StepOk (w : World) (l : List ByteArray) (to2 : Int) (e : Ending) (w' : World) : Prop :=
  ∃ g cap, e = .returned (.tuple #[.slice (some ⟨g, 0, none⟩) l.length cap, .int .i64 to2, .int .i64 0]) ∧ RowT w' g cap l.length l ∧ Chg (fun _ => False) w w'

/-- A row laid since w0. -/
structure Fresh (w0 w : World) (g cap n : Nat) (l : List ByteArray) : Prop where
  own : RowT w g cap n l
  chg : Chg (fun k => w0.heap.size ≤ k) w0 w
  ge : w0.heap.size ≤ g
theorem Fresh.cell {w0 w : World} {g cap n : Nat} {l : List ByteArray} (h : Fresh w0 w g cap n l) {p : Addr} {v : Value} (hc : w0.cell? p = some v) (hp : ¬ w0.heap.size ≤ p.block) : w.cell? p = some v := h.chg.cell hc hp
theorem fresh_chg {w w' : World} (h : Chg (fun k => w.heap.size ≤ k) w w') : Chg (fun _ => False) w w' := (Chg.refl _ w).trans h (fun i hi h => by omega)
theorem Fresh.ok {w0 w : World} {g cap n : Nat} {l : List ByteArray} (h : Fresh w0 w g cap n l) (to2 : Int) : StepOk w0 l to2 (.returned (.tuple #[.slice (some ⟨g, 0, none⟩) n cap, .int .i64 to2, .int .i64 0])) w := by
  have hl := h.own.len
  subst hl
  exact ⟨g, cap, rfl, h.own, fresh_chg h.chg⟩

end Go.Proofs.YthglfmacjoecgaaGreatDoor
namespace Go.Proofs.YthglfmacjoecgaaGreatDoor
open Go.RowKit

end Go.Proofs.YthglfmacjoecgaaGreatDoor
namespace Go.Proofs.YthglfmacjoecgaaGreatDoor
open Go.RowKit

end Go.Proofs.YthglfmacjoecgaaGreatDoor
