/- Texts of the proof, one behind the other: oven.Key walked; apiaryref09.Key walked; apiaryref06.digits walked: a number in decimal. -/
import Derived.Test.YthglfmacjoecgaaGreatDoorMg28
import Derived.Test.YthglfmacjoecgaaGreatDoorMg21
import Derived.Test.YthglfmacjoecgaaGreatDoorMg15
namespace Go.Proofs.YthglfmacjoecgaaGreatDoor
open Go.RowKit

set_option maxRecDepth 100000 in
set_option maxHeartbeats 4000000 in
theorem key_any {B : Nat} (code : ByteArray) (hc : code.size ≤ 1000) (rs : List ResR) (hn : rs.length ≤ 32) (hb : ∀ r ∈ rs, r.2.size ≤ 100000) (hcd : Codes rs) (v : Value) (w : World) (hin : ResAt w v rs) (hT : TabsOK B w) (hB : B ≤ w.heap.size) :
    Calls Tryz.prog 29 #[.string code, v] w (Rets (.agg (rowB 32 (keyF code rs))) (Chg (fun _ => False) w)) := by
  have hlen := hin.len
  have HIN := hid hin
  have HT := hid hT
  have HBB := hid hB
  have HBZ := hid hb
  have HCD := hid hcd
  have HROW := hid (keyTs_row code hc rs hn)
  have HWD := hid (keyTs_wide code hc)
  clear hin hT hB hb hcd
  go_enter Tryz.func29, Tryz.ntmps29
  go_wp2_with (refine wpList_alloc0 rfl 57 rfl (rowB 32 (fun _ => 0)) (alloc37 _) ?_; intro w1 ha1 hs1 hc1)
  have hown0 := owns_new w1 [.string { data := #[97, 99, 116, 105, 111, 110] }, .string code] 9 1 2 rfl (by unfold maxLen; omega)
  have hT1 := HT.out.keep hc1
  have HOWN0 := hid hown0
  have HA1 := hid ha1
  have HS1 := hid hs1
  have HC1 := hid hc1
  clear hown0 ha1 hs1 hc1 hT1
  obtain ⟨d0, hd0⟩ : ∃ d0, d0 = w.heap.size := ⟨_, rfl⟩
  have HD0 := hid hd0
  rw [← hd0] at HA1 HS1 ⊢
  clear hd0
  go_loopw [5, 14] (fun v5 i wr => ∃ (k : Nat) (x : Value), x = v5 ∧ k ≤ rs.length ∧ i = .int .i64 k ∧ wr.ownsRow 0 9 1 x (k + 2) ((keyTs code (rs.take k)).map nmV) ∧ (∀ q, x.ownBlock = some q → d0 + 1 ≤ q) ∧ Chg (fun _ => False) w1 wr) (fun _ i _ => rs.length - (intOf i).toNat)
  case atStart =>
    refine ⟨0, _, rfl, Nat.zero_le _, rfl, ?_, fun q h => ?_, al_chg w1 _⟩
    · have h := HOWN0.out
      rw [HS1.out] at h
      have e : (keyTs code (rs.take 0)).map nmV = [Value.string { data := #[97, 99, 116, 105, 111, 110] }, Value.string code] := by simp [keyTs, nmV, bs_bl]; rfl
      rw [e]
      exact h
    · simp [Value.ownBlock] at h
      have := HS1.out
      omega
  case round =>
    obtain ⟨k, x5, hx5, hk, rfl, hown, hbl, hch⟩ := hrel
    subst hx5
    have HOWN := hid hown
    have HBL := hid hbl
    have HCH := hid hch
    clear hown hbl hch
    by_cases hkn : k < rs.length
    · have hkn' : (k : Int) < rs.length := by omega
      have hcw : Chg (fun _ => False) w wr := HC1.out.trans HCH.out (fun _ _ h => h)
      obtain ⟨bb, oo, hix, e0, e1, hlt⟩ := (HIN.out.chg hcw (fun _ _ h => h)).ix k hkn
      have hcdk := HCD.out _ (List.getElem_mem hkn)
      have hbk := HBZ.out _ (List.getElem_mem hkn)
      have HTK := hid (keyTs_take code rs k hkn)
      have hwd : wordR rs[k] = if rs[k].1 = 0 then 100 :: bl (hashS rs[k].2) else 101 :: numL rs[k].1 := rfl
      obtain ⟨wd, hwd2⟩ : ∃ wd, wd = wordR rs[k] := ⟨_, rfl⟩
      rw [← hwd2] at HTK hwd
      have HTR := hid (HT.out.keep hcw)
      have HBR : Hid (B ≤ wr.heap.size) := hid (Nat.le_trans HBB.out hcw.size)
      have HSZ : Hid (d0 + 1 ≤ wr.heap.size) := hid (by have := HCH.out.size; have := HS1.out; omega)
      clear hwd2 hcw
      generalize rs[k].1 = cd at *
      generalize rs[k].2 = bb2 at *
      have HWD2 := hid hwd
      clear hwd
      have hk7 := heap_alloc_new' wr (.cells #[.int .i64 cd, .string bb2] 47)
      have HK7 := hid hk7
      have hnz := bs_size (numL cd)
      have hnl := numL_len cd
      have hadd1 : ¬ 9223372036854775807 < 1 + (bs (numL cd)).size := by omega
      have hadd2 : ¬ 9223372036854775807 < (⟨#[101]⟩ : ByteArray).size + (bs (numL cd)).size := hadd1
      clear hk7 hnz hnl
      by_cases h0 : cd = 0
      · subst h0
        have hhz := hashS_size bb2
        have hadd3 : ¬ 9223372036854775807 < 1 + (hashS bb2).size := by omega
        have hadd4 : ¬ 9223372036854775807 < (⟨#[100]⟩ : ByteArray).size + (hashS bb2).size := hadd3
        have HW : Hid (nmV wd = .string ((⟨#[100]⟩ : ByteArray) ++ hashS bb2)) := hid (by
          rw [HWD2.out, if_pos rfl]
          show Value.string (bs ([100] ++ bl (hashS bb2))) = _
          rw [bs_append, bs_bl]; rfl)
        clear hhz
        go_wp2_with (first | (go_at_call 62; refine (num_any 0 (by omega) (by omega) _).mono ?_; rintro e w2 ⟨rfl, hc2⟩; have p0 := cell_of (hc2.obj HK7.out (fun h => h)) 0; have p1 := cell_of (hc2.obj HK7.out (fun h => h)) 1; simp at p0 p1; have HC2 := hid (((Chg.refl _ wr).alloc _).trans hc2 (fun _ _ h => h))) | (go_at_call 28; refine (of_one bb2 hbk w2 (HTR.out.keep HC2.out) (Nat.le_trans HBR.out HC2.out.size)).mono ?_; rintro e w3 ⟨rfl, hc3⟩; have HC3 := hid ((HC2.out.alloc _).trans hc3 (fun _ _ h => h))) | (guard_target =~ wpList _ _ _ (Oper.mk (some 9) _ _ _ _ _ :: _) _ _; refine wpList_alloc0 rfl 57 rfl (rowB 32 (fun _ => 0)) (alloc37 _) ?_; intro w4 ha4 hs4 hc4; clear hs4) | (guard_target =~ wpList _ _ _ (Oper.mk (none) _ _ _ _ _ :: _) _ _; refine wpList_store0 rfl 57 _ _ rfl w3.heap.size (rowB 32 (fun _ => 0)) (rowB 32 (ofB [bb2])) rfl rfl ha4 (by rw [rowB_size]; exact size37) rfl (rowB_one _ _) ?_; intro w5 hb5 hs5 hc5; clear hs5; have hcv := conv_hash bb2 w5 w3.heap.size hb5; have HC5 := hid ((HC3.out.trans hc4 (fun _ _ h => h)).trans hc5 (fun i hi h => by have := HC3.out.size; omega)); have hown5 := HC5.out.owns HOWN.out (fun _ _ h => h)) | (guard_target =~ wpList _ _ _ (Oper.mk (some 35) _ _ _ _ _ :: _) _ _; refine wpList_append_new rfl _ _ 22 rfl elStr hown5 rfl #[.string ((⟨#[100]⟩ : ByteArray) ++ hashS bb2)] 1 1 rfl rfl rfl (by unfold maxLen; omega) (by omega) (by decide) ?_; intro g6 cap6 w6 hown6 hch6 hg6))
        go_roundw
        case rel =>
          refine ⟨k + 1, _, rfl, by omega, by go_num, ?_, fun q hq => ?_, (HCH.out.trans HC5.out (fun _ _ h => h)).trans hch6 (fun q hq h => absurd (HBL.out q h) (by have := HS1.out; omega))⟩
          · rw [HTK.out, List.map_append]
            show w6.ownsRow 0 9 1 _ (k + 1 + 2) (_ ++ [nmV wd])
            rw [HW.out, show k + 1 + 2 = k + 2 + 1 by omega]
            exact hown6
          · simp [Value.ownBlock] at hq
            subst hq
            rcases hg6 with h | h
            · exact HBL.out _ h
            · have := HC5.out.size
              have := HSZ.out
              omega
        case measure => simp [intOf]; omega
      · have hne : (cd == 0) = false := by rw [beq_eq_false_iff_ne]; exact h0
        have HW : Hid (nmV wd = .string ((⟨#[101]⟩ : ByteArray) ++ bs (numL cd))) := hid (by
          rw [HWD2.out, if_neg h0]
          show Value.string (bs ([101] ++ numL cd)) = _
          rw [bs_append]; rfl)
        go_wp2_with (first | (go_at_call 62; refine (num_any cd hcdk.1 hcdk.2 _).mono ?_; rintro e w2 ⟨rfl, hc2⟩; have p0 := cell_of (hc2.obj HK7.out (fun h => h)) 0; have p1 := cell_of (hc2.obj HK7.out (fun h => h)) 1; simp at p0 p1; have HC2 := hid (((Chg.refl _ wr).alloc _).trans hc2 (fun _ _ h => h)); have hown2 := HC2.out.owns HOWN.out (fun _ _ h => h)) | (guard_target =~ wpList _ _ _ (Oper.mk (some 35) _ _ _ _ _ :: _) _ _; refine wpList_append_new rfl _ _ 22 rfl elStr hown2 rfl #[.string ((⟨#[101]⟩ : ByteArray) ++ bs (numL cd))] 1 1 rfl rfl rfl (by unfold maxLen; omega) (by omega) (by decide) ?_; intro g6 cap6 w6 hown6 hch6 hg6))
        go_roundw
        case rel =>
          refine ⟨k + 1, _, rfl, by omega, by go_num, ?_, fun q hq => ?_, (HCH.out.trans HC2.out (fun _ _ h => h)).trans hch6 (fun q hq h => absurd (HBL.out q h) (by have := HS1.out; omega))⟩
          · rw [HTK.out, List.map_append]
            show w6.ownsRow 0 9 1 _ (k + 1 + 2) (_ ++ [nmV wd])
            rw [HW.out, show k + 1 + 2 = k + 2 + 1 by omega]
            exact hown6
          · simp [Value.ownBlock] at hq
            subst hq
            rcases hg6 with h | h
            · exact HBL.out _ h
            · have := HC2.out.size
              have := HSZ.out
              omega
        case measure => simp [intOf]; omega
    · obtain rfl : k = rs.length := by omega
      have hown := HOWN.out
      rw [List.take_length] at hown
      have hkl := keyTs_len code rs
      rw [← hkl] at hown
      have hnm : NamesAt wr x5 (keyTs code rs) := NamesAt.of_owns hown (by unfold maxLen; omega) (fun s hs => by have := HWD.out rs s hs; unfold maxLen; omega)
      have hcw : Chg (fun _ => False) w wr := HC1.out.trans HCH.out (fun _ _ h => h)
      have hrow := srow_any (keyTs code rs) HROW.out (by omega) x5 wr hnm (HT.out.keep hcw) (Nat.le_trans HBB.out hcw.size)
      obtain ⟨D, hD⟩ : ∃ D, D = ofB [bs (rowN (keyTs code rs))] := ⟨_, rfl⟩
      rw [← hD] at hrow
      have HRW := hid hrow
      have HDD : Hid (D = keyF code rs) := hid hD
      clear hown hkl hnm hcw hrow hD
      go_wp2_with (first | (go_at_call 67; refine HRW.out.mono ?_; rintro e w9 ⟨rfl, hc9⟩; have hblk := (HCH.out.trans hc9 (fun _ _ h => h)).obj HA1.out (fun h => h)) | (guard_target =~ wpList _ _ _ (Oper.mk (none) _ _ _ _ _ :: _) _ _; refine wpList_store0 rfl 57 _ _ rfl d0 (rowB 32 (fun _ => 0)) (rowB 32 D) rfl rfl hblk (by rw [rowB_size]; exact size37) rfl (rowB_one _ _) ?_; intro w5 hb5 hs5 hc5))
      refine bodyPost_ret (v := .agg (rowB 32 D)) ?_ rfl ⟨by rw [HDD.out], ?_⟩
      · exact results_row Tryz.results29 _ _ d0 rfl _ (run_loadVar_row _ d0 57 57 _ (0, 0) (.array 32 5) hb5 Tryz.underlying57 rfl (by rw [rowB_size]; kernel_rfl))
      · exact ((HC1.out.trans HCH.out (fun _ _ h => h)).trans hc9 (fun _ _ h => h)).trans hc5 (fun i hi h => by have := HD0.out; omega)
end Go.Proofs.YthglfmacjoecgaaGreatDoor
namespace Go.Proofs.YthglfmacjoecgaaGreatDoor
open Go.RowKit

theorem hashS_bytes (x : ByteArray) : bytesS (ofB [x]) = hashS x := rfl

set_option maxRecDepth 100000 in
set_option maxHeartbeats 4000000 in
theorem rkey_any (code : ByteArray) (hc : code.size ≤ 1000) (rs : List ResR) (hn : rs.length ≤ 32) (hb : ∀ r ∈ rs, r.2.size ≤ 100000) (hcd : Codes rs) (v : Value) (w : World) (hin : ResAt w v rs) :
    Calls Tryz.prog 32 #[.string code, v] w (Rets (.agg (rowB 32 (keyF code rs))) (Chg (fun _ => False) w)) := by
  have hlen := hin.len
  have HIN := hid hin
  have HBZ := hid hb
  have HCD := hid hcd
  have HROW := hid (keyTs_row code hc rs hn)
  have HWD := hid (keyTs_wide code hc)
  clear hin hb hcd
  go_enter Tryz.func32, Tryz.ntmps32
  go_wp2_with (refine wpList_alloc0 rfl 57 rfl (rowB 32 (fun _ => 0)) (alloc37 _) ?_; intro w1 ha1 hs1 hc1)
  have hown0 := owns_new w1 [.string { data := #[97, 99, 116, 105, 111, 110] }, .string code] 9 1 2 rfl (by unfold maxLen; omega)
  have HOWN0 := hid hown0
  have HA1 := hid ha1
  have HS1 := hid hs1
  have HC1 := hid hc1
  clear hown0 ha1 hs1 hc1
  obtain ⟨d0, hd0⟩ : ∃ d0, d0 = w.heap.size := ⟨_, rfl⟩
  have HD0 := hid hd0
  rw [← hd0] at HA1 HS1 ⊢
  clear hd0
  go_loopw [5, 6] (fun v5 i wr => ∃ (k : Nat) (x : Value), x = v5 ∧ k ≤ rs.length ∧ i = .int .i64 k ∧ wr.ownsRow 0 9 1 x (k + 2) ((keyTs code (rs.take k)).map nmV) ∧ (∀ q, x.ownBlock = some q → d0 + 1 ≤ q) ∧ Chg (fun _ => False) w1 wr) (fun _ i _ => rs.length - (intOf i).toNat)
  case atStart =>
    refine ⟨0, _, rfl, Nat.zero_le _, rfl, ?_, fun q h => ?_, al_chg w1 _⟩
    · have h := HOWN0.out
      rw [HS1.out] at h
      have e : (keyTs code (rs.take 0)).map nmV = [Value.string { data := #[97, 99, 116, 105, 111, 110] }, Value.string code] := by simp [keyTs, nmV, bs_bl]; rfl
      rw [e]
      exact h
    · simp [Value.ownBlock] at h
      have := HS1.out
      omega
  case round =>
    obtain ⟨k, x5, hx5, hk, rfl, hown, hbl, hch⟩ := hrel
    subst hx5
    have HOWN := hid hown
    have HBL := hid hbl
    have HCH := hid hch
    clear hown hbl hch
    by_cases hkn : k < rs.length
    · have hkn' : (k : Int) < rs.length := by omega
      have hcw : Chg (fun _ => False) w wr := HC1.out.trans HCH.out (fun _ _ h => h)
      obtain ⟨bb, oo, hix, e0, e1, hlt⟩ := (HIN.out.chg hcw (fun _ _ h => h)).ix k hkn
      have hcdk := HCD.out _ (List.getElem_mem hkn)
      have hbk := HBZ.out _ (List.getElem_mem hkn)
      have HTK := hid (keyTs_take code rs k hkn)
      have hwd : wordR rs[k] = if rs[k].1 = 0 then 100 :: bl (hashS rs[k].2) else 101 :: numL rs[k].1 := rfl
      obtain ⟨wd, hwd2⟩ : ∃ wd, wd = wordR rs[k] := ⟨_, rfl⟩
      rw [← hwd2] at HTK hwd
      have HSZ : Hid (d0 + 1 ≤ wr.heap.size) := hid (by have := HCH.out.size; have := HS1.out; omega)
      clear hwd2 hcw
      generalize rs[k].1 = cd at *
      generalize rs[k].2 = bb2 at *
      have HWD2 := hid hwd
      clear hwd
      have hnz := bs_size (numL cd)
      have hnl := numL_len cd
      have hadd1 : ¬ 9223372036854775807 < 1 + (bs (numL cd)).size := by omega
      have hadd2 : ¬ 9223372036854775807 < (⟨#[101]⟩ : ByteArray).size + (bs (numL cd)).size := hadd1
      clear hnz hnl
      by_cases h0 : cd = 0
      · subst h0
        have hhz := hashS_size bb2
        have hadd3 : ¬ 9223372036854775807 < 1 + (hashS bb2).size := by omega
        have hadd4 : ¬ 9223372036854775807 < (⟨#[100]⟩ : ByteArray).size + (hashS bb2).size := hadd3
        have HW : Hid (nmV wd = .string ((⟨#[100]⟩ : ByteArray) ++ hashS bb2)) := hid (by
          rw [HWD2.out, if_pos rfl]
          show Value.string (bs ([100] ++ bl (hashS bb2))) = _
          rw [bs_append, bs_bl]; rfl)
        clear hhz
        go_wp2_with (first | (go_at_call 70; refine (rof_any bb2 hbk _).mono ?_; rintro e w2 ⟨rfl, hc2⟩) | (go_at_call 69; refine (rBytes_any (ofB [bb2]) _).mono ?_; rintro e w3 ⟨rfl, hc3⟩; have HC5 := hid (hc2.trans hc3 (fun _ _ h => h)); have hown5 := HC5.out.owns HOWN.out (fun _ _ h => h); rw [hashS_bytes]) | (guard_target =~ wpList _ _ _ (Oper.mk (some 41) _ _ _ _ _ :: _) _ _; refine wpList_append_new rfl _ _ 22 rfl elStr hown5 rfl #[.string ((⟨#[100]⟩ : ByteArray) ++ hashS bb2)] 1 1 rfl rfl rfl (by unfold maxLen; omega) (by omega) (by decide) ?_; intro g6 cap6 w6 hown6 hch6 hg6))
        go_roundw
        case rel =>
          refine ⟨k + 1, _, rfl, by omega, by go_num, ?_, fun q hq => ?_, (HCH.out.trans HC5.out (fun _ _ h => h)).trans hch6 (fun q hq h => absurd (HBL.out q h) (by have := HS1.out; omega))⟩
          · rw [HTK.out, List.map_append]
            show w6.ownsRow 0 9 1 _ (k + 1 + 2) (_ ++ [nmV wd])
            rw [HW.out, show k + 1 + 2 = k + 2 + 1 by omega]
            exact hown6
          · simp [Value.ownBlock] at hq
            subst hq
            rcases hg6 with h | h
            · exact HBL.out _ h
            · have := HC5.out.size
              have := HSZ.out
              omega
        case measure => simp [intOf]; omega
      · have hne : (cd == 0) = false := by rw [beq_eq_false_iff_ne]; exact h0
        have HW : Hid (nmV wd = .string ((⟨#[101]⟩ : ByteArray) ++ bs (numL cd))) := hid (by
          rw [HWD2.out, if_neg h0]
          show Value.string (bs ([101] ++ numL cd)) = _
          rw [bs_append]; rfl)
        go_wp2_with (first | (go_at_call 68; refine (rnum_any cd hcdk.1 hcdk.2 _).mono ?_; rintro e w2 ⟨rfl, hc2⟩; have HC2 := hid hc2; have hown2 := HC2.out.owns HOWN.out (fun _ _ h => h)) | (guard_target =~ wpList _ _ _ (Oper.mk (some 30) _ _ _ _ _ :: _) _ _; refine wpList_append_new rfl _ _ 22 rfl elStr hown2 rfl #[.string ((⟨#[101]⟩ : ByteArray) ++ bs (numL cd))] 1 1 rfl rfl rfl (by unfold maxLen; omega) (by omega) (by decide) ?_; intro g6 cap6 w6 hown6 hch6 hg6))
        go_roundw
        case rel =>
          refine ⟨k + 1, _, rfl, by omega, by go_num, ?_, fun q hq => ?_, (HCH.out.trans HC2.out (fun _ _ h => h)).trans hch6 (fun q hq h => absurd (HBL.out q h) (by have := HS1.out; omega))⟩
          · rw [HTK.out, List.map_append]
            show w6.ownsRow 0 9 1 _ (k + 1 + 2) (_ ++ [nmV wd])
            rw [HW.out, show k + 1 + 2 = k + 2 + 1 by omega]
            exact hown6
          · simp [Value.ownBlock] at hq
            subst hq
            rcases hg6 with h | h
            · exact HBL.out _ h
            · have := HC2.out.size
              have := HSZ.out
              omega
        case measure => simp [intOf]; omega
    · obtain rfl : k = rs.length := by omega
      have hown := HOWN.out
      rw [List.take_length] at hown
      have hkl := keyTs_len code rs
      rw [← hkl] at hown
      have hnm : NamesAt wr x5 (keyTs code rs) := NamesAt.of_owns hown (by unfold maxLen; omega) (fun s hs => by have := HWD.out rs s hs; unfold maxLen; omega)
      have hcw : Chg (fun _ => False) w wr := HC1.out.trans HCH.out (fun _ _ h => h)
      have hrow := rsrow_any (keyTs code rs) HROW.out (by omega) x5 wr hnm
      obtain ⟨D, hD⟩ : ∃ D, D = ofB [bs (rowN (keyTs code rs))] := ⟨_, rfl⟩
      rw [← hD] at hrow
      have HRW := hid hrow
      have HDD : Hid (D = keyF code rs) := hid hD
      clear hown hkl hnm hcw hrow hD
      go_wp2_with (first | (go_at_call 71; refine HRW.out.mono ?_; rintro e w9 ⟨rfl, hc9⟩; have hblk := (HCH.out.trans hc9 (fun _ _ h => h)).obj HA1.out (fun h => h)) | (guard_target =~ wpList _ _ _ (Oper.mk (none) _ _ _ _ _ :: _) _ _; refine wpList_store0 rfl 57 _ _ rfl d0 (rowB 32 (fun _ => 0)) (rowB 32 D) rfl rfl hblk (by rw [rowB_size]; exact size37) rfl (rowB_one _ _) ?_; intro w5 hb5 hs5 hc5))
      refine bodyPost_ret (v := .agg (rowB 32 D)) ?_ rfl ⟨by rw [HDD.out], ?_⟩
      · exact results_row Tryz.results32 _ _ d0 rfl _ (run_loadVar_row _ d0 57 57 _ (0, 0) (.array 32 5) hb5 Tryz.underlying57 rfl (by rw [rowB_size]; kernel_rfl))
      · exact ((HC1.out.trans HCH.out (fun _ _ h => h)).trans hc9 (fun _ _ h => h)).trans hc5 (fun i hi h => by have := HD0.out; omega)
end Go.Proofs.YthglfmacjoecgaaGreatDoor
namespace Go.Proofs.YthglfmacjoecgaaGreatDoor
open Go.RowKit

def digsB : ByteArray := { data := #[48, 49, 50, 51, 52, 53, 54, 55, 56, 57] }
theorem digs_one : ∀ n : Fin 10, digsB.extract n.1 (n.1 + 1) = ⟨#[UInt8.ofNat (48 + n.1)]⟩ := by decide +kernel
def decS (n : Nat) : ByteArray := ⟨(Lib.decDigits n).toArray⟩
theorem itoaS_dec (n : Nat) : itoaS n = decS n := by
  have : Lib.itoa (n : Int) = Lib.decDigits n := by unfold Lib.itoa; rw [if_neg (by omega)]; rfl
  unfold itoaS decS
  rw [this]
theorem decS_small (n : Nat) (h : n < 10) : decS n = digsB.extract n (n + 1) := by
  rw [digs_one ⟨n, h⟩]
  unfold decS
  rw [Lib.decDigits, dif_pos h]
theorem decS_big (n : Nat) (h : ¬ n < 10) : decS n = decS (n / 10) ++ digsB.extract (n % 10) (n % 10 + 1) := by
  rw [digs_one ⟨n % 10, by omega⟩]
  apply ByteArray.ext
  apply Array.ext'
  rw [ByteArray.data_append, Array.toList_append]
  show Lib.decDigits n = Lib.decDigits (n / 10) ++ [UInt8.ofNat (48 + n % 10)]
  conv => lhs; rw [Lib.decDigits, dif_neg h]
theorem decS_size (n : Nat) : (decS n).size ≤ n + 1 := by rw [← itoaS_dec]; exact itoaS_size n

set_option maxRecDepth 100000 in
set_option maxHeartbeats 2000000 in
theorem rdigits_any : ∀ (n : Nat) (_ : n ≤ 1000) (w : World), Calls Tryz.prog 131 #[.int .i64 n] w (Rets (.string (decS n)) (fun w' => ∃ m, w' = w.drewN m)) := by
  intro n
  induction n using Nat.strongRecOn with
  | ind n ih =>
    intro hn w
    by_cases h : n < 10
    · have h1 : (n : Int) < 10 := by omega
      have h2 : IntKind.i64.wrap ((n : Int) + 1) = (n : Int) + 1 := IntWalk.i64_in _ (by omega)
      have h3 : (n : Int) + 1 ≤ 10 := by omega
      have HD : Hid (digsB.extract n (n + 1) = decS n) := (decS_small n h).symm
      clear ih
      go_enter Tryz.func131, Tryz.ntmps131
      go_wp2_with fail
      go_ret
      exact ⟨congrArg (fun x => Ending.returned (Value.string x)) HD.out, 0, rfl⟩
    · have h1 : ¬ (n : Int) < 10 := by omega
      have d1 : decide ((n : Int) < 10) = false := decide_eq_false h1
      have hih := fun w => ih (n / 10) (by omega) (by omega) w
      obtain ⟨q, hq⟩ : ∃ q, q = n / 10 := ⟨_, rfl⟩
      obtain ⟨r, hr⟩ : ∃ r, r = n % 10 := ⟨_, rfl⟩
      have hr10 : r < 10 := by omega
      have t1 : IntKind.i64.wrap ((n : Int).tdiv 10) = (q : Int) := by rw [IntWalk.i64_quo _ _ (by omega)]; omega
      have t1b : IntKind.i64.wrap ((n : Int) / 10) = (q : Int) := by rw [IntWalk.i64_in _ (by omega)]; omega
      have t2b : (n : Int) % 10 = (r : Int) := by omega
      have t2 : (n : Int).tmod 10 = (r : Int) := by rw [Int.tmod_eq_emod_of_nonneg (by omega)]; omega
      have t3 : IntKind.i64.wrap ((r : Int) + 1) = (r : Int) + 1 := IntWalk.i64_in _ (by omega)
      have t4 : wrap64 ((r : Int) + 1) = (r : Int) + 1 := by unfold wrap64; omega
      have t5 : (r : Int) + 1 ≤ 10 := by omega
      have t6 : (0 : Int) ≤ (r : Int) + 1 := by omega
      have t7 : ((r : Int) + 1).toNat = r + 1 := by omega
      have HD : Hid (decS n = decS q ++ digsB.extract r (r + 1)) := by rw [hq, hr]; exact decS_big n h
      have hsz := decS_size q
      have hz1 : ¬ 9223372036854775807 < (decS q).size + 1 := by omega
      rw [← hq] at hih
      generalize decS q = sq at hih HD hsz hz1
      clear ih hq hr h
      go_enter Tryz.func131, Tryz.ntmps131
      go_wp2_with fail
      go_quiet ((go_at_call 131; refine Calls.quiet_of (hih _)))
      go_wp2_with fail
      go_ret
      exact ⟨congrArg (fun x => Ending.returned (Value.string x)) HD.out.symm, _, rfl⟩
end Go.Proofs.YthglfmacjoecgaaGreatDoor
