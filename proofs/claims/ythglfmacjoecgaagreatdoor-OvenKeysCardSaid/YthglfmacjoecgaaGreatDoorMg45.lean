/- Texts of the proof, one behind the other: OvenKeys walked: it returns true. -/
import Derived.Test.YthglfmacjoecgaaGreatDoorMg43
import Derived.Test.YthglfmacjoecgaaGreatDoorMg39
namespace Go.Proofs.YthglfmacjoecgaaGreatDoor
open Go.RowKit

theorem outF_wf (code : ByteArray) (rs : List ResR) : (Lit.int .i64 (makeF code rs).1).wf = true := by
  have h := makeF_small code rs
  have h1 := h.lo
  have h2 := h.hi
  simp [Lit.wf, IntKind.min, IntKind.max, IntKind.signed, IntKind.bits]
  omega
set_option maxRecDepth 100000 in
set_option maxHeartbeats 4000000 in
theorem okeyslaw_any {B : Nat} (code : ByteArray) (hcs : code.size ≤ maxLen) (rs : List ResR) (hcd : ∀ r ∈ rs, (Lit.int .i64 r.1).wf = true) (key : Nat → UInt8) (xc : Int) (xo : Nat → UInt8) (hxc : (Lit.int .i64 xc).wf = true) (v : Value) (w : World) (hin : ResAt w v rs) (hT : TabsOK B w) (hB : B ≤ w.heap.size) :
    Calls Tryz.prog 7 #[.string code, v, .agg (recA key xc xo)] w (Rets (.bool true) (Chg (fun _ => False) w)) := by
  have hlen := hin.len
  have hmx := hin.rows.le
  unfold maxLen at hmx hcs
  have HIN := hid hin
  have HT := hid hT
  have HBB := hid hB
  have HCD := hid hcd
  clear hin hT hB hcd
  go_enter Tryz.func7, Tryz.ntmps7
  go_wp2_with (guard_target =~ wpList _ _ _ (Oper.mk (some 5) _ _ _ _ _ :: _) _ _; refine wpList_box1 rfl 67 _ rfl (recA key xc xo) rfl ?_; intro w1 hk1 hs1 hc1; have HK1 := hid hk1; have HC1 := hid hc1; clear hs1 hk1 hc1)
  refine (oawake_any w1 (HT.out.keep HC1.out) (Nat.le_trans HBB.out HC1.out.size)).mono ?_
  rintro e w2 ⟨rfl, hc2⟩
  have HC2 := hid (HC1.out.trans hc2 (fun _ _ h => h))
  have HK2 := hid (hc2.obj HK1.out (fun h => h))
  obtain ⟨b5, hb5⟩ : ∃ b5, b5 = w.heap.size := ⟨_, rfl⟩
  rw [← hb5] at HK2 ⊢
  have HB5 := hid hb5
  clear hc2 HK1 HC1 hb5
  by_cases hn : 30 < rs.length
  · have hn' : (30 : Int) < rs.length := by omega
    go_wp2_with fail
    go_ret
    exact ⟨rfl, HC2.out⟩
  by_cases hcz1 : 1000 < code.size
  · have hn' : ¬ (30 : Int) < rs.length := by omega
    have hc' : (1000 : Int) < code.size := by omega
    go_wp2_with fail
    go_ret
    exact ⟨rfl, HC2.out⟩
  have hcz : code.size ≤ 1000 := by omega
  have hn' : ¬ (30 : Int) < rs.length := by omega
  have hc' : ¬ (1000 : Int) < code.size := by omega
  go_wp2_with fail
  clear hn' hc' hcz1
  go_loopw [7] (fun i wr => ∃ k : Nat, k ≤ rs.length ∧ i = .int .i64 k ∧ wr = w2 ∧ ∀ j (h : j < rs.length), j < k → rs[j].2.size ≤ 1000) (fun i _ => rs.length - (intOf i).toNat)
  case atStart => exact ⟨0, Nat.zero_le _, rfl, rfl, fun j _ h => absurd h (Nat.not_lt_zero _)⟩
  case round =>
    obtain ⟨k, hk, rfl, rfl, hall⟩ := hrel
    have HA := hid hall
    clear hall
    by_cases hkn : k < rs.length
    · have hkn' : (k : Int) < rs.length := by omega
      obtain ⟨bb, oo, hix, e0, e1, hlt⟩ := (HIN.out.chg HC2.out (fun _ _ h => h)).ix k hkn
      by_cases hw5 : 1000 < rs[k].2.size
      · generalize rs[k].2 = bl2 at *
        have hw5' : (1000 : Int) < bl2.size := by omega
        go_wp2_with fail
        go_ret
        exact ⟨rfl, HC2.out⟩
      · have HLE : Hid (rs[k].2.size ≤ 1000) := hid (by omega)
        generalize hbl : rs[k].2 = bl2 at *
        have HBL := hid hbl
        have hw5' : ¬ (1000 : Int) < bl2.size := by omega
        clear hbl
        go_wp2_with fail
        go_roundw
        case rel =>
          refine ⟨k + 1, by omega, by go_num, by first | rfl | trivial, fun j hj hjk => ?_⟩
          by_cases e : j = k
          · subst e
            rw [HBL.out]
            exact HLE.out
          · exact HA.out j hj (by omega)
        case measure => simp [intOf]; omega
    · obtain rfl : k = rs.length := by omega
      have hwd : ∀ r ∈ rs, r.2.size ≤ 100000 := fun r hr => by
        obtain ⟨j, hj, rfl⟩ := List.mem_iff_getElem.1 hr
        have := HA.out j hj hj
        omega
      have hCodes : Codes rs := fun r hr => wf_codes (HCD.out r hr)
      have hn32 : rs.length ≤ 32 := by omega
      have hb2 : B ≤ wr.heap.size := Nat.le_trans HBB.out HC2.out.size
      have hmk := make_any code hcz rs hn32 hwd v wr (HIN.out.chg HC2.out (fun _ _ h => h)) (HT.out.keep HC2.out) hb2
      have HKEY := hid (fun W (hW : Chg (fun _ => False) w W) => key_any code hcz rs hn32 hwd hCodes v W (HIN.out.chg hW (fun _ _ h => h)) (HT.out.keep hW) (Nat.le_trans HBB.out hW.size))
      have HRK := hid (fun W (hW : Chg (fun _ => False) w W) => rkey_any code hcz rs hn32 hwd hCodes v W (HIN.out.chg hW (fun _ _ h => h)))
      have HRM := hid (fun W (hW : Chg (fun _ => False) w W) => rmake_any code hcz rs hn32 hwd v W (HIN.out.chg hW (fun _ _ h => h)))
      have hrs : (makeF code rs).2.size ≤ 100000 := by have := (makeF_small code rs).wide; omega
      have hrw := outF_wf code rs
      obtain ⟨mc, hmc⟩ : ∃ mc, mc = (makeF code rs).1 := ⟨_, rfl⟩
      obtain ⟨mb, hmb⟩ : ∃ mb, mb = (makeF code rs).2 := ⟨_, rfl⟩
      have hmp : makeF code rs = (mc, mb) := by rw [hmc, hmb]
      rw [hmp] at hmk HRM hrs hrw
      clear hmp hmc hmb hwd hCodes
      obtain ⟨kf, hkf⟩ : ∃ kf, kf = keyF code rs := ⟨_, rfl⟩
      rw [← hkf] at HKEY HRK
      clear hkf
      have HREC := hid (fun W (hW : Chg (fun _ => False) w W) => record_any kf (mc, mb) hrs W (HT.out.keep hW) (Nat.le_trans HBB.out hW.size))
      have HRR := hid (fun W => rrecord_any kf (mc, mb) hrs W)
      have HRX := hid (fun W => rrecord_any key (mc, mb) hrs W)
      have HF1 := hid (fun W (hW : Chg (fun _ => False) w W) => fits_any kf mc (outF (mc, mb)) hrw (mc, mb) hrs hrw W (HT.out.keep hW) (Nat.le_trans HBB.out hW.size))
      have HF2 := hid (fun W (hW : Chg (fun _ => False) w W) => fits_any key xc xo hxc (mc, mb) hrs hrw W (HT.out.keep hW) (Nat.le_trans HBB.out hW.size))
      unfold recV at HREC HRR HRX
      obtain ⟨ou, hou⟩ : ∃ ou, ou = outF (mc, mb) := ⟨_, rfl⟩
      rw [← hou] at HREC HRR HRX HF1 HF2
      clear hou
      have hmk2 : Calls Tryz.prog 30 #[.string code, v] wr (Rets (.agg #[.int .i64 mc, .string mb]) (Chg (fun _ => False) wr)) := hmk
      clear hmk
      go_wp2_with (first | (go_at_call 30; refine hmk2.mono ?_; rintro e w4 ⟨rfl, hc4⟩; have HC4 := hid (HC2.out.trans hc4 (fun _ _ h => h)); have HK4 := hid (hc4.obj HK2.out (fun h => h)); clear hc4) | (go_at_call 29; refine (HKEY.out _ (HC4.out.alloc _)).mono ?_; rintro e w6 ⟨rfl, hc6⟩; have HK6 := hid (hc6.obj (heap_alloc_old' HK4.out (.cells #[.int .i64 mc, .string mb] 47)) (fun h => h)); have HR6 := hid (hc6.obj (heap_alloc_new' w4 (.cells #[.int .i64 mc, .string mb] 47)) (fun h => h)); have HC6 := hid ((HC4.out.alloc (.cells #[.int .i64 mc, .string mb] 47)).trans hc6 (fun _ _ h => h)); clear hc6) | (guard_target =~ wpList _ _ _ (Oper.mk (some 9) _ _ _ _ _ :: _) _ _; refine wpList_alloc0 rfl 57 rfl (rowB 32 (fun _ => 0)) (alloc37 _) ?_; intro w7 hk7 hs7 hc7; have HD7 := hid hk7; have HK7 := hid (hc7.obj HK6.out (fun h => h)); have HR7 := hid (hc7.obj HR6.out (fun h => h)); have HC7 := hid (HC6.out.trans hc7 (fun _ _ h => h)); clear hk7 hs7 hc7) | (guard_target =~ wpList _ _ _ (Oper.mk none (Op.store _ (Operand.tmp 9) _) _ _ _ _ :: _) _ _; refine wpList_store0 rfl 57 _ _ rfl w6.heap.size (rowB 32 (fun _ => 0)) (rowB 32 kf) rfl rfl HD7.out (by rw [rowB_size]; exact size37) (by rw [rowB_size, rowB_size]) (rowB_one _ _) ?_; intro w8 hk8 hs8 hc8; have HD8 := hid hk8; have HK8 := hid (hc8.obj HK7.out (by have := heap_lt HK6.out; omega)); have hr8 := hc8.obj HR7.out (by have := heap_lt HR6.out; omega); have p0 := cell_of hr8 0; have p1 := cell_of hr8 1; simp at p0 p1; have HR8 := hid hr8; have HC8 := hid (HC7.out.trans hc8 (fun i hi h => by have := HC6.out.size; omega)); clear hk8 hs8 hc8 hr8) | (guard_target =~ wpList _ _ _ (Oper.mk (some 40) _ _ _ _ _ :: _) _ _; refine wpList_load0 rfl 57 _ rfl w6.heap.size (rowB 32 kf) (.array 32 5) rfl HD8.out Tryz.underlying57 rfl (by rw [rowB_size]; kernel_rfl) ?_) | (go_at_call 31; refine (HREC.out _ HC8.out).mono ?_; rintro e w9 ⟨rfl, hc9⟩; have HD9 := hid (hc9.obj HD8.out (fun h => h)); have HK9 := hid (hc9.obj HK8.out (fun h => h)); have HR9 := hid (hc9.obj HR8.out (fun h => h)); have HC9 := hid (HC8.out.trans hc9 (fun _ _ h => h)); clear hc9 p0 p1) | (guard_target =~ wpList _ _ _ (Oper.mk (some 10) _ _ _ _ _ :: _) _ _; refine wpList_alloc0 rfl 67 rfl (recA zeroF 0 zeroF) (allocRec _) ?_; intro w10 hk10 hs10 hc10; have HT10 := hid hk10; have HD10 := hid (hc10.obj HD9.out (fun h => h)); have HK10 := hid (hc10.obj HK9.out (fun h => h)); have HR10 := hid (hc10.obj HR9.out (fun h => h)); have HC10 := hid (HC9.out.trans hc10 (fun _ _ h => h)); clear hk10 hs10 hc10) | (guard_target =~ wpList _ _ _ (Oper.mk none (Op.store _ (Operand.tmp 10) _) _ _ _ _ :: _) _ _; refine wpList_store0 rfl 67 _ _ rfl w9.heap.size (recA zeroF 0 zeroF) (recA kf mc ou) rfl rfl HT10.out (by rw [recA_size]; exact sizeRec) (by rw [recA_size, recA_size]) (recA_one _ _ _) ?_; intro w11 hk11 hs11 hc11; have HT11 := hid hk11; have HD11 := hid (hc11.obj HD10.out (by have := heap_lt HD9.out; omega)); have HK11 := hid (hc11.obj HK10.out (by have := heap_lt HK9.out; omega)); have HR11 := hid (hc11.obj HR10.out (by have := heap_lt HR9.out; omega)); have HC11 := hid (HC10.out.trans hc11 (fun i hi h => by have := HC9.out.size; omega)); clear hk11 hs11 hc11))
      obtain ⟨b8, hb8⟩ : ∃ b8, b8 = w4.heap.size := ⟨_, rfl⟩
      obtain ⟨d9, hd9⟩ : ∃ d9, d9 = w6.heap.size := ⟨_, rfl⟩
      obtain ⟨b10, hb10⟩ : ∃ b10, b10 = w9.heap.size := ⟨_, rfl⟩
      rw [← hb8] at HR11 ⊢
      rw [← hd9] at HD11 ⊢
      rw [← hb10] at HT11 ⊢
      clear hb8 hd9 hb10 HT10 HD10 HK10 HR10 HD9 HK9 HR9 HD8 HK8 HR8 HD7 HK7 HR7 HK6 HR6 HK4 HK2
      have hS : ∀ W, Chg (fun _ => False) w11 W → W.rangeAt d9 0 (rowB 32 kf).toList ∧ W.rangeAt b8 0 [.int .i64 mc, .string mb] ∧ W.rangeAt b10 0 (recA kf mc ou).toList ∧ W.rangeAt b5 0 (recA key xc xo).toList ∧ W.rangeAt b5 0 (rowB 32 key).toList := fun W hW => by
        refine ⟨fun j u hv => ?_, fun j u hv => ?_, fun j u hv => ?_, fun j u hv => ?_, rec_range (hW.obj HK11.out (fun h => h))⟩
        · rw [Nat.zero_add, cell_of (hW.obj HD11.out (fun h => h))]
          simpa using hv
        · rw [Nat.zero_add, cell_of (hW.obj HR11.out (fun h => h))]
          simpa using hv
        · rw [Nat.zero_add, cell_of (hW.obj HT11.out (fun h => h))]
          simpa using hv
        · rw [Nat.zero_add, cell_of (hW.obj HK11.out (fun h => h))]
          simpa using hv
      have hrk : ∀ W, Chg (fun _ => False) w11 W → Calls Tryz.prog 32 #[.string code, v] W (Rets (.agg (rowB 32 kf)) (Chg (fun _ => False) W)) := fun W hW => HRK.out W (HC11.out.trans hW (fun _ _ h => h))
      have hrm : ∀ W, Chg (fun _ => False) w11 W → Calls Tryz.prog 33 #[.string code, v] W (Rets (.agg #[.int .i64 mc, .string mb]) (Chg (fun _ => False) W)) := fun W hW => HRM.out W (HC11.out.trans hW (fun _ _ h => h))
      have hrr : ∀ W, Chg (fun _ => False) w11 W → Calls Tryz.prog 34 #[.agg (rowB 32 kf), .agg #[.int .i64 mc, .string mb]] W (Rets (.agg (recA kf mc ou)) (Chg (fun _ => False) W)) := fun W _ => HRR.out W
      have hrx : ∀ W, Chg (fun _ => False) w11 W → Calls Tryz.prog 34 #[.agg (rowB 32 key), .agg #[.int .i64 mc, .string mb]] W (Rets (.agg (recA key mc ou)) (Chg (fun _ => False) W)) := fun W _ => HRX.out W
      have hf1 : ∀ W, Chg (fun _ => False) w11 W → Calls Tryz.prog 35 #[.agg (recA kf mc ou), .agg #[.int .i64 mc, .string mb]] W (Rets (.bool true) (Chg (fun _ => False) W)) := fun W hW => (HF1.out W (HC11.out.trans hW (fun _ _ h => h))).mono (fun e w' ⟨b, h1, h2, h3⟩ => ⟨by rw [h1, h2.2 (by simp)], h3⟩)
      have hf2 : ∀ W, Chg (fun _ => False) w11 W → Calls Tryz.prog 35 #[.agg (recA key xc xo), .agg #[.int .i64 mc, .string mb]] W (Ans (xc = mc ∧ ∀ i, i < 32 → xo i = ou i) W) := fun W hW => HF2.out W (HC11.out.trans hW (fun _ _ h => h))
      have heqr : ∀ W, (binOp .eql 47 (.agg #[.int .i64 mc, .string mb]) (.agg #[.int .i64 mc, .string mb])).run Tryz.prog W = .ok (.bool true) W := fun W => by
        have hms : mb.size ≤ maxLen := by have h : mb.size ≤ 100000 := hrs; unfold maxLen; omega
        have := eq_res (mc, mb) (mc, mb) hrw hrw hms hms W
        rw [decide_eq_true rfl] at this
        exact this
      have heqt : ∀ W, (binOp .eql 67 (.agg (recA kf mc ou)) (.agg (recA kf mc ou))).run Tryz.prog W = .ok (.bool true) W := fun W => by
        obtain ⟨R, h1, h2⟩ := eq_rec kf kf mc mc hrw hrw ou ou W
        rw [h1, h2.2 ⟨fun _ _ => rfl, rfl, fun _ _ => rfl⟩]
      obtain ⟨R, hR1, hR2⟩ := eq_rec key key xc mc hxc hrw xo ou w11
      have hRR : ∀ W, (binOp .eql 67 (.agg (recA key xc xo)) (.agg (recA key mc ou))).run Tryz.prog W = .ok (.bool R) W := fun W => by
        obtain ⟨R', h1, h2⟩ := eq_rec key key xc mc hxc hrw xo ou W
        rw [h1, Bool.eq_iff_iff.2 (h2.trans hR2.symm)]
      have HRT : Hid (R = true ↔ (xc = mc ∧ ∀ i, i < 32 → xo i = ou i)) := hid (hR2.trans ⟨fun h => h.2, fun h => ⟨fun _ _ => rfl, h⟩⟩)
      clear hR1 hR2
      refine wp_region_held_drew (S := fun W => Chg (fun _ => False) w11 W) (by kernel_rfl) ((Chg.refl _ w11).drew) (fun hd => ?_)
      refine wpAnyH_takeD (i := 0) (v := .agg (rowB 32 kf).toList.toArray) (some 43) rfl (by kernel_rfl) (by kernel_rfl) (by kernel_rfl) (by kernel_rfl) (fun _ _ _ h => h) (yieldsIf_load_mid (by kernel_rfl) 57 (.tmp 9) (by kernel_rfl) d9 0 (by kernel_rfl) _ _ (fun W hW => (hS W hW).1) Tryz.underlying57 rfl (by rw [Array.length_toList, rowB_size]; kernel_rfl)) hd ?_
      refine wpAnyH_takeD (i := 1) (v := .string code) (some 44) rfl (by kernel_rfl) (by kernel_rfl) (by kernel_rfl) (by kernel_rfl) (fun _ _ _ h => h) (.inl ⟨by kernel_rfl, fun W _ => by kernel_rfl⟩) hd ?_
      refine wpAnyH_takeD (i := 2) (v := v) (some 45) rfl (by kernel_rfl) (by kernel_rfl) (by kernel_rfl) (by kernel_rfl) (fun _ _ _ h => h) (.inl ⟨by kernel_rfl, fun W _ => by kernel_rfl⟩) hd ?_
      try simp only [Act.put, List.setIfInBounds_toArray, List.set_cons_zero, List.set_cons_succ, Array.toArray_toList]
      refine wpAnyH_all (rs := [3]) (by kernel_rfl) (by simp) (fun i hi => ?_)
      obtain rfl : i = 3 := by simpa using hi
      refine wpOp_step rfl (fun K12 hK12 => ?_)
      refine Eq.mpr (if_pos (by kernel_rfl)) ?_
      go_wp2_with (go_at_call 32; refine (hrk _ hd).mono ?_; rintro e w12 ⟨rfl, hc12⟩)
      have hd12 : Chg (fun _ => False) w11 w12 := hd.trans hc12 (fun _ _ h => h)
      refine ⟨hd12, ?_⟩
      refine wpAnyH_takeD (i := 4) (v := .bool true) (some 47) rfl (by kernel_rfl) (by kernel_rfl) (by kernel_rfl) (by kernel_rfl) (fun _ _ _ h => h) (yieldsIf_eql (by kernel_rfl) 57 57 (.tmp 43) (.tmp 46) (by kernel_rfl) (rowB 32 kf) (rowB 32 kf) (by kernel_rfl) (by kernel_rfl) (by kernel_rfl) true (eq_dig_same _)) hd12 ?_
      refine wpAnyH_takeD (i := 5) (v := .bool true) (some 48) rfl (by kernel_rfl) (by kernel_rfl) (by kernel_rfl) (by kernel_rfl) (fun _ _ _ h => h) (.inl ⟨by kernel_rfl, fun W _ => by kernel_rfl⟩) hd12 ?_
      refine wpAnyH_takeD (i := 6) (v := .agg #[.int .i64 mc, .string mb]) (some 49) rfl (by kernel_rfl) (by kernel_rfl) (by kernel_rfl) (by kernel_rfl) (fun _ _ _ h => h) (yieldsIf_load_mid (by kernel_rfl) 47 (.tmp 8) (by kernel_rfl) b8 0 (by kernel_rfl) _ _ (fun W hW => (hS W hW).2.1) Tryz.underlying47 rfl (by kernel_rfl)) hd12 ?_
      refine wpAnyH_takeD (i := 7) (v := .string code) (some 50) rfl (by kernel_rfl) (by kernel_rfl) (by kernel_rfl) (by kernel_rfl) (fun _ _ _ h => h) (.inl ⟨by kernel_rfl, fun W _ => by kernel_rfl⟩) hd12 ?_
      refine wpAnyH_takeD (i := 8) (v := v) (some 51) rfl (by kernel_rfl) (by kernel_rfl) (by kernel_rfl) (by kernel_rfl) (fun _ _ _ h => h) (.inl ⟨by kernel_rfl, fun W _ => by kernel_rfl⟩) hd12 ?_
      try simp only [Act.put, List.setIfInBounds_toArray, List.set_cons_zero, List.set_cons_succ]
      refine wpAnyH_all (rs := [9]) (by kernel_rfl) (by simp) (fun i hi => ?_)
      obtain rfl : i = 9 := by simpa using hi
      refine wpOp_step rfl (fun K13 hK13 => ?_)
      refine Eq.mpr (if_pos (by kernel_rfl)) ?_
      go_wp2_with (go_at_call 33; refine (hrm _ hd12).mono ?_; rintro e w13 ⟨rfl, hc13⟩)
      have hd13 : Chg (fun _ => False) w11 w13 := hd12.trans hc13 (fun _ _ h => h)
      refine ⟨hd13, ?_⟩
      refine wpAnyH_takeD (i := 10) (v := .bool true) (some 53) rfl (by kernel_rfl) (by kernel_rfl) (by kernel_rfl) (by kernel_rfl) (fun _ _ _ h => h) (yieldsIf_eql (by kernel_rfl) 47 47 (.tmp 49) (.tmp 52) (by kernel_rfl) (#[.int .i64 mc, .string mb]) (#[.int .i64 mc, .string mb]) (by kernel_rfl) (by kernel_rfl) (by kernel_rfl) true (heqr)) hd13 ?_
      refine wpAnyH_takeD (i := 11) (v := .bool true) (some 54) rfl (by kernel_rfl) (by kernel_rfl) (by kernel_rfl) (by kernel_rfl) (fun _ _ _ h => h) (.inl ⟨by kernel_rfl, fun W _ => by kernel_rfl⟩) hd13 ?_
      refine wpAnyH_takeD (i := 12) (v := .bool true) (some 55) rfl (by kernel_rfl) (by kernel_rfl) (by kernel_rfl) (by kernel_rfl) (fun _ _ _ h => h) (.inl ⟨by kernel_rfl, fun W _ => by kernel_rfl⟩) hd13 ?_
      refine wpAnyH_takeD (i := 13) (v := .agg (recA kf mc ou).toList.toArray) (some 56) rfl (by kernel_rfl) (by kernel_rfl) (by kernel_rfl) (by kernel_rfl) (fun _ _ _ h => h) (yieldsIf_load_mid (by kernel_rfl) 67 (.tmp 10) (by kernel_rfl) b10 0 (by kernel_rfl) _ _ (fun W hW => (hS W hW).2.2.1) Tryz.underlying67 rfl (by rw [Array.length_toList, recA_size]; kernel_rfl)) hd13 ?_
      refine wpAnyH_takeD (i := 14) (v := .agg (rowB 32 kf).toList.toArray) (some 57) rfl (by kernel_rfl) (by kernel_rfl) (by kernel_rfl) (by kernel_rfl) (fun _ _ _ h => h) (yieldsIf_load_mid (by kernel_rfl) 57 (.tmp 9) (by kernel_rfl) d9 0 (by kernel_rfl) _ _ (fun W hW => (hS W hW).1) Tryz.underlying57 rfl (by rw [Array.length_toList, rowB_size]; kernel_rfl)) hd13 ?_
      refine wpAnyH_takeD (i := 15) (v := .agg #[.int .i64 mc, .string mb]) (some 58) rfl (by kernel_rfl) (by kernel_rfl) (by kernel_rfl) (by kernel_rfl) (fun _ _ _ h => h) (yieldsIf_load_mid (by kernel_rfl) 47 (.tmp 8) (by kernel_rfl) b8 0 (by kernel_rfl) _ _ (fun W hW => (hS W hW).2.1) Tryz.underlying47 rfl (by kernel_rfl)) hd13 ?_
      try simp only [Act.put, List.setIfInBounds_toArray, List.set_cons_zero, List.set_cons_succ, Array.toArray_toList]
      refine wpAnyH_all (rs := [16]) (by kernel_rfl) (by simp) (fun i hi => ?_)
      obtain rfl : i = 16 := by simpa using hi
      refine wpOp_step rfl (fun K14 hK14 => ?_)
      refine Eq.mpr (if_pos (by kernel_rfl)) ?_
      go_wp2_with (go_at_call 34; refine (hrr _ hd13).mono ?_; rintro e w14 ⟨rfl, hc14⟩)
      have hd14 : Chg (fun _ => False) w11 w14 := hd13.trans hc14 (fun _ _ h => h)
      refine ⟨hd14, ?_⟩
      refine wpAnyH_takeD (i := 17) (v := .bool true) (some 60) rfl (by kernel_rfl) (by kernel_rfl) (by kernel_rfl) (by kernel_rfl) (fun _ _ _ h => h) (yieldsIf_eql (by kernel_rfl) 67 67 (.tmp 56) (.tmp 59) (by kernel_rfl) (recA kf mc ou) (recA kf mc ou) (by kernel_rfl) (by kernel_rfl) (by kernel_rfl) true (heqt)) hd14 ?_
      refine wpAnyH_takeD (i := 18) (v := .bool true) (some 61) rfl (by kernel_rfl) (by kernel_rfl) (by kernel_rfl) (by kernel_rfl) (fun _ _ _ h => h) (.inl ⟨by kernel_rfl, fun W _ => by kernel_rfl⟩) hd14 ?_
      refine wpAnyH_takeD (i := 19) (v := .bool true) (some 62) rfl (by kernel_rfl) (by kernel_rfl) (by kernel_rfl) (by kernel_rfl) (fun _ _ _ h => h) (.inl ⟨by kernel_rfl, fun W _ => by kernel_rfl⟩) hd14 ?_
      refine wpAnyH_takeD (i := 20) (v := .agg (recA kf mc ou).toList.toArray) (some 63) rfl (by kernel_rfl) (by kernel_rfl) (by kernel_rfl) (by kernel_rfl) (fun _ _ _ h => h) (yieldsIf_load_mid (by kernel_rfl) 67 (.tmp 10) (by kernel_rfl) b10 0 (by kernel_rfl) _ _ (fun W hW => (hS W hW).2.2.1) Tryz.underlying67 rfl (by rw [Array.length_toList, recA_size]; kernel_rfl)) hd14 ?_
      refine wpAnyH_takeD (i := 21) (v := .agg #[.int .i64 mc, .string mb]) (some 64) rfl (by kernel_rfl) (by kernel_rfl) (by kernel_rfl) (by kernel_rfl) (fun _ _ _ h => h) (yieldsIf_load_mid (by kernel_rfl) 47 (.tmp 8) (by kernel_rfl) b8 0 (by kernel_rfl) _ _ (fun W hW => (hS W hW).2.1) Tryz.underlying47 rfl (by kernel_rfl)) hd14 ?_
      try simp only [Act.put, List.setIfInBounds_toArray, List.set_cons_zero, List.set_cons_succ, Array.toArray_toList]
      refine wpAnyH_all (rs := [22]) (by kernel_rfl) (by simp) (fun i hi => ?_)
      obtain rfl : i = 22 := by simpa using hi
      refine wpOp_step rfl (fun K15 hK15 => ?_)
      refine Eq.mpr (if_pos (by kernel_rfl)) ?_
      go_wp2_with (go_at_call 35; refine (hf1 _ hd14).mono ?_; rintro e w15 ⟨rfl, hc15⟩)
      have hd15 : Chg (fun _ => False) w11 w15 := hd14.trans hc15 (fun _ _ h => h)
      refine ⟨hd15, ?_⟩
      refine wpAnyH_takeD (i := 23) (v := .bool true) (some 66) rfl (by kernel_rfl) (by kernel_rfl) (by kernel_rfl) (by kernel_rfl) (fun _ _ _ h => h) (.inl ⟨by kernel_rfl, fun W _ => by kernel_rfl⟩) hd15 ?_
      refine wpAnyH_takeD (i := 24) (v := .bool true) (some 67) rfl (by kernel_rfl) (by kernel_rfl) (by kernel_rfl) (by kernel_rfl) (fun _ _ _ h => h) (.inl ⟨by kernel_rfl, fun W _ => by kernel_rfl⟩) hd15 ?_
      refine wpAnyH_takeD (i := 25) (v := .agg (recA key xc xo).toList.toArray) (some 68) rfl (by kernel_rfl) (by kernel_rfl) (by kernel_rfl) (by kernel_rfl) (fun _ _ _ h => h) (yieldsIf_load_mid (by kernel_rfl) 67 (.tmp 5) (by kernel_rfl) b5 0 (by kernel_rfl) _ _ (fun W hW => (hS W hW).2.2.2.1) Tryz.underlying67 rfl (by rw [Array.length_toList, recA_size]; kernel_rfl)) hd15 ?_
      refine wpAnyH_takeD (i := 26) (v := .agg #[.int .i64 mc, .string mb]) (some 69) rfl (by kernel_rfl) (by kernel_rfl) (by kernel_rfl) (by kernel_rfl) (fun _ _ _ h => h) (yieldsIf_load_mid (by kernel_rfl) 47 (.tmp 8) (by kernel_rfl) b8 0 (by kernel_rfl) _ _ (fun W hW => (hS W hW).2.1) Tryz.underlying47 rfl (by kernel_rfl)) hd15 ?_
      refine wpAnyH_takeD (i := 28) (v := .agg (recA key xc xo).toList.toArray) (some 71) rfl (by kernel_rfl) (by kernel_rfl) (by kernel_rfl) (by kernel_rfl) (fun _ _ _ h => h) (yieldsIf_load_mid (by kernel_rfl) 67 (.tmp 5) (by kernel_rfl) b5 0 (by kernel_rfl) _ _ (fun W hW => (hS W hW).2.2.2.1) Tryz.underlying67 rfl (by rw [Array.length_toList, recA_size]; kernel_rfl)) hd15 ?_
      refine wpAnyH_takeD (i := 29) (v := .pointer (some ⟨b5, 0, none⟩)) (some 72) rfl (by kernel_rfl) (by kernel_rfl) (by kernel_rfl) (by kernel_rfl) (fun _ _ _ h => h) (.inl ⟨by kernel_rfl, fun W _ => by kernel_rfl⟩) hd15 ?_
      refine wpAnyH_takeD (i := 30) (v := .agg (rowB 32 key).toList.toArray) (some 73) rfl (by kernel_rfl) (by kernel_rfl) (by kernel_rfl) (by kernel_rfl) (fun _ _ _ h => h) (yieldsIf_load_mid (by kernel_rfl) 57 (.tmp 72) (by kernel_rfl) b5 0 (by kernel_rfl) _ _ (fun W hW => (hS W hW).2.2.2.2) Tryz.underlying57 rfl (by rw [Array.length_toList, rowB_size]; kernel_rfl)) hd15 ?_
      refine wpAnyH_takeD (i := 31) (v := .agg #[.int .i64 mc, .string mb]) (some 74) rfl (by kernel_rfl) (by kernel_rfl) (by kernel_rfl) (by kernel_rfl) (fun _ _ _ h => h) (yieldsIf_load_mid (by kernel_rfl) 47 (.tmp 8) (by kernel_rfl) b8 0 (by kernel_rfl) _ _ (fun W hW => (hS W hW).2.1) Tryz.underlying47 rfl (by kernel_rfl)) hd15 ?_
      try simp only [Act.put, List.setIfInBounds_toArray, List.set_cons_zero, List.set_cons_succ, Array.toArray_toList]
      refine wpAnyH_all (rs := [27]) (by kernel_rfl) (by simp) (fun i hi => ?_)
      obtain rfl : i = 27 := by simpa using hi
      refine wpOp_step rfl (fun K16 hK16 => ?_)
      refine Eq.mpr (if_pos (by kernel_rfl)) ?_
      go_wp2_with (go_at_call 35; refine (hf2 _ hd15).mono ?_; rintro e w16 ⟨B, rfl, hB16, hc16⟩; have HB16 := hid hB16; clear hB16)
      have hd16 : Chg (fun _ => False) w11 w16 := hd15.trans hc16 (fun _ _ h => h)
      refine ⟨hd16, ?_⟩
      try simp only [Act.put, List.setIfInBounds_toArray, List.set_cons_zero, List.set_cons_succ, Array.toArray_toList]
      refine wpAnyH_all (rs := [32]) (by kernel_rfl) (by simp) (fun i hi => ?_)
      obtain rfl : i = 32 := by simpa using hi
      refine wpOp_step rfl (fun K17 hK17 => ?_)
      refine Eq.mpr (if_pos (by kernel_rfl)) ?_
      go_wp2_with (go_at_call 34; refine (hrx _ hd16).mono ?_; rintro e w17 ⟨rfl, hc17⟩)
      have hd17 : Chg (fun _ => False) w11 w17 := hd16.trans hc17 (fun _ _ h => h)
      refine ⟨hd17, ?_⟩
      have hbr : B = R := Bool.eq_iff_iff.2 (HB16.out.trans HRT.out.symm)
      subst hbr
      refine wpAnyH_takeD (i := 33) (v := .bool B) (some 76) rfl (by kernel_rfl) (by kernel_rfl) (by kernel_rfl) (by kernel_rfl) (fun _ _ _ h => h) (yieldsIf_eql (by kernel_rfl) 67 67 (.tmp 71) (.tmp 75) (by kernel_rfl) (recA key xc xo) (recA key mc ou) (by kernel_rfl) (by kernel_rfl) (by kernel_rfl) B (hRR)) hd17 ?_
      have hbb : (B == B) = true := by simp
      refine wpAnyH_takeD (i := 34) (v := .bool true) (some 77) rfl (by kernel_rfl) (by kernel_rfl) (by kernel_rfl) (by kernel_rfl) (fun _ _ _ h => h) (.inl ⟨by kernel_rfl, fun W _ => by cases B <;> kernel_rfl⟩) hd17 ?_
      refine wpAnyH_takeD (i := 35) (v := .bool true) (some 78) rfl (by kernel_rfl) (by kernel_rfl) (by kernel_rfl) (by kernel_rfl) (fun _ _ _ h => h) (.inl ⟨by kernel_rfl, fun W _ => by kernel_rfl⟩) hd17 ?_
      refine wpAnyH_takeD (i := 36) (v := .bool true) (some 6) rfl (by kernel_rfl) (by kernel_rfl) (by kernel_rfl) (by kernel_rfl) (fun _ _ _ h => h) (.inl ⟨by kernel_rfl, fun W _ => by kernel_rfl⟩) hd17 ?_
      simp only [Act.put, List.setIfInBounds_toArray, List.set_cons_zero, List.set_cons_succ]
      refine wpAnyH_done (by kernel_rfl) ?_ _
      have HF := hid (HC11.out.trans hd17 (fun _ _ h => h))
      clear hd hd12 hd13 hd14 hd15 hd16 hd17 hc12 hc13 hc14 hc15 hc16 hc17 hS hrk hrm hrr hrx hf1 hf2 heqr heqt hRR
      go_wp2_with fail
      go_ret
      exact ⟨rfl, HF.out⟩
end Go.Proofs.YthglfmacjoecgaaGreatDoor
