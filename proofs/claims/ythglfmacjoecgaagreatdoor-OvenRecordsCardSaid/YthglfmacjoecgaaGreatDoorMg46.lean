/- Texts of the proof, one behind the other: OvenRecords walked: it returns true. -/
import Derived.Test.YthglfmacjoecgaaGreatDoorMg43
import Derived.Test.YthglfmacjoecgaaGreatDoorMg39
import Derived.Deep.QuietTactic
import Derived.BigQuiet
namespace Go.Proofs.YthglfmacjoecgaaGreatDoor
open Go.RowKit

theorem fits_same (a b : ResR) (S : Bool) (hS : S = true ↔ (a.1 = b.1 ∧ (a.1 ≠ 0 ∨ a.2 = b.2))) (hn : S = false → a.1 = b.1 → ¬ ∀ i, i < 32 → ofB [a.2] i = ofB [b.2] i) : (a.1 = b.1 ∧ ∀ i, i < 32 → outF a i = outF b i) ↔ S = true := by
  constructor
  · rintro ⟨h1, h2⟩
    cases S with
    | true => rfl
    | false =>
      by_cases h0 : a.1 = 0
      · refine absurd (fun i hi => ?_) (hn rfl h1)
        have := h2 i hi
        unfold outF at this
        rwa [if_pos h0, if_pos (h1 ▸ h0)] at this
      · exact absurd (hS.2 ⟨h1, .inl h0⟩) (by simp)
  · intro h
    obtain ⟨h1, h2⟩ := hS.1 h
    refine ⟨h1, fun i _ => ?_⟩
    unfold outF
    by_cases h0 : a.1 = 0
    · rw [if_pos h0, if_pos (h1 ▸ h0), h2.resolve_left (fun h => h h0)]
    · rw [if_neg h0, if_neg (h1 ▸ h0)]
/-- stamp.Of at one text in a row of one. -/
theorem of_at {B : Nat} (x : ByteArray) (hx : x.size ≤ 100000) (b : Nat) (w : World) (hT : TabsOK B w) (hc : w.cell? ⟨b, 0, none⟩ = some (.string x)) :
    Calls Tryz.prog 28 #[.slice (some ⟨b, 0, none⟩) 1 1] w (Rets (.agg (rowB 32 (ofB [x]))) (Chg (fun _ => False) w)) := by
  refine of_any _ [x] b 1 1 rfl (by simp) (by simp [sumSize]; omega) (fun i hi => ?_) (World.block_lt_of_cell? w ⟨b, 0, none⟩ hc) hT.wds (World.block_lt_of_cell? w ⟨gWds, 0, none⟩ (hT.wds.cell wdsG 0 (by decide)))
  obtain rfl : i = 0 := by simp at hi; omega
  exact hc
theorem of_oneD {B : Nat} (x : ByteArray) (hx : x.size ≤ 100000) (w : World) (hT : TabsOK B w) (_hB : B ≤ w.heap.size) :
    Calls Tryz.prog 28 #[.slice (some ⟨w.heap.size, 0, none⟩) 1 1] (w.alloc (.cells #[.string x] 9)).drew (Rets (.agg (rowB 32 (ofB [x]))) (Chg (fun _ => False) (w.alloc (.cells #[.string x] 9)).drew)) :=
  of_at x hx w.heap.size _ (hT.keep (((Chg.refl (fun _ => False) w).alloc (.cells #[.string x] 9)).drew)) (cell_of (heap_alloc_new' w _) 0)
theorem rec_code {W : World} {d : Nat} {key : Nat → UInt8} {c : Int} {out : Nat → UInt8} {T : TypeId} {fz : Nat × Nat} (h : W.heap[d]? = some (.cells (recA key c out) T fz)) : W.cell? ⟨d, 32, none⟩ = some (.int .i64 c) := by
  have hl : (rowB 32 key).toList.length = 32 := by simp [rowB_size]
  rw [cell_of h, ← Array.getElem?_toList, recA_list, List.getElem?_append_right (by omega), hl]
  rfl
theorem rec_out {W : World} {d : Nat} {key : Nat → UInt8} {c : Int} {out : Nat → UInt8} {T : TypeId} {fz : Nat × Nat} (h : W.heap[d]? = some (.cells (recA key c out) T fz)) : W.rangeAt d 33 (rowB 32 out).toList := by
  intro j v hv
  have hl : (rowB 32 key).toList.length = 32 := by simp [rowB_size]
  rw [cell_of h, ← Array.getElem?_toList, recA_list, List.getElem?_append_right (by omega), hl, show 33 + j - 32 = j + 1 by omega]
  exact hv
set_option maxRecDepth 100000 in
set_option maxHeartbeats 4000000 in
theorem orecords_any {B : Nat} (key : Nat → UInt8) (a b : ResR) (ha : (Lit.int .i64 a.1).wf = true) (hb : (Lit.int .i64 b.1).wf = true) (za : a.2.size ≤ maxLen) (zb : b.2.size ≤ maxLen) (w : World) (hT : TabsOK B w) (hB : B ≤ w.heap.size) :
    Calls Tryz.prog 8 #[.agg (rowB 32 key), resW a, resW b] w (Rets (.bool true) (Chg (fun _ => False) w)) := by
  obtain ⟨ac, ab⟩ := a
  obtain ⟨bc, bb⟩ := b
  unfold resW maxLen at *
  simp only at ha hb za zb ⊢
  have HT := hid hT
  have HBB := hid hB
  clear hT hB
  go_enter Tryz.func8, Tryz.ntmps8
  go_wp2_with (guard_target =~ wpList _ _ _ (Oper.mk (some 3) _ _ _ _ _ :: _) _ _; refine wpList_box1 rfl 57 _ rfl (rowB 32 key) rfl ?_; intro w1 hk1 hs1 hc1; have HK1 := hid hk1; have HC1 := hid hc1; have HS1 := hid hs1; clear hs1 hk1 hc1)
  have hcw1 : Chg (fun _ => False) w ((w1.alloc (.cells #[.int .i64 ac, .string ab] 47)).alloc (.cells #[.int .i64 bc, .string bb] 47)) := (HC1.out.alloc _).alloc _
  refine (oawake_any _ (HT.out.keep hcw1) (Nat.le_trans HBB.out hcw1.size)).mono ?_
  rintro e w2 ⟨rfl, hc2⟩
  have HC2 := hid (hcw1.trans hc2 (fun _ _ h => h))
  have HK2 := hid (hc2.obj (heap_alloc_old' (heap_alloc_old' HK1.out (.cells #[.int .i64 ac, .string ab] 47)) (.cells #[.int .i64 bc, .string bb] 47)) (fun h => h))
  have HA2 := hid (hc2.obj (heap_alloc_old' (heap_alloc_new' w1 (.cells #[.int .i64 ac, .string ab] 47)) (.cells #[.int .i64 bc, .string bb] 47)) (fun h => h))
  have hb2 := hc2.obj (heap_alloc_new' (w1.alloc (.cells #[.int .i64 ac, .string ab] 47)) (.cells #[.int .i64 bc, .string bb] 47)) (fun h => h)
  rw [show (w1.alloc (.cells #[.int .i64 ac, .string ab] 47)).heap.size = w1.heap.size + 1 by simp] at hb2
  obtain ⟨b3, hb3⟩ : ∃ b3, b3 = w.heap.size := ⟨_, rfl⟩
  obtain ⟨b4, hb4⟩ : ∃ b4, b4 = w1.heap.size := ⟨_, rfl⟩
  obtain ⟨b5, hb5⟩ : ∃ b5, b5 = w1.heap.size + 1 := ⟨_, rfl⟩
  rw [← hb5, ← hb4, ← hb3]
  rw [← hb5] at hb2
  rw [← hb4] at HA2
  rw [← hb3] at HK2
  have HB2 := hid hb2
  clear hb2 hb3 hb4 hb5 hc2 hcw1 HK1 HC1 HS1
  have a0 := cell_of HA2.out 0
  have a1 := cell_of HA2.out 1
  have c0 := cell_of HB2.out 0
  have c1 := cell_of HB2.out 1
  simp at a0 a1 c0 c1
  by_cases hza : 1000 < ab.size
  · have h1 : (1000 : Int) < ab.size := by omega
    go_wp2_with fail
    go_ret
    exact ⟨rfl, HC2.out⟩
  have h1 : ¬ (1000 : Int) < ab.size := by omega
  by_cases hzb : 1000 < bb.size
  · have h2 : (1000 : Int) < bb.size := by omega
    go_wp2_with fail
    go_ret
    exact ⟨rfl, HC2.out⟩
  have h2 : ¬ (1000 : Int) < bb.size := by omega
  have hab' : ab.size ≤ 100000 := by omega
  have hbb' : bb.size ≤ 100000 := by omega
  have hrec := record_any key (ac, ab) hab' w2 (HT.out.keep HC2.out) (Nat.le_trans HBB.out HC2.out.size)
  unfold recV at hrec
  obtain ⟨ou, hou⟩ : ∃ ou, ou = outF (ac, ab) := ⟨_, rfl⟩
  rw [← hou] at hrec
  have HOU := hid hou
  have hrec2 : Calls Tryz.prog 31 #[.agg (rowB 32 key), .agg #[.int .i64 ac, .string ab]] w2 (Rets (.agg (recA key ac ou)) (Chg (fun _ => False) w2)) := hrec
  clear hrec hou
  go_upto_region 6 with (first | (guard_target =~ wpList _ _ _ (Oper.mk (some 21) _ _ _ _ _ :: _) _ _; refine wpList_load0 rfl 57 _ rfl b3 (rowB 32 key) (.array 32 5) rfl HK2.out Tryz.underlying57 rfl (by rw [rowB_size]; kernel_rfl) ?_) | (go_at_call 31; refine hrec2.mono ?_; rintro e w4 ⟨rfl, hc4⟩; have HK4 := hid (hc4.obj HK2.out (fun h => h)); have HA4 := hid (hc4.obj HA2.out (fun h => h)); have HB4 := hid (hc4.obj HB2.out (fun h => h)); have HC4 := hid (HC2.out.trans hc4 (fun _ _ h => h)); clear hc4 a0 a1 c0 c1) | (guard_target =~ wpList _ _ _ (Oper.mk (some 7) _ _ _ _ _ :: _) _ _; refine wpList_alloc0 rfl 67 rfl (recA zeroF 0 zeroF) (allocRec _) ?_; intro w5 hk5 hs5 hc5; have HX5 := hid hk5; have HK5 := hid (hc5.obj HK4.out (fun h => h)); have HA5 := hid (hc5.obj HA4.out (fun h => h)); have HB5 := hid (hc5.obj HB4.out (fun h => h)); have HC5 := hid (HC4.out.trans hc5 (fun _ _ h => h)); clear hk5 hs5 hc5) | (guard_target =~ wpList _ _ _ (Oper.mk none (Op.store _ (Operand.tmp 7) _) _ _ _ _ :: _) _ _; refine wpList_store0 rfl 67 _ _ rfl w4.heap.size (recA zeroF 0 zeroF) (recA key ac ou) rfl rfl HX5.out (by rw [recA_size]; exact sizeRec) (by rw [recA_size, recA_size]) (recA_one _ _ _) ?_; intro w6 hk6 hs6 hc6; have HX6 := hid hk6; have HK6 := hid (hc6.obj HK5.out (by have := heap_lt HK4.out; omega)); have HA6 := hid (hc6.obj HA5.out (by have := heap_lt HA4.out; omega)); have HB6' := hid (hc6.obj HB5.out (by have := heap_lt HB4.out; omega)); have HC6 := hid (HC5.out.trans hc6 (fun i hi h => by have := HC4.out.size; omega)); clear hk6 hs6 hc6))
  obtain ⟨b7, hb7⟩ : ∃ b7, b7 = w4.heap.size := ⟨_, rfl⟩
  rw [← hb7] at HX6 ⊢
  clear hb7 hrec2 h1 h2 hza hzb HX5 HK5 HA5 HB5 HC5 HK4 HA4 HB4 HC4 HK2 HA2 HB2
  have HT6 := hid (HT.out.keep HC6.out)
  have HB6 : Hid (B ≤ w6.heap.size) := hid (Nat.le_trans HBB.out HC6.out.size)
  have hcl : ∀ W, Chg (fun _ => False) w6 W → W.cell? ⟨b4, 0, none⟩ = some (.int .i64 ac) ∧ W.cell? ⟨b4, 1, none⟩ = some (.string ab) ∧ W.cell? ⟨b5, 0, none⟩ = some (.int .i64 bc) ∧ W.cell? ⟨b5, 1, none⟩ = some (.string bb) := fun W hW =>
    ⟨(cell_of (hW.obj HA6.out (fun h => h)) 0).trans rfl, (cell_of (hW.obj HA6.out (fun h => h)) 1).trans rfl, (cell_of (hW.obj HB6'.out (fun h => h)) 0).trans rfl, (cell_of (hW.obj HB6'.out (fun h => h)) 1).trans rfl⟩
  have HCL := hid hcl
  clear hcl
  go_frame
  go_cut [8] from 24 to 40 (fun s8 wx => ∃ S : Bool, s8 = .bool S ∧ (S = true ↔ (ac = bc ∧ (ac ≠ 0 ∨ ab = bb))) ∧ w6 = wx)
  case first =>
    obtain ⟨a0, a1, c0, c1⟩ := HCL.out w6 (Chg.refl _ _)
    by_cases hcc : ac = bc
    · subst hcc
      by_cases h0 : ac = 0
      · subst h0
        have hbq : (ab.toList == bb.toList) = decide (ab = bb) := by
          rw [Bool.eq_iff_iff, beq_iff_eq, decide_eq_true_iff]
          exact ⟨fun h => ByteArray.ext (Array.toList_inj.1 (by rw [← Lib.toList_data, ← Lib.toList_data]; exact h)), fun h => by rw [h]⟩
        have hqq : Hid (decide (ab = bb) = true ↔ ((0 : Int) = 0 ∧ ((0 : Int) ≠ 0 ∨ ab = bb))) := hid (by simp)
        generalize decide (ab = bb) = S at *
        go_wp2_with fail
        go_meet
        exact ⟨S, rfl, hqq.out, rfl⟩
      · have hne : (ac == 0) = false := by rw [beq_eq_false_iff_ne]; exact h0
        go_wp2_with fail
        go_meet
        exact ⟨true, rfl, by simp [h0], rfl⟩
    · have hne : (ac == bc) = false := by rw [beq_eq_false_iff_ne]; exact hcc
      go_wp2_with fail
      go_meet
      exact ⟨false, rfl, by simp [hcc], rfl⟩
  case rest =>
   obtain ⟨S, rfl, hS1, rfl⟩ := hcut
   have HS1 := hid hS1
   clear hS1
   go_upto_region 7 with fail
   go_cut [60] from 41 to 59 (fun s60 wx => ∃ R : Bool, s60 = .bool R ∧ (R = false → S = false → ac = bc → ¬ ∀ i, i < 32 → ofB [ab] i = ofB [bb] i) ∧ Chg (fun _ => False) w6 wx)
   case first =>
    obtain ⟨a0, a1, c0, c1⟩ := HCL.out w6 (Chg.refl _ _)
    cases S with
    | true =>
      go_quiet (fail)
      go_wp2_with fail
      go_meet
      exact ⟨false, rfl, (fun _ h => by cases h), (Chg.refl _ _).drewN _⟩
    | false =>
     by_cases hcc : ac = bc
     · subst hcc
       have h0 : ac = 0 := by
         have := HS1.out
         simp at this
         exact this.1
       subst h0
       ·  skip
          obtain ⟨R, hR1, hR2⟩ := eq_dig (ofB [ab]) (ofB [bb]) w6
          have HR2 := hid hR2
          have hRR : ∀ W, (binOp .eql 57 (.agg (rowB 32 (ofB [ab]))) (.agg (rowB 32 (ofB [bb])))).run Tryz.prog W = .ok (.bool R) W := fun W => by
            obtain ⟨R', g1, g2⟩ := eq_dig (ofB [ab]) (ofB [bb]) W
            rw [g1, Bool.eq_iff_iff.2 (g2.trans HR2.out.symm)]
          clear hR1 hR2
          have hS : ∀ W, Chg (fun _ => False) w6 W → W.cell? ⟨b4, 0, none⟩ = some (.int .i64 0) ∧ W.cell? ⟨b4, 1, none⟩ = some (.string ab) ∧ W.cell? ⟨b5, 0, none⟩ = some (.int .i64 0) ∧ W.cell? ⟨b5, 1, none⟩ = some (.string bb) := HCL.out
          have hd0 : Chg (fun _ => False) w6 w6 := Chg.refl _ _
          refine wp_region_held_drew (S := fun W => Chg (fun _ => False) w6 W) (by kernel_rfl) ((Chg.refl _ w6).drew) (fun hd => ?_)
          refine wpAnyH_takeD (i := 0) (v := .bool false) (some 41) rfl (by kernel_rfl) (by kernel_rfl) (by kernel_rfl) (by kernel_rfl) (fun _ _ _ h => h) (.inl ⟨by kernel_rfl, fun W _ => by kernel_rfl⟩) hd ?_
          refine wpAnyH_takeD (i := 1) (v := .bool true) (some 42) rfl (by kernel_rfl) (by kernel_rfl) (by kernel_rfl) (by kernel_rfl) (fun _ _ _ h => h) (.inl ⟨by kernel_rfl, fun W _ => by kernel_rfl⟩) hd ?_
          refine wpAnyH_takeD (i := 2) (v := .bool true) (some 43) rfl (by kernel_rfl) (by kernel_rfl) (by kernel_rfl) (by kernel_rfl) (fun _ _ _ h => h) (.inl ⟨by kernel_rfl, fun W _ => by kernel_rfl⟩) hd ?_
          refine wpAnyH_takeD (i := 3) (v := .pointer (some ⟨b4, 0, none⟩)) (some 44) rfl (by kernel_rfl) (by kernel_rfl) (by kernel_rfl) (by kernel_rfl) (fun _ _ _ h => h) (.inl ⟨by kernel_rfl, fun W _ => by kernel_rfl⟩) hd ?_
          refine wpAnyH_takeD (i := 4) (v := .int .i64 0) (some 45) rfl (by kernel_rfl) (by kernel_rfl) (by kernel_rfl) (by kernel_rfl) (fun _ _ _ h => h) (yieldsIf_load1 (by kernel_rfl) 30 (.tmp 44) (by kernel_rfl) b4 0 _ (by kernel_rfl) (fun W hW => load_err (hS W hW).1)) hd ?_
          refine wpAnyH_takeD (i := 5) (v := .pointer (some ⟨b5, 0, none⟩)) (some 46) rfl (by kernel_rfl) (by kernel_rfl) (by kernel_rfl) (by kernel_rfl) (fun _ _ _ h => h) (.inl ⟨by kernel_rfl, fun W _ => by kernel_rfl⟩) hd ?_
          refine wpAnyH_takeD (i := 6) (v := .int .i64 0) (some 47) rfl (by kernel_rfl) (by kernel_rfl) (by kernel_rfl) (by kernel_rfl) (fun _ _ _ h => h) (yieldsIf_load1 (by kernel_rfl) 30 (.tmp 46) (by kernel_rfl) b5 0 _ (by kernel_rfl) (fun W hW => load_err (hS W hW).2.2.1)) hd ?_
          refine wpAnyH_takeD (i := 7) (v := .bool true) (some 48) rfl (by kernel_rfl) (by kernel_rfl) (by kernel_rfl) (by kernel_rfl) (fun _ _ _ h => h) (.inl ⟨by kernel_rfl, fun W _ => by kernel_rfl⟩) hd ?_
          refine wpAnyH_takeD (i := 8) (v := .bool true) (some 49) rfl (by kernel_rfl) (by kernel_rfl) (by kernel_rfl) (by kernel_rfl) (fun _ _ _ h => h) (.inl ⟨by kernel_rfl, fun W _ => by kernel_rfl⟩) hd ?_
          refine wpAnyH_takeD (i := 9) (v := .bool true) (some 50) rfl (by kernel_rfl) (by kernel_rfl) (by kernel_rfl) (by kernel_rfl) (fun _ _ _ h => h) (.inl ⟨by kernel_rfl, fun W _ => by kernel_rfl⟩) hd ?_
          refine wpAnyH_takeD (i := 10) (v := .pointer (some ⟨b4, 1, none⟩)) (some 51) rfl (by kernel_rfl) (by kernel_rfl) (by kernel_rfl) (by kernel_rfl) (fun _ _ _ h => h) (.inl ⟨by kernel_rfl, fun W _ => by kernel_rfl⟩) hd ?_
          refine wpAnyH_takeD (i := 11) (v := .string ab) (some 52) rfl (by kernel_rfl) (by kernel_rfl) (by kernel_rfl) (by kernel_rfl) (fun _ _ _ h => h) (yieldsIf_load1 (by kernel_rfl) 9 (.tmp 51) (by kernel_rfl) b4 1 _ (by kernel_rfl) (fun W hW => load_str (hS W hW).2.1)) hd ?_
          refine wpAnyH_takeD (i := 14) (v := .pointer (some ⟨b5, 1, none⟩)) (some 55) rfl (by kernel_rfl) (by kernel_rfl) (by kernel_rfl) (by kernel_rfl) (fun _ _ _ h => h) (.inl ⟨by kernel_rfl, fun W _ => by kernel_rfl⟩) hd ?_
          refine wpAnyH_takeD (i := 15) (v := .string bb) (some 56) rfl (by kernel_rfl) (by kernel_rfl) (by kernel_rfl) (by kernel_rfl) (fun _ _ _ h => h) (yieldsIf_load1 (by kernel_rfl) 9 (.tmp 55) (by kernel_rfl) b5 1 _ (by kernel_rfl) (fun W hW => load_str (hS W hW).2.2.2)) hd ?_
          try simp only [Act.put, List.setIfInBounds_toArray, List.set_cons_zero, List.set_cons_succ]
          refine wpAnyH_all (rs := [12, 16]) (by kernel_rfl) (by simp) (fun i hi => ?_)
          have hi2 : i = 12 ∨ i = 16 := by simpa using hi
          rcases hi2 with rfl | rfl
          · skip
            refine wpOp_step rfl (fun K1 hK1 => ?_)
            refine Eq.mpr (if_pos (by kernel_rfl)) ?_
            go_wp2_with fail
            have hd1 : Chg (fun _ => False) w6 (w6.alloc (.cells #[.string ab] 9)).drew := (hd0.alloc _).drew
            refine ⟨hd1, ?_⟩
            try simp only [Act.put, List.setIfInBounds_toArray, List.set_cons_zero, List.set_cons_succ, Array.toArray_toList]
            refine wpAnyH_all (rs := [13, 16]) (by kernel_rfl) (by simp) (fun i hi => ?_)
            have hi2 : i = 13 ∨ i = 16 := by simpa using hi
            rcases hi2 with rfl | rfl
            · skip
              refine wpOp_step rfl (fun K2 hK2 => ?_)
              refine Eq.mpr (if_pos (by kernel_rfl)) ?_
              go_wp2_with (go_at_call 28; refine (of_oneD ab hab' w6 (HT6.out) HB6.out).mono ?_; rintro e w7 ⟨rfl, hcw7⟩)
              have hd2 : Chg (fun _ => False) w6 w7 := hd1.trans hcw7 (fun _ _ h => h)
              refine ⟨hd2, ?_⟩
              try simp only [Act.put, List.setIfInBounds_toArray, List.set_cons_zero, List.set_cons_succ, Array.toArray_toList]
              refine wpAnyH_all (rs := [16]) (by kernel_rfl) (by simp) (fun i hi => ?_)
              obtain rfl : i = 16 := by simpa using hi
              refine wpOp_step rfl (fun K3 hK3 => ?_)
              refine Eq.mpr (if_pos (by kernel_rfl)) ?_
              go_wp2_with fail
              have hd3 : Chg (fun _ => False) w6 (w7.alloc (.cells #[.string bb] 9)) := hd2.alloc _
              refine ⟨hd3, ?_⟩
              try simp only [Act.put, List.setIfInBounds_toArray, List.set_cons_zero, List.set_cons_succ, Array.toArray_toList]
              refine wpAnyH_all (rs := [17]) (by kernel_rfl) (by simp) (fun i hi => ?_)
              obtain rfl : i = 17 := by simpa using hi
              refine wpOp_step rfl (fun K4 hK4 => ?_)
              refine Eq.mpr (if_pos (by kernel_rfl)) ?_
              go_wp2_with (go_at_call 28; refine (of_one bb hbb' w7 (HT6.out.keep hd2) (Nat.le_trans HB6.out hd2.size)).mono ?_; rintro e w8 ⟨rfl, hcw8⟩)
              have hd4 : Chg (fun _ => False) w6 w8 := hd3.trans hcw8 (fun _ _ h => h)
              refine ⟨hd4, ?_⟩
              refine wpAnyH_takeD (i := 18) (v := .bool R) (some 59) rfl (by kernel_rfl) (by kernel_rfl) (by kernel_rfl) (by kernel_rfl) (fun _ _ _ h => h) (yieldsIf_eql (by kernel_rfl) 57 57 (.tmp 54) (.tmp 58) (by kernel_rfl) (rowB 32 (ofB [ab])) (rowB 32 (ofB [bb])) (by kernel_rfl) (by kernel_rfl) (by kernel_rfl) R hRR) hd4 ?_
              refine wpAnyH_takeD (i := 19) (v := .bool R) (some 60) rfl (by kernel_rfl) (by kernel_rfl) (by kernel_rfl) (by kernel_rfl) (fun _ _ _ h => h) (.inl ⟨by kernel_rfl, fun W _ => by kernel_rfl⟩) hd4 ?_
              try simp only [Act.put, List.setIfInBounds_toArray, List.set_cons_zero, List.set_cons_succ]
              refine wpAnyH_done (by kernel_rfl) ?_ _
              have HF := hid hd4
              go_wp2_with fail
              go_meet
              exact ⟨R, rfl, (fun hR _ _ h => by have := HR2.out.2 h; rw [hR] at this; cases this), HF.out⟩
            · skip
              refine wpOp_step rfl (fun K2 hK2 => ?_)
              refine Eq.mpr (if_pos (by kernel_rfl)) ?_
              go_wp2_with fail
              have hd2 : Chg (fun _ => False) w6 ((w6.alloc (.cells #[.string ab] 9)).alloc (.cells #[.string bb] 9)).drew := ((hd0.alloc _).alloc _).drew
              refine ⟨hd2, ?_⟩
              try simp only [Act.put, List.setIfInBounds_toArray, List.set_cons_zero, List.set_cons_succ, Array.toArray_toList]
              refine wpAnyH_all (rs := [13]) (by kernel_rfl) (by simp) (fun i hi => ?_)
              obtain rfl : i = 13 := by simpa using hi
              have hqa : (((w6.alloc (.cells #[.string ab] 9)).alloc (.cells #[.string bb] 9)).drew).cell? ⟨w6.heap.size, 0, none⟩ = some (.string ab) := cell_of (heap_alloc_old' (heap_alloc_new' w6 (.cells #[.string ab] 9)) (.cells #[.string bb] 9)) 0
              have hqb : (((w6.alloc (.cells #[.string ab] 9)).alloc (.cells #[.string bb] 9)).drew).cell? ⟨w6.heap.size + 1, 0, none⟩ = some (.string bb) := by
                have h := cell_of (heap_alloc_new' (w6.alloc (.cells #[.string ab] 9)) (.cells #[.string bb] 9)) 0
                rw [show (w6.alloc (.cells #[.string ab] 9)).heap.size = w6.heap.size + 1 by simp] at h
                exact h
              refine wpOp_step rfl (fun K3 hK3 => ?_)
              refine Eq.mpr (if_pos (by kernel_rfl)) ?_
              go_wp2_with (go_at_call 28; refine (of_at ab hab' w6.heap.size _ (HT6.out.keep hd2) hqa).mono ?_; rintro e w7 ⟨rfl, hcw7⟩)
              have hd3 : Chg (fun _ => False) w6 w7 := hd2.trans hcw7 (fun _ _ h => h)
              refine ⟨hd3, ?_⟩
              try simp only [Act.put, List.setIfInBounds_toArray, List.set_cons_zero, List.set_cons_succ, Array.toArray_toList]
              refine wpAnyH_all (rs := [17]) (by kernel_rfl) (by simp) (fun i hi => ?_)
              obtain rfl : i = 17 := by simpa using hi
              refine wpOp_step rfl (fun K4 hK4 => ?_)
              refine Eq.mpr (if_pos (by kernel_rfl)) ?_
              go_wp2_with (go_at_call 28; refine (of_at bb hbb' (w6.heap.size + 1) _ (HT6.out.keep hd3) (hcw7.cell hqb (fun h => h))).mono ?_; rintro e w8 ⟨rfl, hcw8⟩)
              have hd4 : Chg (fun _ => False) w6 w8 := hd3.trans hcw8 (fun _ _ h => h)
              refine ⟨hd4, ?_⟩
              refine wpAnyH_takeD (i := 18) (v := .bool R) (some 59) rfl (by kernel_rfl) (by kernel_rfl) (by kernel_rfl) (by kernel_rfl) (fun _ _ _ h => h) (yieldsIf_eql (by kernel_rfl) 57 57 (.tmp 54) (.tmp 58) (by kernel_rfl) (rowB 32 (ofB [ab])) (rowB 32 (ofB [bb])) (by kernel_rfl) (by kernel_rfl) (by kernel_rfl) R hRR) hd4 ?_
              refine wpAnyH_takeD (i := 19) (v := .bool R) (some 60) rfl (by kernel_rfl) (by kernel_rfl) (by kernel_rfl) (by kernel_rfl) (fun _ _ _ h => h) (.inl ⟨by kernel_rfl, fun W _ => by kernel_rfl⟩) hd4 ?_
              try simp only [Act.put, List.setIfInBounds_toArray, List.set_cons_zero, List.set_cons_succ]
              refine wpAnyH_done (by kernel_rfl) ?_ _
              have HF := hid hd4
              go_wp2_with fail
              go_meet
              exact ⟨R, rfl, (fun hR _ _ h => by have := HR2.out.2 h; rw [hR] at this; cases this), HF.out⟩
          · skip
            refine wpOp_step rfl (fun K1 hK1 => ?_)
            refine Eq.mpr (if_pos (by kernel_rfl)) ?_
            go_wp2_with fail
            have hd1 : Chg (fun _ => False) w6 (w6.alloc (.cells #[.string bb] 9)).drew := (hd0.alloc _).drew
            refine ⟨hd1, ?_⟩
            try simp only [Act.put, List.setIfInBounds_toArray, List.set_cons_zero, List.set_cons_succ, Array.toArray_toList]
            refine wpAnyH_all (rs := [12]) (by kernel_rfl) (by simp) (fun i hi => ?_)
            obtain rfl : i = 12 := by simpa using hi
            refine wpOp_step rfl (fun K2 hK2 => ?_)
            refine Eq.mpr (if_pos (by kernel_rfl)) ?_
            go_wp2_with fail
            have hd2 : Chg (fun _ => False) w6 ((w6.alloc (.cells #[.string bb] 9)).alloc (.cells #[.string ab] 9)).drew := ((hd0.alloc _).alloc _).drew
            refine ⟨hd2, ?_⟩
            try simp only [Act.put, List.setIfInBounds_toArray, List.set_cons_zero, List.set_cons_succ, Array.toArray_toList]
            refine wpAnyH_all (rs := [13]) (by kernel_rfl) (by simp) (fun i hi => ?_)
            obtain rfl : i = 13 := by simpa using hi
            have hqb : (((w6.alloc (.cells #[.string bb] 9)).alloc (.cells #[.string ab] 9)).drew).cell? ⟨w6.heap.size, 0, none⟩ = some (.string bb) := cell_of (heap_alloc_old' (heap_alloc_new' w6 (.cells #[.string bb] 9)) (.cells #[.string ab] 9)) 0
            have hqa : (((w6.alloc (.cells #[.string bb] 9)).alloc (.cells #[.string ab] 9)).drew).cell? ⟨w6.heap.size + 1, 0, none⟩ = some (.string ab) := by
              have h := cell_of (heap_alloc_new' (w6.alloc (.cells #[.string bb] 9)) (.cells #[.string ab] 9)) 0
              rw [show (w6.alloc (.cells #[.string bb] 9)).heap.size = w6.heap.size + 1 by simp] at h
              exact h
            refine wpOp_step rfl (fun K3 hK3 => ?_)
            refine Eq.mpr (if_pos (by kernel_rfl)) ?_
            go_wp2_with (go_at_call 28; refine (of_at ab hab' (w6.heap.size + 1) _ (HT6.out.keep hd2) hqa).mono ?_; rintro e w7 ⟨rfl, hcw7⟩)
            have hd3 : Chg (fun _ => False) w6 w7 := hd2.trans hcw7 (fun _ _ h => h)
            refine ⟨hd3, ?_⟩
            try simp only [Act.put, List.setIfInBounds_toArray, List.set_cons_zero, List.set_cons_succ, Array.toArray_toList]
            refine wpAnyH_all (rs := [17]) (by kernel_rfl) (by simp) (fun i hi => ?_)
            obtain rfl : i = 17 := by simpa using hi
            refine wpOp_step rfl (fun K4 hK4 => ?_)
            refine Eq.mpr (if_pos (by kernel_rfl)) ?_
            go_wp2_with (go_at_call 28; refine (of_at bb hbb' w6.heap.size _ (HT6.out.keep hd3) (hcw7.cell hqb (fun h => h))).mono ?_; rintro e w8 ⟨rfl, hcw8⟩)
            have hd4 : Chg (fun _ => False) w6 w8 := hd3.trans hcw8 (fun _ _ h => h)
            refine ⟨hd4, ?_⟩
            refine wpAnyH_takeD (i := 18) (v := .bool R) (some 59) rfl (by kernel_rfl) (by kernel_rfl) (by kernel_rfl) (by kernel_rfl) (fun _ _ _ h => h) (yieldsIf_eql (by kernel_rfl) 57 57 (.tmp 54) (.tmp 58) (by kernel_rfl) (rowB 32 (ofB [ab])) (rowB 32 (ofB [bb])) (by kernel_rfl) (by kernel_rfl) (by kernel_rfl) R hRR) hd4 ?_
            refine wpAnyH_takeD (i := 19) (v := .bool R) (some 60) rfl (by kernel_rfl) (by kernel_rfl) (by kernel_rfl) (by kernel_rfl) (fun _ _ _ h => h) (.inl ⟨by kernel_rfl, fun W _ => by kernel_rfl⟩) hd4 ?_
            try simp only [Act.put, List.setIfInBounds_toArray, List.set_cons_zero, List.set_cons_succ]
            refine wpAnyH_done (by kernel_rfl) ?_ _
            have HF := hid hd4
            go_wp2_with fail
            go_meet
            exact ⟨R, rfl, (fun hR _ _ h => by have := HR2.out.2 h; rw [hR] at this; cases this), HF.out⟩
     · have hne : (ac == bc) = false := by rw [beq_eq_false_iff_ne]; exact hcc
       go_quiet (fail)
       go_wp2_with fail
       go_meet
       exact ⟨false, rfl, fun _ _ h => absurd h hcc, (Chg.refl _ _).drewN _⟩
   case rest =>
    obtain ⟨R, rfl, hS2', hc7⟩ := hcut
    cases R with
    | true =>
     go_wp2_with fail
     go_ret
     exact ⟨rfl, HC6.out.trans hc7 (fun _ _ h => h)⟩
    | false =>
    have hS2 := hS2' rfl
    have hfs := fits_same (ac, ab) (bc, bb) S HS1.out hS2
    rw [← HOU.out] at hfs
    have HFS := hid hfs
    have HC7 := hid hc7
    clear hS2 hS2' hfs hc7
    obtain ⟨a0, a1, c0, c1⟩ := HCL.out wc HC7.out
    have HX7 := hid (HC7.out.obj HX6.out (fun h => h))
    have HK7 := hid (HC7.out.obj HK6.out (fun h => h))
    have x32 := rec_code HX7.out
    have hff : ∀ W, Chg (fun _ => False) w6 W → Calls Tryz.prog 35 #[.agg (recA key ac ou), .agg #[.int .i64 ac, .string ab]] W (Ans (ac = ac ∧ ∀ i, i < 32 → ou i = outF (ac, ab) i) W) := fun W hW => fits_any key ac ou ha (ac, ab) hab' ha W (HT6.out.keep hW) (Nat.le_trans HB6.out hW.size)
    have hf1 : ∀ W, Chg (fun _ => False) w6 W → Calls Tryz.prog 35 #[.agg (recA key ac ou), .agg #[.int .i64 ac, .string ab]] W (Rets (.bool true) (Chg (fun _ => False) W)) := fun W hW => (hff W hW).mono (fun e w' ⟨b, h1, h2, h3⟩ => ⟨by rw [h1, h2.2 ⟨rfl, fun _ _ => by rw [HOU.out]⟩], h3⟩)
    have hf2 : ∀ W, Chg (fun _ => False) w6 W → Calls Tryz.prog 35 #[.agg (recA key ac ou), .agg #[.int .i64 bc, .string bb]] W (Ans (ac = bc ∧ ∀ i, i < 32 → ou i = outF (bc, bb) i) W) := fun W hW => fits_any key ac ou ha (bc, bb) hbb' hb W (HT6.out.keep hW) (Nat.le_trans HB6.out hW.size)
    clear hff
    by_cases h0 : ac = 0
    · subst h0
      go_wp2_with (first | (guard_target =~ wpList _ _ _ (Oper.mk (some 62) _ _ _ _ _ :: _) _ _; refine wpList_loadW (by kernel_rfl) 57 _ rfl b7 0 _ rfl (load_dig (rec_range HX7.out)) ?_) | (guard_target =~ wpList _ _ _ (Oper.mk (some 63) _ _ _ _ _ :: _) _ _; refine wpList_load0 rfl 57 _ rfl b3 (rowB 32 key) (.array 32 5) rfl HK7.out Tryz.underlying57 rfl (by rw [rowB_size]; kernel_rfl) ?_) | (guard_target =~ wpList _ _ _ (Oper.mk (some 64) _ _ _ _ _ :: _) _ _; refine wpList_eqlW (by kernel_rfl) 57 57 _ _ rfl _ _ rfl rfl (by kernel_rfl) true (eq_dig_same _ _) ?_) | (guard_target =~ wpList _ _ _ (Oper.mk (some 73) _ _ _ _ _ :: _) _ _; refine wpList_loadW (by kernel_rfl) 67 _ rfl b7 0 (.agg (recA key 0 ou)) rfl (run_loadVar_row _ b7 67 67 _ (0, 0) (.struct _) HX7.out Tryz.underlying67 rfl (by rw [recA_size]; kernel_rfl)) ?_) | (guard_target =~ wpList _ _ _ (Oper.mk (some 78) _ _ _ _ _ :: _) _ _; refine wpList_loadW (by kernel_rfl) 67 _ rfl b7 0 (.agg (recA key 0 ou)) rfl (run_loadVar_row _ b7 67 67 _ (0, 0) (.struct _) HX8.out Tryz.underlying67 rfl (by rw [recA_size]; kernel_rfl)) ?_) | (go_at_call 35; refine (hf1 _ HC7.out).mono ?_; rintro e w8 ⟨rfl, hc8⟩; have HC8 := hid (HC7.out.trans hc8 (fun _ _ h => h)); have HX8 := hid (hc8.obj HX7.out (fun h => h)); clear a0 a1 c0 c1 x32 hf1 HX7 HK7 HC7; obtain ⟨a0, a1, c0, c1⟩ := HCL.out w8 HC8.out; clear hc8) | (go_at_call 35; refine (hf2 _ HC8.out).mono ?_; rintro e w9 ⟨B, rfl, hB, hc9⟩; obtain rfl : B = S := Bool.eq_iff_iff.2 (hB.trans HFS.out); have HC9 := hid (HC8.out.trans hc9 (fun _ _ h => h)); have HX9 := hid (hc9.obj HX8.out (fun h => h)); clear a0 a1 c0 c1 hf2 HX8 HC8; obtain ⟨a0, a1, c0, c1⟩ := HCL.out w9 HC9.out; clear hc9 hB))
      go_ret
      exact ⟨rfl, HC6.out.trans HC9.out (fun _ _ h => h)⟩
    · have hne : (ac == 0) = false := by rw [beq_eq_false_iff_ne]; exact h0
      have heo : ∀ W, (binOp .eql 57 (.agg (rowB 32 ou)) (.agg (rowB 32 (fun _ => 0)))).run Tryz.prog W = .ok (.bool true) W := fun W => by
        have e : ou = fun _ => 0 := HOU.out.trans (if_neg h0)
        rw [e]
        exact eq_dig_same _ _
      go_wp2_with (first | (guard_target =~ wpList _ _ _ (Oper.mk (some 62) _ _ _ _ _ :: _) _ _; refine wpList_loadW (by kernel_rfl) 57 _ rfl b7 0 _ rfl (load_dig (rec_range HX7.out)) ?_) | (guard_target =~ wpList _ _ _ (Oper.mk (some 63) _ _ _ _ _ :: _) _ _; refine wpList_load0 rfl 57 _ rfl b3 (rowB 32 key) (.array 32 5) rfl HK7.out Tryz.underlying57 rfl (by rw [rowB_size]; kernel_rfl) ?_) | (guard_target =~ wpList _ _ _ (Oper.mk (some 64) _ _ _ _ _ :: _) _ _; refine wpList_eqlW (by kernel_rfl) 57 57 _ _ rfl _ _ rfl rfl (by kernel_rfl) true (eq_dig_same _ _) ?_) | (guard_target =~ wpList _ _ _ (Oper.mk (some 73) _ _ _ _ _ :: _) _ _; refine wpList_loadW (by kernel_rfl) 67 _ rfl b7 0 (.agg (recA key ac ou)) rfl (run_loadVar_row _ b7 67 67 _ (0, 0) (.struct _) HX7.out Tryz.underlying67 rfl (by rw [recA_size]; kernel_rfl)) ?_) | (guard_target =~ wpList _ _ _ (Oper.mk (some 78) _ _ _ _ _ :: _) _ _; refine wpList_loadW (by kernel_rfl) 67 _ rfl b7 0 (.agg (recA key ac ou)) rfl (run_loadVar_row _ b7 67 67 _ (0, 0) (.struct _) HX8.out Tryz.underlying67 rfl (by rw [recA_size]; kernel_rfl)) ?_) | (go_at_call 35; refine (hf1 _ HC7.out).mono ?_; rintro e w8 ⟨rfl, hc8⟩; have HC8 := hid (HC7.out.trans hc8 (fun _ _ h => h)); have HX8 := hid (hc8.obj HX7.out (fun h => h)); clear a0 a1 c0 c1 x32 hf1 HX7 HK7 HC7; obtain ⟨a0, a1, c0, c1⟩ := HCL.out w8 HC8.out; clear hc8) | (go_at_call 35; refine (hf2 _ HC8.out).mono ?_; rintro e w9 ⟨B, rfl, hB, hc9⟩; obtain rfl : B = S := Bool.eq_iff_iff.2 (hB.trans HFS.out); have HC9 := hid (HC8.out.trans hc9 (fun _ _ h => h)); have HX9 := hid (hc9.obj HX8.out (fun h => h)); clear a0 a1 c0 c1 hf2 HX8 HC8; obtain ⟨a0, a1, c0, c1⟩ := HCL.out w9 HC9.out; clear hc9 hB) | (guard_target =~ wpList _ _ _ (Oper.mk (some 90) _ _ _ _ _ :: _) _ _; refine wpList_loadW (by kernel_rfl) 57 _ rfl b7 33 _ rfl (load_dig (rec_out HX9.out)) ?_) | (guard_target =~ wpList _ _ _ (Oper.mk (some 91) _ _ _ _ _ :: _) _ _; refine wpList_build0W (by kernel_rfl) 57 rfl _ (build_dig _) ?_) | (guard_target =~ wpList _ _ _ (Oper.mk (some 92) _ _ _ _ _ :: _) _ _; refine wpList_eqlW (by kernel_rfl) 57 57 _ _ rfl _ _ rfl rfl (by kernel_rfl) true (heo _) ?_))
      go_ret
      exact ⟨rfl, HC6.out.trans HC9.out (fun _ _ h => h)⟩
end Go.Proofs.YthglfmacjoecgaaGreatDoor
