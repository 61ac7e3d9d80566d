/- Texts of the proof, one behind the other: apiaryref02.block walked: its words. -/
import Derived.Test.YthglfmacjoecgaaGreatDoorMg09
import Derived.Test.YthglfmacjoecgaaGreatDoorMg01
import Derived.BigQuiet
import Derived.Deep.RegionHeld3
namespace Go.Proofs.YthglfmacjoecgaaGreatDoor
open Go.RowKit

section
variable {P : Program} {w : World} {ops : Array Oper} {rest : List Oper} {o : Oper} {a : Act} {Q : Exit → Act → World → Prop}
theorem wpList_box1 (hg : o.guard = none) (t : TypeId) (x : Operand) (hop : o.op = Op.box t x) (zc : Array Value) (hx : a.eval x = .agg zc)
    (h : ∀ w', w'.heap[w.heap.size]? = some (.cells zc t (0, 0)) → w'.heap.size = w.heap.size + 1 → Chg (fun _ => False) w w' → wpList P ops Q rest (a.put o.dst (.pointer (some ⟨w.heap.size, 0, none⟩))) w') : wpList P ops Q (o :: rest) a w := by
  refine wpList_plain hg fun K' hK' => ?_
  have hr : (Instr.box t (.agg zc)).run P w = .ok (.pointer (some ⟨w.heap.size, 0, none⟩)) (w.alloc (.cells zc t)) := rfl
  unfold Oper.wp
  simp only [execOp, hop, Sem.run_bind, hx, hr, Result.andThen, Sem.run_pure, Oper.upon]
  exact hK' _ _ (h _ (heap_alloc_new w _) (by simp) ((Chg.refl _ w).alloc _))
end
def kf : Nat → Int := fun i => wordsL.getD i 0
theorem build83 (w : World) : (Instr.build 184 #[]).run Tryz.prog w = .ok (.agg zc83) w := by kernel_rfl
theorem alloc73 (w : World) : (Instr.alloc 177 true (.tuple #[])).run Tryz.prog w = .ok (.pointer (some ⟨w.heap.size, 0, none⟩)) (w.alloc (.cells (rowF 8 (fun _ => 0)) 177)) := by kernel_rfl
theorem size73 (w : World) : (sizeOf 177).run Tryz.prog w = .ok 8 w := by kernel_rfl

theorem rowF8 (h : Nat → Int) : rowF 8 h = #[.int .u32 (h 0), .int .u32 (h 1), .int .u32 (h 2), .int .u32 (h 3), .int .u32 (h 4), .int .u32 (h 5), .int .u32 (h 6), .int .u32 (h 7)] := rfl
theorem round_row (g : Nat → Int) (kw wt : Int) :
    rowF 8 (roundF g kw wt) = #[.int .u32 ((g 7 + bits .xor .u32 (bits .xor .u32 (rotr (g 4) 6) (rotr (g 4) 11)) (rotr (g 4) 25) + bits .xor .u32 (bits .and .u32 (g 4) (g 5)) (bits .and .u32 (bits .xor .u32 IntKind.u32.max (g 4)) (g 6)) + kw + wt + (bits .xor .u32 (bits .xor .u32 (rotr (g 0) 2) (rotr (g 0) 13)) (rotr (g 0) 22) + bits .xor .u32 (bits .xor .u32 (bits .and .u32 (g 0) (g 1)) (bits .and .u32 (g 0) (g 2))) (bits .and .u32 (g 1) (g 2)))) % 4294967296), .int .u32 (g 0), .int .u32 (g 1), .int .u32 (g 2), .int .u32 ((g 3 + (g 7 + bits .xor .u32 (bits .xor .u32 (rotr (g 4) 6) (rotr (g 4) 11)) (rotr (g 4) 25) + bits .xor .u32 (bits .and .u32 (g 4) (g 5)) (bits .and .u32 (bits .xor .u32 IntKind.u32.max (g 4)) (g 6)) + kw + wt)) % 4294967296), .int .u32 (g 4), .int .u32 (g 5), .int .u32 (g 6)] := by
  have e0 : roundF g kw wt 0 = (g 7 + bits .xor .u32 (bits .xor .u32 (rotr (g 4) 6) (rotr (g 4) 11)) (rotr (g 4) 25) + bits .xor .u32 (bits .and .u32 (g 4) (g 5)) (bits .and .u32 (bits .xor .u32 IntKind.u32.max (g 4)) (g 6)) + kw + wt + (bits .xor .u32 (bits .xor .u32 (rotr (g 0) 2) (rotr (g 0) 13)) (rotr (g 0) 22) + bits .xor .u32 (bits .xor .u32 (bits .and .u32 (g 0) (g 1)) (bits .and .u32 (g 0) (g 2))) (bits .and .u32 (g 1) (g 2)))) % 4294967296 := by
    show IntKind.u32.wrap (t1R g kw wt + t2R g) = _
    unfold t1R t2R ch maj
    rw [turned3, turned3]
    simp only [IntKind.wrap_u32]
    omega
  have e4 : roundF g kw wt 4 = (g 3 + (g 7 + bits .xor .u32 (bits .xor .u32 (rotr (g 4) 6) (rotr (g 4) 11)) (rotr (g 4) 25) + bits .xor .u32 (bits .and .u32 (g 4) (g 5)) (bits .and .u32 (bits .xor .u32 IntKind.u32.max (g 4)) (g 6)) + kw + wt)) % 4294967296 := by
    show IntKind.u32.wrap (g 3 + t1R g kw wt) = _
    unfold t1R ch
    rw [turned3]
    simp only [IntKind.wrap_u32]
    omega
  rw [rowF8, e0, e4]
  rfl

set_option maxRecDepth 100000 in
set_option maxHeartbeats 4000000 in
theorem block_any (block : ByteArray) (hs : block.size = 64) (f : Nat → Int) (w : World) :
    Calls Tryz.prog 109 #[.agg (rowF 8 f), .agg (rowF 64 kf), .string block] w (Rets (.agg (rowF 8 (mixR block f))) (Chg (fun _ => False) w)) := by
  go_enter Tryz.func109, Tryz.ntmps109
  go_wp2_with (first | (refine wpList_box1 rfl 177 _ rfl (rowF 8 f) rfl ?_; intro w1 ha1 hs1 hc1) | (refine wpList_box1 rfl 184 _ rfl (rowF 64 kf) rfl ?_; intro w2 ha2 hs2 hc2) | (refine wpList_alloc0 rfl 177 rfl (rowF 8 (fun _ => 0)) (alloc73 _) ?_; intro w3 ha3 hs3 hc3) | (refine wpList_build0 rfl 184 rfl (.agg zc83) (build83 _) ?_) | (refine wpList_alloc0 rfl 184 rfl zc83 (alloc83 _) ?_; intro w4 ha4 hs4 hc4) | (refine wpList_store0 rfl 184 _ _ rfl w3.heap.size zc83 zc83 rfl rfl ha4 (by rw [show zc83.size = 64 from rfl]; exact size83) rfl rfl ?_; intro w5 ha5 hs5 hc5))
  have hW0 : w5.heap[w3.heap.size]? = some (.cells (rowF 64 (fW block 0)) 184 (0, 0)) := by
    rw [ha5]
    exact congrArg (fun x => some (Obj.cells x _ _)) (rowF_congr fun i _ => by unfold fW; rw [if_neg (Nat.not_lt_zero _)])
  have hc45 : Chg (fun k => k = w3.heap.size) w4 w5 := hc5
  have hR0 := hc45.obj (hc4.obj ha3 (fun h => h)) (by omega)
  have hK0 := hc45.obj (hc4.obj (hc3.obj ha2 (fun h => h)) (fun h => h)) (by omega)
  have hH0 := hc45.obj (hc4.obj (hc3.obj (hc2.obj ha1 (fun h => h)) (fun h => h)) (fun h => h)) (by omega)
  have hcw : Chg (fun _ => False) w w5 := (((hc1.trans hc2 (fun _ _ h => h)).trans hc3 (fun _ _ h => h)).trans hc4 (fun _ _ h => h)).trans hc45 (fun i hi h => by omega)
  obtain ⟨H, hH⟩ : ∃ H, H = w.heap.size := ⟨_, rfl⟩
  have e1 : w1.heap.size = H + 1 := by omega
  have e2 : w2.heap.size = H + 2 := by omega
  have e3 : w3.heap.size = H + 3 := by omega
  rw [e1] at hK0
  rw [e2] at hR0
  rw [e3] at hW0
  rw [← hH] at hH0 ⊢
  have HW0 := hid hW0
  have HR0 := hid hR0
  have HK0 := hid hK0
  have HH0 := hid hH0
  have HCW := hid hcw
  have HHH := hid hH
  clear ha1 ha2 ha3 ha4 ha5 hs1 hs2 hs3 hs4 hs5 hc1 hc2 hc3 hc4 hc5 hc45 hW0 hR0 hK0 hH0 hcw e1 e2 e3 hH
  go_loopw [8] (fun i wr => ∃ t : Nat, t ≤ 16 ∧ i = .int .i64 t ∧ wr.heap[H + 3]? = some (.cells (rowF 64 (fW block t)) 184 (0, 0)) ∧ Chg (fun k => k = H + 3) w5 wr) (fun i _ => 16 - (intOf i).toNat)
  case atStart => exact ⟨0, Nat.zero_le _, rfl, HW0.out, Chg.refl _ _⟩
  case round =>
    obtain ⟨t, ht, rfl, hblk, hch⟩ := hrel
    have HC := hid hch
    have HB := hid hblk
    by_cases htn : t < 16
    · have htn' : (t : Int) < 16 := by omega
      have ct := row_cell hblk t (by omega)
      have ft := frozen_of hblk t
      have hs' : (block.size : Int) = 64 := by omega
      have v0 : IntKind.i64.wrap (4 * (t : Int)) = 4 * (t : Int) := IntWalk.i64_in _ (by omega)
      have v1 : IntKind.i64.wrap (4 * (t : Int) + 1) = 4 * (t : Int) + 1 := IntWalk.i64_in _ (by omega)
      have v2 : IntKind.i64.wrap (4 * (t : Int) + 2) = 4 * (t : Int) + 2 := IntWalk.i64_in _ (by omega)
      have v3 : IntKind.i64.wrap (4 * (t : Int) + 3) = 4 * (t : Int) + 3 := IntWalk.i64_in _ (by omega)
      have u0 : wrap64 (4 * (t : Int)) = 4 * (t : Int) := by unfold wrap64; omega
      have u1 : wrap64 (4 * (t : Int) + 1) = 4 * (t : Int) + 1 := by unfold wrap64; omega
      have u2 : wrap64 (4 * (t : Int) + 2) = 4 * (t : Int) + 2 := by unfold wrap64; omega
      have u3 : wrap64 (4 * (t : Int) + 3) = 4 * (t : Int) + 3 := by unfold wrap64; omega
      have p0 : (0 : Int) ≤ 4 * (t : Int) := by omega
      have p1 : (0 : Int) ≤ 4 * (t : Int) + 1 := by omega
      have p2 : (0 : Int) ≤ 4 * (t : Int) + 2 := by omega
      have p3 : (0 : Int) ≤ 4 * (t : Int) + 3 := by omega
      have q0 : 4 * (t : Int) < 64 := by omega
      have q1 : 4 * (t : Int) + 1 < 64 := by omega
      have q2 : 4 * (t : Int) + 2 < 64 := by omega
      have q3 : 4 * (t : Int) + 3 < 64 := by omega
      clear hblk hch
      go_wp2_with fail
      go_region
      all_goals
        have hv := word_eq block hs t htn
        have HV := hid hv
        clear hv
        go_wp2_with fail
        go_roundw
        case rel =>
          refine ⟨t + 1, by omega, by go_num, ?_, (HC.out.setCell (p := ⟨H + 3, t, none⟩) (fun _ => rfl) _).drew⟩
          refine (row_set HB.out t _).trans ?_
          rw [← rowF_congr (fun i _ => fW_next block t i), ← HV.out]
        case measure => simp [intOf]; omega
    · obtain rfl : t = 16 := by omega
      clear hblk hch
      go_wp2_with fail
      obtain ⟨wo, hwo⟩ : ∃ wo : World, wo = wr := ⟨_, rfl⟩
      rw [← hwo] at HB HC ⊢
      clear hwo
      go_loopw [9] (fun i wx => ∃ k : Nat, 16 ≤ k ∧ k ≤ 64 ∧ i = .int .i64 k ∧ wx.heap[H + 3]? = some (.cells (rowF 64 (gW block k)) 184 (0, 0)) ∧ Chg (fun k => k = H + 3) wo wx) (fun i _ => 64 - (intOf i).toNat)
      case atStart => exact ⟨16, by decide, by decide, rfl, by rw [HB.out]; exact congrArg (fun x => some (Obj.cells x _ _)) (rowF_congr fun i _ => gW_first block i), Chg.refl _ _⟩
      case round =>
        obtain ⟨k, hk16, hk, rfl, hbx, hchx⟩ := hrel
        by_cases hkn : k < 64
        · have hkn' : (k : Int) < 64 := by omega
          obtain ⟨i2, e2⟩ : ∃ i : Nat, i = k - 2 := ⟨_, rfl⟩
          obtain ⟨i7, e7⟩ : ∃ i : Nat, i = k - 7 := ⟨_, rfl⟩
          obtain ⟨i15, e15⟩ : ∃ i : Nat, i = k - 15 := ⟨_, rfl⟩
          obtain ⟨i16, e16⟩ : ∃ i : Nat, i = k - 16 := ⟨_, rfl⟩
          have c2 := row_cell hbx i2 (by omega)
          have c7 := row_cell hbx i7 (by omega)
          have c15 := row_cell hbx i15 (by omega)
          have c16 := row_cell hbx i16 (by omega)
          have ck := row_cell hbx k (by omega)
          have fk := frozen_of hbx k
          rw [gW_old block k i2 (by omega)] at c2
          rw [gW_old block k i7 (by omega)] at c7
          rw [gW_old block k i15 (by omega)] at c15
          rw [gW_old block k i16 (by omega)] at c16
          have w2 : IntKind.i64.wrap ((k : Int) - 2) = (i2 : Int) := by rw [IntWalk.i64_in _ (by omega)]; omega
          have w7 : IntKind.i64.wrap ((k : Int) - 7) = (i7 : Int) := by rw [IntWalk.i64_in _ (by omega)]; omega
          have w15 : IntKind.i64.wrap ((k : Int) - 15) = (i15 : Int) := by rw [IntWalk.i64_in _ (by omega)]; omega
          have w16 : IntKind.i64.wrap ((k : Int) - 16) = (i16 : Int) := by rw [IntWalk.i64_in _ (by omega)]; omega
          have v7 : wrap64 ((k : Int) - 7) = (i7 : Int) := by unfold wrap64; omega
          have v16 : wrap64 ((k : Int) - 16) = (i16 : Int) := by unfold wrap64; omega
          have l2 : (i2 : Int) < 64 := by omega
          have l7 : (i7 : Int) < 64 := by omega
          have l15 : (i15 : Int) < 64 := by omega
          have l16 : (i16 : Int) < 64 := by omega
          have n7 : i7 ≠ k := by omega
          have n16 : i16 ≠ k := by omega
          have HE : Hid (schW block k = IntKind.u32.wrap (IntKind.u32.wrap (IntKind.u32.wrap (bits .xor .u32 (bits .xor .u32 (rotr (schW block i2) 17) (rotr (schW block i2) 19)) (schW block i2 / 1024) + schW block i7) + bits .xor .u32 (bits .xor .u32 (rotr (schW block i15) 7) (rotr (schW block i15) 18)) (schW block i15 / 8)) + schW block i16)) := by
            show _ = _
            rw [e2, e7, e15, e16]
            conv => lhs; rw [schW, dif_neg (by omega)]
            unfold sig
            rw [turned2, turned2]
          clear e2 e7 e15 e16
          have HBX := hid hbx
          have HCX := hid hchx
          clear hbx hchx
          generalize schW block i2 = x2 at c2 HE
          generalize schW block i7 = x7 at c7 HE
          generalize schW block i15 = x15 at c15 HE
          generalize schW block i16 = x16 at c16 HE
          go_wp2_with fail
          go_region_held3 (fun w' => w'.cell? ⟨H + 3, i7, none⟩ = some (.int .u32 x7) ∧ w'.cell? ⟨H + 3, i16, none⟩ = some (.int .u32 x16)) (refine ⟨?_, ?_⟩ <;> (repeat' (first | with_reducible assumption | with_reducible (apply cell_drewN') | with_reducible (apply cell_drew') | with_reducible (refine cell_set' ?_ (by assumption) _)))) (first | (go_at_call 128; refine (turnI_any _ _ (by decide) _).mono ?_; rintro e w' ⟨rfl, m, rfl⟩))
          go_wp2_with fail
          go_roundw
          case rel =>
            (repeat apply Exists.intro)
            refine ⟨⟨k + 1, by omega, by omega, by go_num, ?_, (HCX.out.drewN _).setCell (p := ⟨H + 3, k, none⟩) (fun _ => rfl) _⟩, rfl⟩
            refine (row_set (w := wr.drewN _) HBX.out k _).trans ?_
            rw [← rowF_congr (fun i _ => gW_next block k i), HE.out]
            first | rfl | simp only [IntKind.wrap_u32]
          case measure => simp [intOf]; omega
        · obtain rfl : k = 64 := by omega
          have hfin : wr.heap[H + 3]? = some (.cells (rowF 64 (schW block)) 184 (0, 0)) := by
            rw [hbx]; exact congrArg (fun x => some (Obj.cells x _ _)) (rowF_congr fun i hi => gW_old block 64 i hi)
          have hc5 := HC.out.trans hchx (fun _ _ h => h)
          have hH5 := hc5.obj HH0.out (by omega)
          have hK5 := hc5.obj HK0.out (by omega)
          have hR5 := hc5.obj HR0.out (by omega)
          have hcw5 : Chg (fun _ => False) w wr := HCW.out.trans hc5 (fun i hi h => by have := HHH.out; omega)
          have hV3 := heap_lt hfin
          clear hbx hchx hc5 HB HC
          go_wp2_with (first | (refine wpList_load0 rfl 177 _ rfl H (rowF 8 f) (.array 8 176) rfl hH5 Tryz.underlying177 rfl (by rw [rowF_size]; kernel_rfl) ?_) | (refine wpList_alloc0 rfl 177 rfl (rowF 8 (fun _ => 0)) (alloc73 _) ?_; intro w6 ha6 hs6 hc6) | (refine wpList_store0 rfl 177 _ _ rfl wr.heap.size (rowF 8 (fun _ => 0)) (rowF 8 f) rfl rfl ha6 (by rw [rowF_size]; exact size73) rfl (rowF_one _ _) ?_; intro w7 ha7 hs7 hc7))
          obtain ⟨V, hV⟩ : ∃ V, V = wr.heap.size := ⟨_, rfl⟩
          rw [← hV] at ha7 hc7 hV3 ⊢
          have hc67 : Chg (fun _ => False) wr w7 := hc6.trans hc7 (fun i hi h => by omega)
          have HW7 := hid (hc67.obj hfin (fun h => h))
          have HH7 := hid (hc67.obj hH5 (fun h => h))
          have HK7 := hid (hc67.obj hK5 (fun h => h))
          have HR7 := hid (hc67.obj hR5 (fun h => h))
          have HC7 := hid (hcw5.trans hc67 (fun _ _ h => h))
          have HV7 := hid ha7
          have HVL : Hid (w.heap.size ≤ V) := hid (by rw [hV]; exact hcw5.size)
          clear hfin hH5 hK5 hR5 hcw5 ha6 hs6 hc6 ha7 hs7 hc7 hc67 hV HW0 HR0 HK0 HH0 HCW
          go_loopw [13] (fun i wr => ∃ k : Nat, k ≤ 64 ∧ i = .int .i64 k ∧ wr.heap[V]? = some (.cells (rowF 8 (rounds block f k)) 177 (0, 0)) ∧ Chg (fun k => k = V) w7 wr) (fun i _ => 64 - (intOf i).toNat)
          case atStart => exact ⟨0, Nat.zero_le _, rfl, HV7.out, Chg.refl _ _⟩
          case round =>
            obtain ⟨k, hk, rfl, hbv, hchv⟩ := hrel
            by_cases hkn : k < 64
            · have hkn' : (k : Int) < 64 := by omega
              have hR : Hid (rounds block f (k + 1) = roundF (rounds block f k) (kf k) (schW block k)) := hid rfl
              have ckk := row_cell (hchv.obj HK7.out (by omega)) k hkn
              have cww := row_cell (hchv.obj HW7.out (by omega)) k hkn
              generalize rounds block f k = g at hbv hR
              generalize kf k = kw at hR ckk
              generalize schW block k = wt at hR cww
              have d0 := row_cell hbv 0 (by decide)
              have d1 := row_cell hbv 1 (by decide)
              have d2 := row_cell hbv 2 (by decide)
              have d3 := row_cell hbv 3 (by decide)
              have d4 := row_cell hbv 4 (by decide)
              have d5 := row_cell hbv 5 (by decide)
              have d6 := row_cell hbv 6 (by decide)
              have d7 := row_cell hbv 7 (by decide)
              have HBV := hid hbv
              have HCV := hid hchv
              clear hbv hchv
              go_wp2_with fail
              go_quiet ((go_at_call 128; refine Calls.quiet_of (turnI_any _ _ (by decide) _)))
              go_wp2_with fail
              refine wp_gen (fun W => W.heap[V]? = some (.cells (rowF 8 g) 177 (0, 0)) ∧ Chg (fun k => k = V) w7 W) ⟨HBV.out, HCV.out.drewN _⟩ ?_
              clear HBV HCV d0 d1 d2 d3 d4 d5 d6 d7 ckk cww
              rintro W8 ⟨hbv, hchv⟩
              have d0 := row_cell hbv 0 (by decide)
              have d1 := row_cell hbv 1 (by decide)
              have d2 := row_cell hbv 2 (by decide)
              have d3 := row_cell hbv 3 (by decide)
              have d4 := row_cell hbv 4 (by decide)
              have d5 := row_cell hbv 5 (by decide)
              have d6 := row_cell hbv 6 (by decide)
              have d7 := row_cell hbv 7 (by decide)
              have z0 := frozen_of hbv 0
              have z1 := frozen_of hbv 1
              have z2 := frozen_of hbv 2
              have z3 := frozen_of hbv 3
              have z4 := frozen_of hbv 4
              have z5 := frozen_of hbv 5
              have z6 := frozen_of hbv 6
              have z7 := frozen_of hbv 7
              have HBV := hid hbv
              have HCV := hid hchv
              clear hbv hchv
              go_quiet ((go_at_call 128; refine Calls.quiet_of (turnI_any _ _ (by decide) _)))
              go_wp2_with (refine wpList_store0 rfl 177 _ _ rfl V (rowF 8 g) _ rfl rfl (HBV.out : (W8.drewN _).heap[V]? = _) size73 rfl rfl ?_; intro w9 ha9 hs9 hc9)
              go_roundw
              case rel =>
                refine ⟨k + 1, by omega, by go_num, ?_, (HCV.out.drewN _).trans hc9 (fun _ _ h => h)⟩
                rw [ha9, hR.out, round_row]
              case measure => simp [intOf]; omega
            · obtain rfl : k = 64 := by omega
              have HB := hid hbv
              have HCH := hid hchv
              have HHH2 := hid (hchv.obj HH7.out (by omega))
              have HRR2 := hid (hchv.obj HR7.out (by omega))
              clear hbv hchv
              go_wp2_with fail
              obtain ⟨wo, hwo⟩ : ∃ wo : World, wo = wr := ⟨_, rfl⟩
              rw [← hwo] at HB HCH HHH2 HRR2 ⊢
              clear hwo
              obtain ⟨g, hg⟩ : ∃ g, g = rounds block f 64 := ⟨_, rfl⟩
              rw [← hg] at HB
              have HG := hid hg
              clear hg
              have hS0 : StAt wo H 177 (rowF 8 f) f := StAt.row HHH2.out
              have HS0 := hid hS0
              clear hS0
              go_loopw [18] (fun i wr => ∃ k : Nat, ∃ cs', k ≤ 8 ∧ i = .int .i64 k ∧ StAt wr H 177 cs' (fun i => if i < k then IntKind.u32.wrap (f i + g i) else f i) ∧ cs'.size = 8 ∧ Chg (fun k => k = H) wo wr) (fun i _ => 8 - (intOf i).toNat)
              case atStart => exact ⟨0, rowF 8 f, Nat.zero_le _, rfl, HS0.out, by rw [rowF_size], Chg.refl _ _⟩
              case round =>
                obtain ⟨k, cs', hk, rfl, hS1, hsz, hch⟩ := hrel
                by_cases hkn : k < 8
                · have hkn' : (k : Int) < 8 := by omega
                  have c1 := hS1.cell k hkn
                  rw [if_neg (Nat.lt_irrefl k)] at c1
                  have fr := frozen_of hS1.heap k
                  have c2 := row_cell (hch.obj HB.out (by omega)) k hkn
                  have HS1 := hid hS1
                  have HCC := hid hch
                  clear hS1 hch
                  go_wp2_with fail
                  go_region
                  all_goals go_wp2_with fail
                  all_goals go_roundw
                  case rel =>
                    refine ⟨k + 1, _, by omega, by go_num, (StAt.congr (HS1.out.set k _) fun i hi => ?_).drew, by rw [Array.size_setIfInBounds]; exact hsz, (HCC.out.setCell (p := ⟨H, k, none⟩) (fun _ => rfl) _).drew⟩
                    unfold updF
                    by_cases e : i = k
                    · subst e; rw [if_pos rfl, if_pos (by omega), IntKind.wrap_u32]
                    · rw [if_neg e]
                      by_cases e2 : i < k
                      · show (if i < k then _ else _) = _
                        rw [if_pos e2, if_pos (by omega)]
                      · show (if i < k then _ else _) = _
                        rw [if_neg e2, if_neg (by omega)]
                  case measure => simp [intOf]; omega
                · obtain rfl : k = 8 := by omega
                  have hcs : cs' = rowF 8 (mixR block f) := by
                    apply Array.ext
                    · rw [hsz, rowF_size]
                    · intro i h1 h2
                      have hi : i < 8 := by omega
                      have e1 := hS1.word i hi
                      rw [if_pos hi, HG.out] at e1
                      have e2 := rowF_get 8 (mixR block f) i hi
                      rw [Array.getElem?_eq_getElem h1] at e1
                      rw [Array.getElem?_eq_getElem h2] at e2
                      exact Option.some.inj (e1.trans e2.symm)
                  have hH9 := hS1.heap
                  rw [hcs] at hH9
                  have hR9 := hch.obj HRR2.out (by omega)
                  have HC9 := hid hch
                  clear hS1 hch hcs
                  go_wp2_with (first | (refine wpList_load0 rfl 177 _ rfl H (rowF 8 (mixR block f)) (.array 8 176) rfl hH9 Tryz.underlying177 rfl (by rw [rowF_size]; kernel_rfl) ?_) | (refine wpList_store0 rfl 177 _ _ rfl (H + 2) (rowF 8 (fun _ => 0)) (rowF 8 (mixR block f)) rfl rfl hR9 (by rw [rowF_size]; exact size73) rfl (rowF_one _ _) ?_; intro w9 hb9 hs9 hc9))
                  refine bodyPost_ret (v := .agg (rowF 8 (mixR block f))) ?_ rfl ⟨rfl, ?_⟩
                  · refine results_row Tryz.results109 _ _ (H + 2) rfl _ (run_loadVar_row _ (H + 2) 177 177 _ (0, 0) (.array 8 176) hb9 Tryz.underlying177 rfl (by rw [rowF_size]; kernel_rfl))
                  · have h1 : Chg (fun _ => False) w wo := HC7.out.trans HCH.out (fun i hi h => by have := HVL.out; omega)
                    exact (h1.trans HC9.out (fun i hi h => by have := HHH.out; omega)).trans hc9 (fun i hi h => by have := HHH.out; omega)
end Go.Proofs.YthglfmacjoecgaaGreatDoor
