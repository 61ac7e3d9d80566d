/- stamp.begun, New, (*state).digest walked. -/
import Derived.Test.YtijiggolphppbaaGreatDoorStC
namespace Go.Proofs.YtijiggolphppbaaGreatDoor
open Go.RowKit

/-- The state ahead of all blocks. -/
def ivL : List Int := [1779033703, 3144134277, 1013904242, 2773480762, 1359893119, 2600822924, 528734635, 1541459225]
def iv : Nat → Int := fun i => ivL.getD i 0
theorem iv_row : rowF 8 iv = #[.int .u32 1779033703, .int .u32 3144134277, .int .u32 1013904242, .int .u32 2773480762, .int .u32 1359893119, .int .u32 2600822924, .int .u32 528734635, .int .u32 1541459225] := rfl

set_option maxRecDepth 100000 in
set_option maxHeartbeats 1000000 in
theorem begun_any (w : World) : Calls Tryz.prog 231 #[] w (Rets (.agg (rowF 8 iv)) (Chg (fun _ => False) w)) := by
  rw [iv_row]
  go_enter Tryz.func231, Tryz.ntmps231
  go_wp2
  refine bodyPost_ret (v := .agg #[.int .u32 1779033703, .int .u32 3144134277, .int .u32 1013904242, .int .u32 2773480762, .int .u32 1359893119, .int .u32 2600822924, .int .u32 528734635, .int .u32 1541459225]) (by simp [results, Tryz.results231, go_sem]) rfl ⟨rfl, (Chg.refl _ w).alloc _⟩

/-- A press: its state, what doesn't fill a block yet, how many bytes came. -/
structure PressAt (w : World) (b : Nat) (f : Nat → Int) (rest : ByteArray) (n : Int) : Prop where
  ex : ∃ cs, StAt w b 350 cs f ∧ cs[8]? = some (.string rest) ∧ cs[9]? = some (.int .i64 n)

set_option maxRecDepth 100000 in
set_option maxHeartbeats 1000000 in
theorem snew_any (w : World) : Calls Tryz.prog 126 #[] w (fun e w' => ∃ b, e = .returned (.pointer (some ⟨b, 0, none⟩)) ∧ w.heap.size ≤ b ∧ PressAt w' b iv .empty 0 ∧ Chg (fun _ => False) w w') := by
  have hb := begun_any w
  rw [iv_row] at hb
  go_enter Tryz.func126, Tryz.ntmps126
  go_wp2_with (go_at_call 231; refine hb.mono ?_; rintro e w1 ⟨rfl, hc1⟩)
  go_ret
  refine ⟨w1.heap.size, rfl, hc1.size, ⟨_, ⟨heap_alloc_new w1 _, fun i hi => ?_⟩, rfl, rfl⟩, hc1.alloc _⟩
  match i, hi with
  | 0, _ => rfl
  | 1, _ => rfl
  | 2, _ => rfl
  | 3, _ => rfl
  | 4, _ => rfl
  | 5, _ => rfl
  | 6, _ => rfl
  | 7, _ => rfl

/-- A row of n bytes. -/
def rowB (n : Nat) (f : Nat → UInt8) : Array Value := ((List.range n).map fun i => Value.int .u8 ((f i).toNat : Nat)).toArray
theorem rowB_size (n : Nat) (f : Nat → UInt8) : (rowB n f).size = n := by simp [rowB]
theorem rowB_get (n : Nat) (f : Nat → UInt8) (i : Nat) (h : i < n) : (rowB n f)[i]? = some (.int .u8 ((f i).toNat : Nat)) := by simp [rowB, h]
theorem rowB_one (n : Nat) (f : Nat → UInt8) : (rowB n f).toList.all Value.oneCell' = true := by simp [rowB, List.all_eq_true]; intros; rfl
theorem rowB_congr {n : Nat} {f g : Nat → UInt8} (h : ∀ i, i < n → f i = g i) : rowB n f = rowB n g := by
  unfold rowB
  congr 1
  apply List.map_congr_left
  intro i hi
  rw [h i (List.mem_range.1 hi)]
theorem rowB_set (n : Nat) (f : Nat → UInt8) (t : Nat) (v : UInt8) : (rowB n f).setIfInBounds t (.int .u8 (v.toNat : Nat)) = rowB n (fun i => if i = t then v else f i) := by
  apply Array.ext_getElem?
  intro i
  rw [Array.getElem?_setIfInBounds]
  by_cases h : i < n
  · rw [rowB_get n _ i h, rowB_get n _ i h, rowB_size]
    by_cases e : t = i
    · subst e; simp [h]
    · rw [if_neg e, if_neg (fun h : i = t => e h.symm)]
  · have h1 : ∀ g, (rowB n g)[i]? = none := fun g => by rw [Array.getElem?_eq_none]; rw [rowB_size]; omega
    rw [h1, h1, rowB_size]
    by_cases e : t = i
    · subst e; simp [h]
    · simp [e]
theorem rowB_cell {w : World} {b n : Nat} {f : Nat → UInt8} {T : TypeId} {fz : Nat × Nat} (h : w.heap[b]? = some (.cells (rowB n f) T fz)) (i : Nat) (hi : i < n) : w.cell? ⟨b, i, none⟩ = some (.int .u8 ((f i).toNat : Nat)) := by
  rw [cell_of h, rowB_get n f i hi]
theorem alloc37 (w : World) : (Instr.alloc 62 true (.tuple #[])).run Tryz.prog w = .ok (.pointer (some ⟨w.heap.size, 0, none⟩)) (w.alloc (.cells (rowB 32 (fun _ => 0)) 62)) := by kernel_rfl
theorem size37 (w : World) : (sizeOf 62).run Tryz.prog w = .ok 32 w := by kernel_rfl

/-- A digest's byte. -/
def digB (f : Nat → Int) (i : Nat) : UInt8 := UInt8.ofNat ((f (i / 4) / 2 ^ (24 - i % 4 * 8)) % 256).toNat

theorem digB_val (f : Nat → Int) (k : Nat) : ((digB f k).toNat : Int) = f (k / 4) / 2 ^ (24 - k % 4 * 8) % 256 := by
  unfold digB
  generalize f (k / 4) / 2 ^ (24 - k % 4 * 8) = x
  rw [UInt8.toNat_ofNat']
  omega

set_option maxRecDepth 100000 in
set_option maxHeartbeats 2000000 in
theorem digest_any (w : World) (b : Nat) (T : TypeId) (cs : Array Value) (f : Nat → Int) (hS : StAt w b T cs f) :
    Calls Tryz.prog 233 #[.pointer (some ⟨b, 0, none⟩)] w (Rets (.agg (rowB 32 (digB f))) (Chg (fun _ => False) w)) := by
  have HS := hid hS
  have hbw := heap_lt hS.heap
  clear hS
  go_enter Tryz.func233, Tryz.ntmps233
  go_wp2_with (refine wpList_alloc0 rfl 62 rfl (rowB 32 (fun _ => 0)) (alloc37 _) ?_; intro w1 ha1 hs1 hc1)
  obtain ⟨d, hd⟩ : ∃ d, d = w.heap.size := ⟨_, rfl⟩
  rw [← hd] at ha1 hs1 ⊢
  have HD := hid hd
  have hbd : b ≠ d := by omega
  clear hd
  go_loopw [4] (fun i wr => ∃ k : Nat, k ≤ 32 ∧ i = .int .i64 k ∧ wr.heap[d]? = some (.cells (rowB 32 (fun i => if i < k then digB f i else 0)) 62 (0, 0)) ∧ Chg (fun k => k = d) w1 wr) (fun i _ => 32 - (intOf i).toNat)
  case atStart => exact ⟨0, Nat.zero_le _, rfl, by rw [ha1]; rfl, Chg.refl _ _⟩
  case round =>
    obtain ⟨k, hk, rfl, hblk, hch⟩ := hrel
    by_cases hkn : k < 32
    · have hkn' : (k : Int) < 32 := by omega
      have hq : IntKind.i64.wrap ((k : Int).tdiv 4) = ((k / 4 : Nat) : Int) := by rw [IntWalk.i64_quo _ _ (by omega)]; omega
      have hr : (k : Int).tmod 4 = ((k % 4 : Nat) : Int) := by rw [Int.tmod_eq_emod_of_nonneg (by omega)]; omega
      have hq8 : ((k / 4 : Nat) : Int) < 8 := by omega
      have c1 := ((hc1.mono (fun _ _ h => h.elim)).trans hch (fun _ _ h => h)).cell (HS.out.cell (k / 4) (by omega)) hbd
      have cd := rowB_cell hblk k hkn
      have fd := frozen_of hblk k
      have HB := hid hblk
      have HC := hid hch
      clear hblk hch
      go_wp2_with fail
      go_roundw
      case rel =>
        refine ⟨k + 1, by omega, by go_num, ?_, HC.out.setCell (p := ⟨d, k, none⟩) (fun _ => rfl) _⟩
        rw [← digB_val f k, heap_set_same HB.out, rowB_set]
        refine congrArg (fun x => some (Obj.cells x _ _)) (rowB_congr fun i hi => ?_)
        by_cases e : i = k
        · subst e; rw [if_pos rfl, if_pos (by omega)]
        · rw [if_neg e]
          by_cases e2 : i < k
          · rw [if_pos e2, if_pos (by omega)]
          · rw [if_neg e2, if_neg (by omega)]
      case measure => simp [intOf]; omega
    · obtain rfl : k = 32 := by omega
      have hfin : wr.heap[d]? = some (.cells (rowB 32 (digB f)) 62 (0, 0)) := by
        rw [hblk]; exact congrArg (fun x => some (Obj.cells x _ _)) (rowB_congr fun i hi => if_pos hi)
      have HFI := hid hfin
      have HCX := hid hch
      clear hblk hch hfin
      go_wp2_with (first | (refine wpList_load0 rfl 62 _ rfl d (rowB 32 (digB f)) (.array 32 5) rfl HFI.out Tryz.underlying62 rfl (by rw [rowB_size]; kernel_rfl) ?_) | (refine wpList_store0 rfl 62 _ _ rfl d (rowB 32 (digB f)) (rowB 32 (digB f)) rfl rfl HFI.out (by rw [rowB_size]; exact size37) rfl (rowB_one _ _) ?_; intro w5 hb5 hs5 hc5))
      refine bodyPost_ret (v := .agg (rowB 32 (digB f))) ?_ rfl ⟨rfl, ?_⟩
      · exact results_row Tryz.results233 _ _ d rfl _ (run_loadVar_row _ d 62 62 _ (0, 0) (.array 32 5) hb5 Tryz.underlying62 rfl (by rw [rowB_size]; kernel_rfl))
      · have h1 : Chg (fun k => k = d) w1 w5 := (HCX.out.trans hc5 (fun _ _ h => h))
        exact hc1.trans h1 (fun i hi h => by have := HD.out; omega)
end Go.Proofs.YtijiggolphppbaaGreatDoor
