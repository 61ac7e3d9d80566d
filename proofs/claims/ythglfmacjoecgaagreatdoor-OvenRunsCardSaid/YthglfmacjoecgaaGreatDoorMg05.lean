/- Texts of the proof, one behind the other: stamp.begun, New, (*state).digest walked; sap.Num walked: a number's bytes. -/
import Derived.Test.YthglfmacjoecgaaGreatDoorMg04
import Derived.Test.YthglfmacjoecgaaGreatDoorMg01
import Derived.Lib.SlBytesRow
import Derived.Deep.RegionHeld3
import Derived.Deep.DeepCutAuto
import Derived.Laws.BitsAllLaws
namespace Go.Proofs.YthglfmacjoecgaaGreatDoor
open Go.RowKit

/-- The state ahead of all blocks. -/
def ivL : List Int := [1779033703, 3144134277, 1013904242, 2773480762, 1359893119, 2600822924, 528734635, 1541459225]
def iv : Nat → Int := fun i => ivL.getD i 0
theorem iv_row : rowF 8 iv = #[.int .u32 1779033703, .int .u32 3144134277, .int .u32 1013904242, .int .u32 2773480762, .int .u32 1359893119, .int .u32 2600822924, .int .u32 528734635, .int .u32 1541459225] := rfl

set_option maxRecDepth 100000 in
set_option maxHeartbeats 1000000 in
theorem begun_any (w : World) : Calls Tryz.prog 104 #[] w (Rets (.agg (rowF 8 iv)) (Chg (fun _ => False) w)) := by
  rw [iv_row]
  go_enter Tryz.func104, Tryz.ntmps104
  go_wp2
  refine bodyPost_ret (v := .agg #[.int .u32 1779033703, .int .u32 3144134277, .int .u32 1013904242, .int .u32 2773480762, .int .u32 1359893119, .int .u32 2600822924, .int .u32 528734635, .int .u32 1541459225]) (by simp [results, Tryz.results104, go_sem]) rfl ⟨rfl, (Chg.refl _ w).alloc _⟩

/-- A press: its state, what doesn't fill a block yet, how many bytes came. -/
structure PressAt (w : World) (b : Nat) (f : Nat → Int) (rest : ByteArray) (n : Int) : Prop where
  ex : ∃ cs, StAt w b 181 cs f ∧ cs[8]? = some (.string rest) ∧ cs[9]? = some (.int .i64 n)

set_option maxRecDepth 100000 in
set_option maxHeartbeats 1000000 in
theorem snew_any (w : World) : Calls Tryz.prog 64 #[] w (fun e w' => ∃ b, e = .returned (.pointer (some ⟨b, 0, none⟩)) ∧ w.heap.size ≤ b ∧ PressAt w' b iv .empty 0 ∧ Chg (fun _ => False) w w') := by
  have hb := begun_any w
  rw [iv_row] at hb
  go_enter Tryz.func64, Tryz.ntmps64
  go_wp2_with (go_at_call 104; refine hb.mono ?_; rintro e w1 ⟨rfl, hc1⟩)
  go_ret
  refine ⟨w1.heap.size, rfl, hc1.size, ⟨_, ⟨heap_alloc_new w1 _, fun i hi => ?_⟩, rfl, rfl⟩, hc1.alloc _⟩
  match i, hi with
  | 0, _ => rfl
  | 1, _ => rfl
  | 2, _ => rfl
  | 3, _ => rfl
  | 4, _ => rfl
  | 5, _ => rfl
  | 6, _ => rfl
  | 7, _ => rfl

/-- A row of n bytes. -/
def rowB (n : Nat) (f : Nat → UInt8) : Array Value := ((List.range n).map fun i => Value.int .u8 ((f i).toNat : Nat)).toArray
theorem rowB_size (n : Nat) (f : Nat → UInt8) : (rowB n f).size = n := by simp [rowB]
theorem rowB_get (n : Nat) (f : Nat → UInt8) (i : Nat) (h : i < n) : (rowB n f)[i]? = some (.int .u8 ((f i).toNat : Nat)) := by simp [rowB, h]
theorem rowB_one (n : Nat) (f : Nat → UInt8) : (rowB n f).toList.all Value.oneCell' = true := by simp [rowB, List.all_eq_true]; intros; rfl
theorem rowB_congr {n : Nat} {f g : Nat → UInt8} (h : ∀ i, i < n → f i = g i) : rowB n f = rowB n g := by
  unfold rowB
  congr 1
  apply List.map_congr_left
  intro i hi
  rw [h i (List.mem_range.1 hi)]
theorem rowB_set (n : Nat) (f : Nat → UInt8) (t : Nat) (v : UInt8) : (rowB n f).setIfInBounds t (.int .u8 (v.toNat : Nat)) = rowB n (fun i => if i = t then v else f i) := by
  apply Array.ext_getElem?
  intro i
  rw [Array.getElem?_setIfInBounds]
  by_cases h : i < n
  · rw [rowB_get n _ i h, rowB_get n _ i h, rowB_size]
    by_cases e : t = i
    · subst e; simp [h]
    · rw [if_neg e, if_neg (fun h : i = t => e h.symm)]
  · have h1 : ∀ g, (rowB n g)[i]? = none := fun g => by rw [Array.getElem?_eq_none]; rw [rowB_size]; omega
    rw [h1, h1, rowB_size]
    by_cases e : t = i
    · subst e; simp [h]
    · simp [e]
theorem rowB_cell {w : World} {b n : Nat} {f : Nat → UInt8} {T : TypeId} {fz : Nat × Nat} (h : w.heap[b]? = some (.cells (rowB n f) T fz)) (i : Nat) (hi : i < n) : w.cell? ⟨b, i, none⟩ = some (.int .u8 ((f i).toNat : Nat)) := by
  rw [cell_of h, rowB_get n f i hi]
theorem alloc37 (w : World) : (Instr.alloc 57 true (.tuple #[])).run Tryz.prog w = .ok (.pointer (some ⟨w.heap.size, 0, none⟩)) (w.alloc (.cells (rowB 32 (fun _ => 0)) 57)) := by kernel_rfl
theorem size37 (w : World) : (sizeOf 57).run Tryz.prog w = .ok 32 w := by kernel_rfl

/-- A digest's byte. -/
def digB (f : Nat → Int) (i : Nat) : UInt8 := UInt8.ofNat ((f (i / 4) / 2 ^ (24 - i % 4 * 8)) % 256).toNat

theorem digB_val (f : Nat → Int) (k : Nat) : ((digB f k).toNat : Int) = f (k / 4) / 2 ^ (24 - k % 4 * 8) % 256 := by
  unfold digB
  generalize f (k / 4) / 2 ^ (24 - k % 4 * 8) = x
  rw [UInt8.toNat_ofNat']
  omega

set_option maxRecDepth 100000 in
set_option maxHeartbeats 2000000 in
theorem digest_any (w : World) (b : Nat) (T : TypeId) (cs : Array Value) (f : Nat → Int) (hS : StAt w b T cs f) :
    Calls Tryz.prog 106 #[.pointer (some ⟨b, 0, none⟩)] w (Rets (.agg (rowB 32 (digB f))) (Chg (fun _ => False) w)) := by
  have HS := hid hS
  have hbw := heap_lt hS.heap
  clear hS
  go_enter Tryz.func106, Tryz.ntmps106
  go_wp2_with (refine wpList_alloc0 rfl 57 rfl (rowB 32 (fun _ => 0)) (alloc37 _) ?_; intro w1 ha1 hs1 hc1)
  obtain ⟨d, hd⟩ : ∃ d, d = w.heap.size := ⟨_, rfl⟩
  rw [← hd] at ha1 hs1 ⊢
  have HD := hid hd
  have hbd : b ≠ d := by omega
  clear hd
  go_loopw [4] (fun i wr => ∃ k : Nat, k ≤ 32 ∧ i = .int .i64 k ∧ wr.heap[d]? = some (.cells (rowB 32 (fun i => if i < k then digB f i else 0)) 57 (0, 0)) ∧ Chg (fun k => k = d) w1 wr) (fun i _ => 32 - (intOf i).toNat)
  case atStart => exact ⟨0, Nat.zero_le _, rfl, by rw [ha1]; rfl, Chg.refl _ _⟩
  case round =>
    obtain ⟨k, hk, rfl, hblk, hch⟩ := hrel
    by_cases hkn : k < 32
    · have hkn' : (k : Int) < 32 := by omega
      have hq : IntKind.i64.wrap ((k : Int).tdiv 4) = ((k / 4 : Nat) : Int) := by rw [IntWalk.i64_quo _ _ (by omega)]; omega
      have hr : (k : Int).tmod 4 = ((k % 4 : Nat) : Int) := by rw [Int.tmod_eq_emod_of_nonneg (by omega)]; omega
      have hq8 : ((k / 4 : Nat) : Int) < 8 := by omega
      have c1 := ((hc1.mono (fun _ _ h => h.elim)).trans hch (fun _ _ h => h)).cell (HS.out.cell (k / 4) (by omega)) hbd
      have cd := rowB_cell hblk k hkn
      have fd := frozen_of hblk k
      have HB := hid hblk
      have HC := hid hch
      clear hblk hch
      go_wp2_with fail
      go_roundw
      case rel =>
        refine ⟨k + 1, by omega, by go_num, ?_, HC.out.setCell (p := ⟨d, k, none⟩) (fun _ => rfl) _⟩
        rw [← digB_val f k, heap_set_same HB.out, rowB_set]
        refine congrArg (fun x => some (Obj.cells x _ _)) (rowB_congr fun i hi => ?_)
        by_cases e : i = k
        · subst e; rw [if_pos rfl, if_pos (by omega)]
        · rw [if_neg e]
          by_cases e2 : i < k
          · rw [if_pos e2, if_pos (by omega)]
          · rw [if_neg e2, if_neg (by omega)]
      case measure => simp [intOf]; omega
    · obtain rfl : k = 32 := by omega
      have hfin : wr.heap[d]? = some (.cells (rowB 32 (digB f)) 57 (0, 0)) := by
        rw [hblk]; exact congrArg (fun x => some (Obj.cells x _ _)) (rowB_congr fun i hi => if_pos hi)
      have HFI := hid hfin
      have HCX := hid hch
      clear hblk hch hfin
      go_wp2_with (first | (refine wpList_load0 rfl 57 _ rfl d (rowB 32 (digB f)) (.array 32 5) rfl HFI.out Tryz.underlying57 rfl (by rw [rowB_size]; kernel_rfl) ?_) | (refine wpList_store0 rfl 57 _ _ rfl d (rowB 32 (digB f)) (rowB 32 (digB f)) rfl rfl HFI.out (by rw [rowB_size]; exact size37) rfl (rowB_one _ _) ?_; intro w5 hb5 hs5 hc5))
      refine bodyPost_ret (v := .agg (rowB 32 (digB f))) ?_ rfl ⟨rfl, ?_⟩
      · exact results_row Tryz.results106 _ _ d rfl _ (run_loadVar_row _ d 57 57 _ (0, 0) (.array 32 5) hb5 Tryz.underlying57 rfl (by rw [rowB_size]; kernel_rfl))
      · have h1 : Chg (fun k => k = d) w1 w5 := (HCX.out.trans hc5 (fun _ _ h => h))
        exact hc1.trans h1 (fun i hi h => by have := HD.out; omega)
end Go.Proofs.YthglfmacjoecgaaGreatDoor
namespace Go.Proofs.YthglfmacjoecgaaGreatDoor
open Go.RowKit

theorem or128 : ∀ k : Fin 9, bits .or .i64 128 ((k.1 : Nat) : Int) = ((128 + k.1 : Nat) : Int) := by decide +kernel
theorem or0 : ∀ k : Fin 9, bits .or .i64 0 ((k.1 : Nat) : Int) = ((k.1 : Nat) : Int) := by decide +kernel
theorem not_neg (n : Int) (h1 : -9223372036854775808 ≤ n) (h0 : n < 0) : bits .xor .i64 (-1) n = -1 - n := by
  show IntKind.i64.wrap ((BitVec.ofInt 64 (-1) ^^^ BitVec.ofInt 64 n).toNat : Int) = _
  have h2 : BitVec.ofInt 64 (-1) = BitVec.allOnes 64 := by decide
  rw [h2, BitVec.allOnes_xor, BitVec.toNat_not, BitVec.toNat_ofInt]
  simp [IntKind.wrap, IntKind.bits, IntKind.signed]
  omega
theorem low_next (m k : Nat) : m / 256 ^ (k + 1) = m / 256 ^ k / 256 := by rw [Nat.div_div_eq_div_mul, Nat.pow_succ]
/-- The digits that have been written, from place t on. -/
structure DigAt (w : World) (b t k m : Nat) : Prop where
  ex : ∃ f : Nat → UInt8, w.heap[b]? = some (.cells (rowB 8 f) 167 (0, 0)) ∧ ∀ i (h : i < (lowL k m).length), f (t + i) = (lowL k m)[i]
theorem DigAt.bytes {w : World} {b t k m : Nat} (h : DigAt w b t k m) (hk : t + k = 8) : Lib.Bytes w b t (bs (lowL k m)) := by
  obtain ⟨f, h1, h2⟩ := h.ex
  intro i hi
  rw [bs_size, lowL_len] at hi
  rw [rowB_cell h1 _ (by omega)]
  have := h2 i (by rw [lowL_len]; exact hi)
  rw [this]
  rfl
theorem DigAt.put {w : World} {b t k m : Nat} (h : DigAt w b (t + 1) k m) : DigAt (w.setCell ⟨b, t, none⟩ (.int .u8 (((UInt8.ofNat (m / 256 ^ k % 256)).toNat : Nat) : Int))) b t (k + 1) m := by
  obtain ⟨f, h1, h2⟩ := h.ex
  refine ⟨fun i => if i = t then UInt8.ofNat (m / 256 ^ k % 256) else f i, ?_, fun i hi => ?_⟩
  · have := heap_set_same h1 t (.int .u8 (((UInt8.ofNat (m / 256 ^ k % 256)).toNat : Nat) : Int))
    rw [rowB_set] at this
    exact this
  · rcases Nat.eq_zero_or_pos i with h0 | h0
    · subst h0
      simp [lowL_cons]
    · obtain ⟨j, rfl⟩ : ∃ j, i = j + 1 := ⟨i - 1, by omega⟩
      have hj : j < (lowL k m).length := by rw [lowL_len] at hi ⊢; omega
      have := h2 j hj
      simp only [show ¬ t + (j + 1) = t by omega, if_false]
      rw [show t + (j + 1) = t + 1 + j by omega, this]
      simp [lowL_cons]
theorem magN_le {n : Int} (h1 : -9223372036854775808 ≤ n) (h2 : n ≤ 9223372036854775807) : magN n ≤ 9223372036854775807 := by
  unfold magN
  split <;> omega

set_option maxRecDepth 100000 in
set_option maxHeartbeats 2000000 in
theorem num_any (n : Int) (h1 : -9223372036854775808 ≤ n) (h2 : n ≤ 9223372036854775807) (w : World) :
    Calls Tryz.prog 62 #[.int .i64 n] w (Rets (.string (bs (numL n))) (Chg (fun _ => False) w)) := by
  go_enter Tryz.func62, Tryz.ntmps62
  obtain ⟨sg, hsg⟩ : ∃ sg : Nat, sg = if n < 0 then 128 else 0 := ⟨_, rfl⟩
  have hnum : numL n = UInt8.ofNat (sg + (beL 8 (magN n)).length) :: beL 8 (magN n) := by rw [hsg]; rfl
  have hsg2 : sg = 0 ∨ sg = 128 := by rw [hsg]; split <;> simp
  have hml := magN_lt h1 h2
  obtain ⟨m, hm⟩ : ∃ m, m = magN n := ⟨_, rfl⟩
  rw [← hm] at hnum hml
  have HN := hid hnum
  have HSG := hid hsg
  have HSG2 := hid hsg2
  have HM := hid hm
  clear hnum hsg hsg2 hm
  go_upto_if 7 with fail
  go_cut [0, 3] from 6 (fun a s wx => a = .int .i64 (m : Int) ∧ s = .int .i64 (sg : Int) ∧ w = wx)
  case first =>
    by_cases h0 : n < 0
    · have hx := not_neg n h1 h0
      go_wp2_with fail
      go_meet
      refine ⟨?_, ?_, rfl⟩
      · rw [show (m : Int) = -1 - n by rw [HM.out]; unfold magN; rw [if_pos h0]; omega]
      · rw [HSG.out, if_pos h0]; rfl
    · go_wp2_with fail
      go_meet
      refine ⟨?_, ?_, rfl⟩
      · rw [show (m : Int) = n by rw [HM.out]; unfold magN; rw [if_neg (by omega)]; omega]
      · rw [HSG.out, if_neg (by omega)]; rfl
  case rest =>
    obtain ⟨rfl, rfl, rfl⟩ := hcut
    go_wp2_with fail
    have hb0 : (w.alloc (.cells #[.int .u8 0, .int .u8 0, .int .u8 0, .int .u8 0, .int .u8 0, .int .u8 0, .int .u8 0, .int .u8 0] 167)).heap[w.heap.size]? = some (.cells (rowB 8 (fun _ => 0)) 167 (0, 0)) := heap_alloc_new' w _
    have HB0 := hid hb0
    have HC0 := hid ((Chg.refl (fun _ => False) w).alloc (.cells #[.int .u8 0, .int .u8 0, .int .u8 0, .int .u8 0, .int .u8 0, .int .u8 0, .int .u8 0, .int .u8 0] 167))
    clear hb0
    generalize w.alloc (.cells #[.int .u8 0, .int .u8 0, .int .u8 0, .int .u8 0, .int .u8 0, .int .u8 0, .int .u8 0, .int .u8 0] 167) = W1 at *
    obtain ⟨b, hb⟩ : ∃ b, b = w.heap.size := ⟨_, rfl⟩
    rw [← hb] at HB0 ⊢
    have HB := hid hb
    clear hb
    go_loopw [0, 5] (fun x a wr => ∃ k t : Nat, t + k = 8 ∧ x = .int .i64 ((m / 256 ^ k : Nat) : Int) ∧ a = .int .i64 (t : Int) ∧ Chg (fun _ => False) w wr ∧ DigAt wr b t k m ∧ ∀ j, j < k → m / 256 ^ j ≠ 0) (fun _ a _ => (intOf a).toNat)
    case atStart => exact ⟨0, 8, rfl, by simp, rfl, HC0.out, ⟨⟨_, HB0.out, fun i hi => by simp [lowL] at hi⟩⟩, fun j hj => by omega⟩
    case round =>
      obtain ⟨k, t, htk, rfl, rfl, hch, hd, hj⟩ := hrel
      have HCH := hid hch
      have HD := hid hd
      have HJ := hid hj
      have HTK := hid htk
      clear hch hj
      by_cases hz : m / 256 ^ k = 0
      · rw [hz]
        have hsz := bs_size (lowL k m)
        rw [lowL_len] at hsz
        have hby := hd.bytes htk
        have hcv : ∀ W, Chg (fun _ => False) wr W → (convert 125 9 (.slice (some ⟨b, t, none⟩) k k)).run Tryz.prog W = .ok (.string (bs (lowL k m))) W := fun W hW => by
          have h3 : Lib.Bytes W b t (bs (lowL k m)) := fun i hi => hW.cell (hby i hi) (fun h => h)
          have := Lib.run_convert_whole (P := Tryz.prog) W 125 5 9 Tryz.underlying125 Tryz.underlying5 Tryz.underlying9 b t (bs (lowL k m)) h3 k
          rwa [hsz] at this
        have hcc : ∃ c : Nat, c = sg + k ∧ c < 256 := ⟨_, rfl, by rcases HSG2.out with h | h <;> omega⟩
        obtain ⟨c, hc, hc256⟩ := hcc
        have hor : bits .or .i64 (sg : Int) (k : Int) = (c : Int) := by
          rcases HSG2.out with h | h
          · have := or0 ⟨k, by omega⟩
            rw [h] at hc ⊢
            rw [hc, Nat.zero_add]
            exact this
          · have := or128 ⟨k, by omega⟩
            rw [h] at hc ⊢
            rw [hc]
            exact this
        have hw8 : IntKind.u8.wrap (c : Int) = (c : Int) := by rw [IntKind.wrap_u8]; omega
        have h8 : (8 : Int) - (t : Int) = (k : Int) := by omega
        have hw9 : IntKind.i64.wrap (k : Int) = (k : Int) := by rw [IntKind.wrap_i64]; omega
        have h8n : 8 - t = k := by omega
        have ht0 : (0 : Int) ≤ (t : Int) := by omega
        have ht8 : (t : Int) ≤ 8 := by omega
        have hone : ∀ W, Lib.Bytes W wr.heap.size 0 ⟨#[UInt8.ofNat c]⟩ → (convert 125 9 (.slice (some ⟨wr.heap.size, 0, none⟩) 1 1)).run Tryz.prog W = .ok (.string ⟨#[UInt8.ofNat c]⟩) W := fun W hW =>
          Lib.run_convert_whole (P := Tryz.prog) W 125 5 9 Tryz.underlying125 Tryz.underlying5 Tryz.underlying9 wr.heap.size 0 ⟨#[UInt8.ofNat c]⟩ hW 1
        have hcb : (((UInt8.ofNat c).toNat : Nat) : Int) = (c : Int) := by rw [UInt8.toNat_ofNat', Nat.mod_eq_of_lt hc256]
        have hone1 := hone (wr.alloc (.cells #[.int .u8 (c : Int)] 5)).drew (fun i hi => by
          obtain rfl : i = 0 := by
            have : (⟨#[UInt8.ofNat c]⟩ : ByteArray).size = 1 := rfl
            omega
          have := cell_of (heap_alloc_new' wr (.cells #[.int .u8 (c : Int)] 5)) 0
          refine this.trans ?_
          show some (Value.int .u8 (c : Int)) = some (Value.int .u8 (((UInt8.ofNat c).toNat : Nat) : Int))
          rw [hcb])
        have hcv0 := hcv wr.drew ((Chg.refl _ wr).drew)
        have hcv1 := hcv (wr.alloc (.cells #[.int .u8 (c : Int)] 5)).drew (((Chg.refl _ wr).alloc _).drew)
        have HC := hid hc
        have HK : Hid (beL 8 m = lowL k m) := hid (beL_low k 8 m (by omega) hz HJ.out)
        obtain ⟨dg, hdg⟩ : ∃ dg, dg = bs (lowL k m) := ⟨_, rfl⟩
        rw [← hdg] at hcv0 hcv1 hsz
        have HDG := hid hdg
        have hadd : ¬ 9223372036854775807 < (⟨#[UInt8.ofNat c]⟩ : ByteArray).size + dg.size := by
          show ¬ 9223372036854775807 < 1 + dg.size
          omega
        have hadd2 : ¬ 9223372036854775807 < 1 + dg.size := hadd
        have HC1 : Hid (bs (numL n) = (⟨#[UInt8.ofNat c]⟩ : ByteArray) ++ dg) := hid (by
          rw [HN.out, HK.out, lowL_len, ← hc, hdg]
          rw [show UInt8.ofNat c :: lowL k m = [UInt8.ofNat c] ++ lowL k m from rfl, bs_append]
          rfl)
        clear hdg hc hd hcb hz
        rcases (by omega : k = 0 ∧ t = 8 ∨ k ≠ 0 ∧ ¬ 8 = t) with ⟨rfl, rfl⟩ | ⟨hk0, ht8n⟩
        · have hd0 : dg.size = 0 := hsz
          have hde : dg = ⟨#[]⟩ := HDG.out
          have hor0 : bits .or .i64 (sg : Int) 0 = (c : Int) := by simpa using hor
          have hw0 : IntKind.i64.wrap 0 = 0 := by rw [IntKind.wrap_i64]; omega
          have hcx : ∀ W, (convert 125 9 (.slice (some ⟨b, 0, none⟩) 0 0)).run Tryz.prog W = .ok (.string dg) W := fun W => by
            have := Lib.run_convert_whole (P := Tryz.prog) W 125 5 9 Tryz.underlying125 Tryz.underlying5 Tryz.underlying9 b 0 dg (fun i hi => by omega) 0
            rwa [hd0] at this
          clear hcv0 hcv1 hor hde
          go_wp2_with fail
          go_region
          all_goals go_wp2_with fail
          all_goals go_ret
          all_goals exact ⟨by rw [HC1.out]; rfl, (HCH.out.alloc _).drew⟩
        · go_wp2_with fail
          go_region
          all_goals go_wp2_with fail
          all_goals go_ret
          all_goals exact ⟨by rw [HC1.out]; rfl, (HCH.out.alloc _).drew⟩
      · have ht : t ≠ 0 := fun h => by
          obtain rfl : k = 8 := by omega
          exact absurd (Nat.div_eq_of_lt hml) hz
        obtain ⟨t', rfl⟩ : ∃ t', t = t' + 1 := ⟨t - 1, by omega⟩
        have HNX := hid (low_next m k)
        have hlt : m / 256 ^ k < 9223372036854775808 := Nat.lt_of_le_of_lt (Nat.div_le_self m (256 ^ k)) (by have := magN_le h1 h2; rw [HM.out]; omega)
        have HPUT := hid hd.put
        obtain ⟨f, hf1, hf2⟩ := HD.out.ex
        have c1 := (cell_of hf1 t').trans (rowB_get 8 f t' (by omega))
        have f1 := frozen_of hf1 t'
        have HF1 := hid hf1
        obtain ⟨q, hq⟩ : ∃ q, q = m / 256 ^ k := ⟨_, rfl⟩
        have hby : IntKind.u8.wrap (q : Int) = (((UInt8.ofNat (m / 256 ^ k % 256)).toNat : Nat) : Int) := by
          rw [← hq, UInt8.toNat_ofNat', Nat.mod_mod, IntKind.wrap_u8]
          omega
        rw [← hq] at hz hlt ⊢
        have HQ := hid hq
        have HBY := hid hby
        have HNZ := hid hz
        clear hq hf1 hf2 hby
        have hq0 : (0 : Int) < (q : Int) := by omega
        have hw1 : IntKind.i64.wrap (((t' + 1 : Nat) : Int) - 1) = (t' : Int) := by rw [IntKind.wrap_i64]; omega
        have ht8 : (t' : Int) < 8 := by omega
        go_wp2_with fail
        go_roundw
        case rel =>
          refine ⟨k + 1, t', by omega, ?_, rfl, HCH.out.setCell (p := ⟨b, t', none⟩) (fun h => absurd h (by have := HB.out; simp; omega)) _, ?_, fun j hj => ?_⟩
          · rw [HNX.out, ← HQ.out]
            rfl
          · have h3 := HPUT.out
            rw [← HBY.out, IntKind.wrap_u8] at h3
            exact h3
          · by_cases e : j = k
            · rw [e, ← HQ.out]; exact HNZ.out
            · exact HJ.out j (by omega)
        case measure => simp [intOf]
end Go.Proofs.YthglfmacjoecgaaGreatDoor
