/- Texts of the proof, one behind the other: stamp.begun, New, (*state).digest walked; sap.Num walked: a number's bytes; recipe.IsName, areNames walked; recipe.isAction, isGraph walked; recipe.word walked; strings.Builder's copyCheck and WriteString walked at this program (the loader refuses copyCheck's panic; no run comes there); recipe.line; recipe.Print walked; apiaryref01.Num walked; sap.Text, Row, apiaryref01.Text, Row walked; sap.Row walked; mill's small functions walked: width, takes, number, same. -/
import Derived.Test.YthglfmacjoecgaaGreatDoorMx01
import Derived.Lib.SlBytesRow
import Derived.Deep.RegionHeld3
import Derived.Deep.DeepCutAuto
import Derived.Laws.BitsAllLaws
import Derived.Test.YthglfmacjoecgaaGreatDoorShelf
import Derived.Shelf.Strings.SlTrimAscii
import Derived.BigQuiet
import Derived.StillTailTactics
import Derived.Deep.QuietTactic
namespace Go.Proofs.YthglfmacjoecgaaGreatDoor
open Go.RowKit

/-- The state ahead of all blocks. -/
def ivL : List Int := [1779033703, 3144134277, 1013904242, 2773480762, 1359893119, 2600822924, 528734635, 1541459225]
def iv : Nat → Int := fun i => ivL.getD i 0
theorem iv_row : rowF 8 iv = #[.int .u32 1779033703, .int .u32 3144134277, .int .u32 1013904242, .int .u32 2773480762, .int .u32 1359893119, .int .u32 2600822924, .int .u32 528734635, .int .u32 1541459225] := rfl

set_option maxRecDepth 100000 in
set_option maxHeartbeats 1000000 in
theorem begun_any (w : World) : Calls Tryz.prog 104 #[] w (Rets (.agg (rowF 8 iv)) (Chg (fun _ => False) w)) := by
  rw [iv_row]
  go_enter Tryz.func104, Tryz.ntmps104
  go_wp2
  refine bodyPost_ret (v := .agg #[.int .u32 1779033703, .int .u32 3144134277, .int .u32 1013904242, .int .u32 2773480762, .int .u32 1359893119, .int .u32 2600822924, .int .u32 528734635, .int .u32 1541459225]) (by simp [results, Tryz.results104, go_sem]) rfl ⟨rfl, (Chg.refl _ w).alloc _⟩

/-- A press: its state, what doesn't fill a block yet, how many bytes came. -/
structure PressAt (w : World) (b : Nat) (f : Nat → Int) (rest : ByteArray) (n : Int) : Prop where
  ex : ∃ cs, StAt w b 181 cs f ∧ cs[8]? = some (.string rest) ∧ cs[9]? = some (.int .i64 n)

set_option maxRecDepth 100000 in
set_option maxHeartbeats 1000000 in
theorem snew_any (w : World) : Calls Tryz.prog 64 #[] w (fun e w' => ∃ b, e = .returned (.pointer (some ⟨b, 0, none⟩)) ∧ w.heap.size ≤ b ∧ PressAt w' b iv .empty 0 ∧ Chg (fun _ => False) w w') := by
  have hb := begun_any w
  rw [iv_row] at hb
  go_enter Tryz.func64, Tryz.ntmps64
  go_wp2_with (go_at_call 104; refine hb.mono ?_; rintro e w1 ⟨rfl, hc1⟩)
  go_ret
  refine ⟨w1.heap.size, rfl, hc1.size, ⟨_, ⟨heap_alloc_new w1 _, fun i hi => ?_⟩, rfl, rfl⟩, hc1.alloc _⟩
  match i, hi with
  | 0, _ => rfl
  | 1, _ => rfl
  | 2, _ => rfl
  | 3, _ => rfl
  | 4, _ => rfl
  | 5, _ => rfl
  | 6, _ => rfl
  | 7, _ => rfl

/-- A row of n bytes. -/
def rowB (n : Nat) (f : Nat → UInt8) : Array Value := ((List.range n).map fun i => Value.int .u8 ((f i).toNat : Nat)).toArray
theorem rowB_size (n : Nat) (f : Nat → UInt8) : (rowB n f).size = n := by simp [rowB]
theorem rowB_get (n : Nat) (f : Nat → UInt8) (i : Nat) (h : i < n) : (rowB n f)[i]? = some (.int .u8 ((f i).toNat : Nat)) := by simp [rowB, h]
theorem rowB_one (n : Nat) (f : Nat → UInt8) : (rowB n f).toList.all Value.oneCell' = true := by simp [rowB, List.all_eq_true]; intros; rfl
theorem rowB_congr {n : Nat} {f g : Nat → UInt8} (h : ∀ i, i < n → f i = g i) : rowB n f = rowB n g := by
  unfold rowB
  congr 1
  apply List.map_congr_left
  intro i hi
  rw [h i (List.mem_range.1 hi)]
theorem rowB_set (n : Nat) (f : Nat → UInt8) (t : Nat) (v : UInt8) : (rowB n f).setIfInBounds t (.int .u8 (v.toNat : Nat)) = rowB n (fun i => if i = t then v else f i) := by
  apply Array.ext_getElem?
  intro i
  rw [Array.getElem?_setIfInBounds]
  by_cases h : i < n
  · rw [rowB_get n _ i h, rowB_get n _ i h, rowB_size]
    by_cases e : t = i
    · subst e; simp [h]
    · rw [if_neg e, if_neg (fun h : i = t => e h.symm)]
  · have h1 : ∀ g, (rowB n g)[i]? = none := fun g => by rw [Array.getElem?_eq_none]; rw [rowB_size]; omega
    rw [h1, h1, rowB_size]
    by_cases e : t = i
    · subst e; simp [h]
    · simp [e]
theorem rowB_cell {w : World} {b n : Nat} {f : Nat → UInt8} {T : TypeId} {fz : Nat × Nat} (h : w.heap[b]? = some (.cells (rowB n f) T fz)) (i : Nat) (hi : i < n) : w.cell? ⟨b, i, none⟩ = some (.int .u8 ((f i).toNat : Nat)) := by
  rw [cell_of h, rowB_get n f i hi]
theorem alloc37 (w : World) : (Instr.alloc 57 true (.tuple #[])).run Tryz.prog w = .ok (.pointer (some ⟨w.heap.size, 0, none⟩)) (w.alloc (.cells (rowB 32 (fun _ => 0)) 57)) := by kernel_rfl
theorem size37 (w : World) : (sizeOf 57).run Tryz.prog w = .ok 32 w := by kernel_rfl

/-- A digest's byte. -/
def digB (f : Nat → Int) (i : Nat) : UInt8 := UInt8.ofNat ((f (i / 4) / 2 ^ (24 - i % 4 * 8)) % 256).toNat

theorem digB_val (f : Nat → Int) (k : Nat) : ((digB f k).toNat : Int) = f (k / 4) / 2 ^ (24 - k % 4 * 8) % 256 := by
  unfold digB
  generalize f (k / 4) / 2 ^ (24 - k % 4 * 8) = x
  rw [UInt8.toNat_ofNat']
  omega

set_option maxRecDepth 100000 in
set_option maxHeartbeats 2000000 in
theorem digest_any (w : World) (b : Nat) (T : TypeId) (cs : Array Value) (f : Nat → Int) (hS : StAt w b T cs f) :
    Calls Tryz.prog 106 #[.pointer (some ⟨b, 0, none⟩)] w (Rets (.agg (rowB 32 (digB f))) (Chg (fun _ => False) w)) := by
  have HS := hid hS
  have hbw := heap_lt hS.heap
  clear hS
  go_enter Tryz.func106, Tryz.ntmps106
  go_wp2_with (refine wpList_alloc0 rfl 57 rfl (rowB 32 (fun _ => 0)) (alloc37 _) ?_; intro w1 ha1 hs1 hc1)
  obtain ⟨d, hd⟩ : ∃ d, d = w.heap.size := ⟨_, rfl⟩
  rw [← hd] at ha1 hs1 ⊢
  have HD := hid hd
  have hbd : b ≠ d := by omega
  clear hd
  go_loopw [4] (fun i wr => ∃ k : Nat, k ≤ 32 ∧ i = .int .i64 k ∧ wr.heap[d]? = some (.cells (rowB 32 (fun i => if i < k then digB f i else 0)) 57 (0, 0)) ∧ Chg (fun k => k = d) w1 wr) (fun i _ => 32 - (intOf i).toNat)
  case atStart => exact ⟨0, Nat.zero_le _, rfl, by rw [ha1]; rfl, Chg.refl _ _⟩
  case round =>
    obtain ⟨k, hk, rfl, hblk, hch⟩ := hrel
    by_cases hkn : k < 32
    · have hkn' : (k : Int) < 32 := by omega
      have hq : IntKind.i64.wrap ((k : Int).tdiv 4) = ((k / 4 : Nat) : Int) := by rw [IntWalk.i64_quo _ _ (by omega)]; omega
      have hr : (k : Int).tmod 4 = ((k % 4 : Nat) : Int) := by rw [Int.tmod_eq_emod_of_nonneg (by omega)]; omega
      have hq8 : ((k / 4 : Nat) : Int) < 8 := by omega
      have c1 := ((hc1.mono (fun _ _ h => h.elim)).trans hch (fun _ _ h => h)).cell (HS.out.cell (k / 4) (by omega)) hbd
      have cd := rowB_cell hblk k hkn
      have fd := frozen_of hblk k
      have HB := hid hblk
      have HC := hid hch
      clear hblk hch
      go_wp2_with fail
      go_roundw
      case rel =>
        refine ⟨k + 1, by omega, by go_num, ?_, HC.out.setCell (p := ⟨d, k, none⟩) (fun _ => rfl) _⟩
        rw [← digB_val f k, heap_set_same HB.out, rowB_set]
        refine congrArg (fun x => some (Obj.cells x _ _)) (rowB_congr fun i hi => ?_)
        by_cases e : i = k
        · subst e; rw [if_pos rfl, if_pos (by omega)]
        · rw [if_neg e]
          by_cases e2 : i < k
          · rw [if_pos e2, if_pos (by omega)]
          · rw [if_neg e2, if_neg (by omega)]
      case measure => simp [intOf]; omega
    · obtain rfl : k = 32 := by omega
      have hfin : wr.heap[d]? = some (.cells (rowB 32 (digB f)) 57 (0, 0)) := by
        rw [hblk]; exact congrArg (fun x => some (Obj.cells x _ _)) (rowB_congr fun i hi => if_pos hi)
      have HFI := hid hfin
      have HCX := hid hch
      clear hblk hch hfin
      go_wp2_with (first | (refine wpList_load0 rfl 57 _ rfl d (rowB 32 (digB f)) (.array 32 5) rfl HFI.out Tryz.underlying57 rfl (by rw [rowB_size]; kernel_rfl) ?_) | (refine wpList_store0 rfl 57 _ _ rfl d (rowB 32 (digB f)) (rowB 32 (digB f)) rfl rfl HFI.out (by rw [rowB_size]; exact size37) rfl (rowB_one _ _) ?_; intro w5 hb5 hs5 hc5))
      refine bodyPost_ret (v := .agg (rowB 32 (digB f))) ?_ rfl ⟨rfl, ?_⟩
      · exact results_row Tryz.results106 _ _ d rfl _ (run_loadVar_row _ d 57 57 _ (0, 0) (.array 32 5) hb5 Tryz.underlying57 rfl (by rw [rowB_size]; kernel_rfl))
      · have h1 : Chg (fun k => k = d) w1 w5 := (HCX.out.trans hc5 (fun _ _ h => h))
        exact hc1.trans h1 (fun i hi h => by have := HD.out; omega)
end Go.Proofs.YthglfmacjoecgaaGreatDoor
namespace Go.Proofs.YthglfmacjoecgaaGreatDoor
open Go.RowKit

theorem or128 : ∀ k : Fin 9, bits .or .i64 128 ((k.1 : Nat) : Int) = ((128 + k.1 : Nat) : Int) := by decide +kernel
theorem or0 : ∀ k : Fin 9, bits .or .i64 0 ((k.1 : Nat) : Int) = ((k.1 : Nat) : Int) := by decide +kernel
theorem not_neg (n : Int) (h1 : -9223372036854775808 ≤ n) (h0 : n < 0) : bits .xor .i64 (-1) n = -1 - n := by
  show IntKind.i64.wrap ((BitVec.ofInt 64 (-1) ^^^ BitVec.ofInt 64 n).toNat : Int) = _
  have h2 : BitVec.ofInt 64 (-1) = BitVec.allOnes 64 := by decide
  rw [h2, BitVec.allOnes_xor, BitVec.toNat_not, BitVec.toNat_ofInt]
  simp [IntKind.wrap, IntKind.bits, IntKind.signed]
  omega
theorem low_next (m k : Nat) : m / 256 ^ (k + 1) = m / 256 ^ k / 256 := by rw [Nat.div_div_eq_div_mul, Nat.pow_succ]
/-- The digits that have been written, from place t on. -/
structure DigAt (w : World) (b t k m : Nat) : Prop where
  ex : ∃ f : Nat → UInt8, w.heap[b]? = some (.cells (rowB 8 f) 167 (0, 0)) ∧ ∀ i (h : i < (lowL k m).length), f (t + i) = (lowL k m)[i]
theorem DigAt.bytes {w : World} {b t k m : Nat} (h : DigAt w b t k m) (hk : t + k = 8) : Lib.Bytes w b t (bs (lowL k m)) := by
  obtain ⟨f, h1, h2⟩ := h.ex
  intro i hi
  rw [bs_size, lowL_len] at hi
  rw [rowB_cell h1 _ (by omega)]
  have := h2 i (by rw [lowL_len]; exact hi)
  rw [this]
  rfl
theorem DigAt.put {w : World} {b t k m : Nat} (h : DigAt w b (t + 1) k m) : DigAt (w.setCell ⟨b, t, none⟩ (.int .u8 (((UInt8.ofNat (m / 256 ^ k % 256)).toNat : Nat) : Int))) b t (k + 1) m := by
  obtain ⟨f, h1, h2⟩ := h.ex
  refine ⟨fun i => if i = t then UInt8.ofNat (m / 256 ^ k % 256) else f i, ?_, fun i hi => ?_⟩
  · have := heap_set_same h1 t (.int .u8 (((UInt8.ofNat (m / 256 ^ k % 256)).toNat : Nat) : Int))
    rw [rowB_set] at this
    exact this
  · rcases Nat.eq_zero_or_pos i with h0 | h0
    · subst h0
      simp [lowL_cons]
    · obtain ⟨j, rfl⟩ : ∃ j, i = j + 1 := ⟨i - 1, by omega⟩
      have hj : j < (lowL k m).length := by rw [lowL_len] at hi ⊢; omega
      have := h2 j hj
      simp only [show ¬ t + (j + 1) = t by omega, if_false]
      rw [show t + (j + 1) = t + 1 + j by omega, this]
      simp [lowL_cons]
theorem magN_le {n : Int} (h1 : -9223372036854775808 ≤ n) (h2 : n ≤ 9223372036854775807) : magN n ≤ 9223372036854775807 := by
  unfold magN
  split <;> omega

set_option maxRecDepth 100000 in
set_option maxHeartbeats 2000000 in
theorem num_any (n : Int) (h1 : -9223372036854775808 ≤ n) (h2 : n ≤ 9223372036854775807) (w : World) :
    Calls Tryz.prog 62 #[.int .i64 n] w (Rets (.string (bs (numL n))) (Chg (fun _ => False) w)) := by
  go_enter Tryz.func62, Tryz.ntmps62
  obtain ⟨sg, hsg⟩ : ∃ sg : Nat, sg = if n < 0 then 128 else 0 := ⟨_, rfl⟩
  have hnum : numL n = UInt8.ofNat (sg + (beL 8 (magN n)).length) :: beL 8 (magN n) := by rw [hsg]; rfl
  have hsg2 : sg = 0 ∨ sg = 128 := by rw [hsg]; split <;> simp
  have hml := magN_lt h1 h2
  obtain ⟨m, hm⟩ : ∃ m, m = magN n := ⟨_, rfl⟩
  rw [← hm] at hnum hml
  have HN := hid hnum
  have HSG := hid hsg
  have HSG2 := hid hsg2
  have HM := hid hm
  clear hnum hsg hsg2 hm
  go_upto_if 7 with fail
  go_cut [0, 3] from 6 (fun a s wx => a = .int .i64 (m : Int) ∧ s = .int .i64 (sg : Int) ∧ w = wx)
  case first =>
    by_cases h0 : n < 0
    · have hx := not_neg n h1 h0
      go_wp2_with fail
      go_meet
      refine ⟨?_, ?_, rfl⟩
      · rw [show (m : Int) = -1 - n by rw [HM.out]; unfold magN; rw [if_pos h0]; omega]
      · rw [HSG.out, if_pos h0]; rfl
    · go_wp2_with fail
      go_meet
      refine ⟨?_, ?_, rfl⟩
      · rw [show (m : Int) = n by rw [HM.out]; unfold magN; rw [if_neg (by omega)]; omega]
      · rw [HSG.out, if_neg (by omega)]; rfl
  case rest =>
    obtain ⟨rfl, rfl, rfl⟩ := hcut
    go_wp2_with fail
    have hb0 : (w.alloc (.cells #[.int .u8 0, .int .u8 0, .int .u8 0, .int .u8 0, .int .u8 0, .int .u8 0, .int .u8 0, .int .u8 0] 167)).heap[w.heap.size]? = some (.cells (rowB 8 (fun _ => 0)) 167 (0, 0)) := heap_alloc_new' w _
    have HB0 := hid hb0
    have HC0 := hid ((Chg.refl (fun _ => False) w).alloc (.cells #[.int .u8 0, .int .u8 0, .int .u8 0, .int .u8 0, .int .u8 0, .int .u8 0, .int .u8 0, .int .u8 0] 167))
    clear hb0
    generalize w.alloc (.cells #[.int .u8 0, .int .u8 0, .int .u8 0, .int .u8 0, .int .u8 0, .int .u8 0, .int .u8 0, .int .u8 0] 167) = W1 at *
    obtain ⟨b, hb⟩ : ∃ b, b = w.heap.size := ⟨_, rfl⟩
    rw [← hb] at HB0 ⊢
    have HB := hid hb
    clear hb
    go_loopw [0, 5] (fun x a wr => ∃ k t : Nat, t + k = 8 ∧ x = .int .i64 ((m / 256 ^ k : Nat) : Int) ∧ a = .int .i64 (t : Int) ∧ Chg (fun _ => False) w wr ∧ DigAt wr b t k m ∧ ∀ j, j < k → m / 256 ^ j ≠ 0) (fun _ a _ => (intOf a).toNat)
    case atStart => exact ⟨0, 8, rfl, by simp, rfl, HC0.out, ⟨⟨_, HB0.out, fun i hi => by simp [lowL] at hi⟩⟩, fun j hj => by omega⟩
    case round =>
      obtain ⟨k, t, htk, rfl, rfl, hch, hd, hj⟩ := hrel
      have HCH := hid hch
      have HD := hid hd
      have HJ := hid hj
      have HTK := hid htk
      clear hch hj
      by_cases hz : m / 256 ^ k = 0
      · rw [hz]
        have hsz := bs_size (lowL k m)
        rw [lowL_len] at hsz
        have hby := hd.bytes htk
        have hcv : ∀ W, Chg (fun _ => False) wr W → (convert 125 9 (.slice (some ⟨b, t, none⟩) k k)).run Tryz.prog W = .ok (.string (bs (lowL k m))) W := fun W hW => by
          have h3 : Lib.Bytes W b t (bs (lowL k m)) := fun i hi => hW.cell (hby i hi) (fun h => h)
          have := Lib.run_convert_whole (P := Tryz.prog) W 125 5 9 Tryz.underlying125 Tryz.underlying5 Tryz.underlying9 b t (bs (lowL k m)) h3 k
          rwa [hsz] at this
        have hcc : ∃ c : Nat, c = sg + k ∧ c < 256 := ⟨_, rfl, by rcases HSG2.out with h | h <;> omega⟩
        obtain ⟨c, hc, hc256⟩ := hcc
        have hor : bits .or .i64 (sg : Int) (k : Int) = (c : Int) := by
          rcases HSG2.out with h | h
          · have := or0 ⟨k, by omega⟩
            rw [h] at hc ⊢
            rw [hc, Nat.zero_add]
            exact this
          · have := or128 ⟨k, by omega⟩
            rw [h] at hc ⊢
            rw [hc]
            exact this
        have hw8 : IntKind.u8.wrap (c : Int) = (c : Int) := by rw [IntKind.wrap_u8]; omega
        have h8 : (8 : Int) - (t : Int) = (k : Int) := by omega
        have hw9 : IntKind.i64.wrap (k : Int) = (k : Int) := by rw [IntKind.wrap_i64]; omega
        have h8n : 8 - t = k := by omega
        have ht0 : (0 : Int) ≤ (t : Int) := by omega
        have ht8 : (t : Int) ≤ 8 := by omega
        have hone : ∀ W, Lib.Bytes W wr.heap.size 0 ⟨#[UInt8.ofNat c]⟩ → (convert 125 9 (.slice (some ⟨wr.heap.size, 0, none⟩) 1 1)).run Tryz.prog W = .ok (.string ⟨#[UInt8.ofNat c]⟩) W := fun W hW =>
          Lib.run_convert_whole (P := Tryz.prog) W 125 5 9 Tryz.underlying125 Tryz.underlying5 Tryz.underlying9 wr.heap.size 0 ⟨#[UInt8.ofNat c]⟩ hW 1
        have hcb : (((UInt8.ofNat c).toNat : Nat) : Int) = (c : Int) := by rw [UInt8.toNat_ofNat', Nat.mod_eq_of_lt hc256]
        have hone1 := hone (wr.alloc (.cells #[.int .u8 (c : Int)] 5)).drew (fun i hi => by
          obtain rfl : i = 0 := by
            have : (⟨#[UInt8.ofNat c]⟩ : ByteArray).size = 1 := rfl
            omega
          have := cell_of (heap_alloc_new' wr (.cells #[.int .u8 (c : Int)] 5)) 0
          refine this.trans ?_
          show some (Value.int .u8 (c : Int)) = some (Value.int .u8 (((UInt8.ofNat c).toNat : Nat) : Int))
          rw [hcb])
        have hcv0 := hcv wr.drew ((Chg.refl _ wr).drew)
        have hcv1 := hcv (wr.alloc (.cells #[.int .u8 (c : Int)] 5)).drew (((Chg.refl _ wr).alloc _).drew)
        have HC := hid hc
        have HK : Hid (beL 8 m = lowL k m) := hid (beL_low k 8 m (by omega) hz HJ.out)
        obtain ⟨dg, hdg⟩ : ∃ dg, dg = bs (lowL k m) := ⟨_, rfl⟩
        rw [← hdg] at hcv0 hcv1 hsz
        have HDG := hid hdg
        have hadd : ¬ 9223372036854775807 < (⟨#[UInt8.ofNat c]⟩ : ByteArray).size + dg.size := by
          show ¬ 9223372036854775807 < 1 + dg.size
          omega
        have hadd2 : ¬ 9223372036854775807 < 1 + dg.size := hadd
        have HC1 : Hid (bs (numL n) = (⟨#[UInt8.ofNat c]⟩ : ByteArray) ++ dg) := hid (by
          rw [HN.out, HK.out, lowL_len, ← hc, hdg]
          rw [show UInt8.ofNat c :: lowL k m = [UInt8.ofNat c] ++ lowL k m from rfl, bs_append]
          rfl)
        clear hdg hc hd hcb hz
        rcases (by omega : k = 0 ∧ t = 8 ∨ k ≠ 0 ∧ ¬ 8 = t) with ⟨rfl, rfl⟩ | ⟨hk0, ht8n⟩
        · have hd0 : dg.size = 0 := hsz
          have hde : dg = ⟨#[]⟩ := HDG.out
          have hor0 : bits .or .i64 (sg : Int) 0 = (c : Int) := by simpa using hor
          have hw0 : IntKind.i64.wrap 0 = 0 := by rw [IntKind.wrap_i64]; omega
          have hcx : ∀ W, (convert 125 9 (.slice (some ⟨b, 0, none⟩) 0 0)).run Tryz.prog W = .ok (.string dg) W := fun W => by
            have := Lib.run_convert_whole (P := Tryz.prog) W 125 5 9 Tryz.underlying125 Tryz.underlying5 Tryz.underlying9 b 0 dg (fun i hi => by omega) 0
            rwa [hd0] at this
          clear hcv0 hcv1 hor hde
          go_wp2_with fail
          go_region
          all_goals go_wp2_with fail
          all_goals go_ret
          all_goals exact ⟨by rw [HC1.out]; rfl, (HCH.out.alloc _).drew⟩
        · go_wp2_with fail
          go_region
          all_goals go_wp2_with fail
          all_goals go_ret
          all_goals exact ⟨by rw [HC1.out]; rfl, (HCH.out.alloc _).drew⟩
      · have ht : t ≠ 0 := fun h => by
          obtain rfl : k = 8 := by omega
          exact absurd (Nat.div_eq_of_lt hml) hz
        obtain ⟨t', rfl⟩ : ∃ t', t = t' + 1 := ⟨t - 1, by omega⟩
        have HNX := hid (low_next m k)
        have hlt : m / 256 ^ k < 9223372036854775808 := Nat.lt_of_le_of_lt (Nat.div_le_self m (256 ^ k)) (by have := magN_le h1 h2; rw [HM.out]; omega)
        have HPUT := hid hd.put
        obtain ⟨f, hf1, hf2⟩ := HD.out.ex
        have c1 := (cell_of hf1 t').trans (rowB_get 8 f t' (by omega))
        have f1 := frozen_of hf1 t'
        have HF1 := hid hf1
        obtain ⟨q, hq⟩ : ∃ q, q = m / 256 ^ k := ⟨_, rfl⟩
        have hby : IntKind.u8.wrap (q : Int) = (((UInt8.ofNat (m / 256 ^ k % 256)).toNat : Nat) : Int) := by
          rw [← hq, UInt8.toNat_ofNat', Nat.mod_mod, IntKind.wrap_u8]
          omega
        rw [← hq] at hz hlt ⊢
        have HQ := hid hq
        have HBY := hid hby
        have HNZ := hid hz
        clear hq hf1 hf2 hby
        have hq0 : (0 : Int) < (q : Int) := by omega
        have hw1 : IntKind.i64.wrap (((t' + 1 : Nat) : Int) - 1) = (t' : Int) := by rw [IntKind.wrap_i64]; omega
        have ht8 : (t' : Int) < 8 := by omega
        go_wp2_with fail
        go_roundw
        case rel =>
          refine ⟨k + 1, t', by omega, ?_, rfl, HCH.out.setCell (p := ⟨b, t', none⟩) (fun h => absurd h (by have := HB.out; simp; omega)) _, ?_, fun j hj => ?_⟩
          · rw [HNX.out, ← HQ.out]
            rfl
          · have h3 := HPUT.out
            rw [← HBY.out, IntKind.wrap_u8] at h3
            exact h3
          · by_cases e : j = k
            · rw [e, ← HQ.out]; exact HNZ.out
            · exact HJ.out j (by omega)
        case measure => simp [intOf]
end Go.Proofs.YthglfmacjoecgaaGreatDoor
namespace Go.Proofs.YthglfmacjoecgaaGreatDoor
open Go.RowKit

theorem ba_isEmpty (s : ByteArray) : s.toList.isEmpty = decide (s.size = 0) := by
  rw [Lib.toList_data]
  have := Lib.size_eq s
  cases h : s.data.toList with
  | nil => rw [h] at this; simp [this]
  | cons a b =>
    rw [h] at this
    have h2 : s.size ≠ 0 := by rw [this]; simp
    simp [h2]

def lettersL : List UInt8 := [97, 98, 99, 100, 101, 102, 103, 104, 105, 106, 107, 108, 109, 110, 111, 112, 113, 114, 115, 116, 117, 118, 119, 120, 121, 122, 48, 49, 50, 51, 52, 53, 54, 55, 56, 57]
theorem letters_let (b : UInt8) : lettersL.contains b = letB b := by
  have key : ∀ n : Fin 256, lettersL.contains (UInt8.ofNat n.1) = letB (UInt8.ofNat n.1) := by decide +kernel
  have := key ⟨b.toNat, b.toNat_lt⟩
  simpa using this
theorem mem_dropWhile {p : UInt8 → Bool} {x : UInt8} : ∀ {l : List UInt8}, x ∈ l → p x = false → x ∈ l.dropWhile p
  | y :: r, h, hp => by
    unfold List.dropWhile
    cases hy : p y with
    | true =>
      simp only
      rcases List.mem_cons.1 h with rfl | h
      · rw [hy] at hp; cases hp
      · exact mem_dropWhile h hp
    | false => simpa using h
theorem dropWhile_all {p : UInt8 → Bool} : ∀ {l : List UInt8}, l.all p = true → l.dropWhile p = []
  | [], _ => rfl
  | y :: r, h => by
    simp only [List.all_cons, Bool.and_eq_true] at h
    unfold List.dropWhile
    rw [h.1]
    exact dropWhile_all h.2
theorem trim_nil (l : List UInt8) : (Lib.trimS l lettersL = []) ↔ l.all letB = true := by
  unfold Lib.trimS Lib.trimLeftS Lib.trimRightS
  have hp : (fun b => lettersL.contains b) = letB := funext letters_let
  rw [hp]
  constructor
  · intro h
    rw [List.all_eq_true]
    intro x hx
    cases hl : letB x with
    | true => rfl
    | false =>
      have h1 : x ∈ l.reverse.dropWhile letB := mem_dropWhile (List.mem_reverse.2 hx) hl
      have h2 : x ∈ (l.reverse.dropWhile letB).reverse.dropWhile letB := mem_dropWhile (List.mem_reverse.2 h1) hl
      rw [h] at h2
      exact absurd h2 (by simp)
  · intro h
    have h1 : l.reverse.all letB = true := by rw [List.all_reverse]; exact h
    rw [dropWhile_all h1]
    rfl

set_option maxRecDepth 100000 in
theorem trim_any (s : ByteArray) (hs : s.size ≤ maxLen) (w : World) :
    Calls Tryz.prog 185 #[.string s, .string { data := #[97, 98, 99, 100, 101, 102, 103, 104, 105, 106, 107, 108, 109, 110, 111, 112, 113, 114, 115, 116, 117, 118, 119, 120, 121, 122, 48, 49, 50, 51, 52, 53, 54, 55, 56, 57] }] w
      (fun e w' => ∃ r : ByteArray, e = .returned (.string r) ∧ r.toList.isEmpty = s.data.toList.all letB ∧ Chg (fun _ => False) w w') := by
  unfold maxLen at hs
  have h := Any.strings_Trim_laid Tryz.lays160 (by kernel_rfl) s ⟨lettersL.toArray⟩ w (by omega) (by decide +kernel) (ascii_of_all (by decide +kernel))
  refine Calls.mono h ?_
  rintro e w' ⟨rfl, hb⟩
  refine ⟨_, rfl, ?_, (Chg.of_below hb).mono (fun i hi h => by omega)⟩
  rw [ba_isEmpty]
  have e1 := trim_nil s.data.toList
  have e2 : (ByteArray.mk (Lib.trimS s.data.toList lettersL).toArray).size = (Lib.trimS s.data.toList lettersL).length := by simp [ByteArray.size]
  show decide ((ByteArray.mk (Lib.trimS s.data.toList lettersL).toArray).size = 0) = _
  rw [e2, Bool.eq_iff_iff, decide_eq_true_eq, ← e1, List.length_eq_zero_iff]

theorem isName_any (s : ByteArray) (hs : s.size ≤ maxLen) (w : World) : Calls Tryz.prog 179 #[.string s] w (Rets (.bool (nameL s.data.toList)) (Chg (fun _ => False) w)) := by
  have ht := trim_any s hs
  unfold maxLen at hs
  have hsl : s.data.toList.length = s.size := (Lib.size_eq s).symm
  by_cases h0 : s.size = 0
  · have e0 : s.toList.isEmpty = true := by rw [ba_isEmpty]; simp [h0]
    have hr : nameL s.data.toList = false := by unfold nameL; rw [hsl, h0]; rfl
    rw [hr]
    clear ht hsl hr
    go_enter Tryz.func179, Tryz.ntmps179
    go_wp2
    go_ret
    exact ⟨rfl, Chg.refl _ _⟩
  · have e0 : s.toList.isEmpty = false := by rw [ba_isEmpty]; simp [h0]
    by_cases h8 : s.size ≤ 8
    · have h8' : (s.size : Int) ≤ 8 := by omega
      have hr : nameL s.data.toList = s.data.toList.all letB := by unfold nameL; rw [hsl]; simp [h8]; omega
      rw [hr]
      generalize s.data.toList.all letB = B at ht
      clear hsl hr
      go_enter Tryz.func179, Tryz.ntmps179
      go_wp2_with (go_at_call 185; refine (ht _).mono ?_; rintro e w' ⟨r, rfl, hr, hc⟩)
      go_ret
      exact ⟨by first | rfl | rw [hr], hc⟩
    · have h8' : ¬ (s.size : Int) ≤ 8 := by omega
      have hr : nameL s.data.toList = false := by unfold nameL; rw [hsl]; simp [h8]
      rw [hr]
      clear ht hsl hr
      go_enter Tryz.func179, Tryz.ntmps179
      go_wp2
      go_ret
      exact ⟨rfl, Chg.refl _ _⟩
theorem isNameL_any (l : List UInt8) (hl : l.length ≤ maxLen) (w : World) : Calls Tryz.prog 179 #[.string (bs l)] w (Rets (.bool (nameL l)) (Chg (fun _ => False) w)) := by
  have := isName_any (bs l) (by rw [bs_size]; exact hl) w
  rwa [bs_data] at this

theorem notName_any (s : ByteArray) (hs : s.size ≤ maxLen) (w : World) : Calls Tryz.prog 180 #[.string s] w (Rets (.bool (!nameL s.data.toList)) (Chg (fun _ => False) w)) := by
  have h := isName_any s hs
  clear hs
  go_enter Tryz.func180, Tryz.ntmps180
  go_wp2_with (go_at_call 179; refine (h _).mono ?_; rintro e w' ⟨rfl, hc⟩)
  go_ret
  exact ⟨rfl, hc⟩

set_option maxHeartbeats 1000000 in
theorem ixn_any (v : Value) (ss : List ByteArray) (w : World) (hin : StrsAt w v ss) :
    Calls Tryz.prog 92 #[v, .func (.func 180) #[] #[]] w (fun e w' => ∃ r : Int, e = .returned (.int .i64 r) ∧ (r < 0 ↔ ∀ s ∈ ss, nameL s.data.toList = true) ∧ Chg (fun _ => False) w w') := by
  have hlenI := fun W ty => hin.len (P := Tryz.prog) Tryz.underlying22 W ty
  have hmx := hin.2.1
  unfold maxLen at hmx
  have H := hid hin
  clear hin
  go_enter Tryz.func92, Tryz.ntmps92
  go_wp2_with fail
  go_loopw [8] (fun i wr => ∃ k : Nat, k ≤ ss.length ∧ i = .int .i64 k ∧ Chg (fun _ => False) w wr ∧ ∀ j (h : j < ss.length), j < k → nameL ss[j].data.toList = true) (fun i _ => ss.length - (intOf i).toNat)
  case atStart => exact ⟨0, Nat.zero_le _, rfl, Chg.refl _ _, fun j _ h => absurd h (Nat.not_lt_zero _)⟩
  case round =>
    obtain ⟨k, hk, rfl, hch, hall⟩ := hrel
    have HA := hid hall
    have HC := hid hch
    have S2 := H.out.chg hch (fun _ _ h => h)
    clear hall hch
    by_cases hkn : k < ss.length
    · have hkn' : (k : Int) < ss.length := by omega
      obtain ⟨ad, hix, hadc, hadb⟩ := S2.ix (P := Tryz.prog) Tryz.underlying22 Tryz.sizeOf9 k hkn
      have hsk := S2.2.2 _ (List.getElem_mem hkn)
      clear S2
      cases hw : nameL ss[k].data.toList with
      | false =>
        have hn := notName_any ss[k] hsk
        rw [hw] at hn
        go_wp2_with (go_at_call 180; refine (hn _).mono ?_; rintro e w' ⟨rfl, hc⟩)
        go_ret
        refine ⟨k, rfl, ⟨fun h => by omega, fun h => ?_⟩, HC.out.trans hc (fun _ _ h => h)⟩
        have := h _ (List.getElem_mem hkn)
        rw [hw] at this; cases this
      | true =>
        have hn := notName_any ss[k] hsk
        rw [hw] at hn
        go_wp2_with (go_at_call 180; refine (hn _).mono ?_; rintro e w' ⟨rfl, hc⟩)
        go_roundw
        case rel =>
          refine ⟨k + 1, by omega, by go_num, HC.out.trans hc (fun _ _ h => h), fun j hj hjk => ?_⟩
          by_cases e : j = k
          · subst e; exact hw
          · exact HA.out j hj (by omega)
        case measure => simp [intOf]; omega
    · obtain rfl : k = ss.length := by omega
      go_wp2_with fail
      go_ret
      refine ⟨_, rfl, ⟨fun _ s hs => ?_, fun _ => by decide⟩, HC.out⟩
      obtain ⟨j, hj, rfl⟩ := List.mem_iff_getElem.1 hs
      exact HA.out j hj hj
theorem cfn_any (v : Value) (ss : List ByteArray) (w : World) (hin : StrsAt w v ss) :
    Calls Tryz.prog 57 #[v, .func (.func 180) #[] #[]] w (Rets (.bool (!ss.all fun s => nameL s.data.toList)) (Chg (fun _ => False) w)) := by
  have hix := ixn_any v ss w hin
  clear hin
  go_enter Tryz.func57, Tryz.ntmps57
  go_wp2_with (go_at_call 92; refine hix.mono ?_; rintro e w' ⟨r, rfl, hr, hc⟩)
  go_ret
  refine ⟨?_, hc⟩
  have e1 : (ss.all fun s => nameL s.data.toList) = decide (r < 0) := by
    rw [Bool.eq_iff_iff, List.all_eq_true, decide_eq_true_eq, hr]
  rw [e1]
  by_cases h : r < 0
  · simp [h]
  · simp [h]; omega
theorem areNames_any (v : Value) (ss : List ByteArray) (w : World) (hin : StrsAt w v ss) :
    Calls Tryz.prog 166 #[v] w (Rets (.bool (ss.all fun s => nameL s.data.toList)) (Chg (fun _ => False) w)) := by
  have h := cfn_any v ss w hin
  clear hin
  go_enter Tryz.func166, Tryz.ntmps166
  go_wp2_with (go_at_call 57; refine h.mono ?_; rintro e w' ⟨rfl, hc⟩)
  go_ret
  exact ⟨by simp, hc⟩
theorem areNamesL_any (v : Value) (ss : List (List UInt8)) (w : World) (hin : NamesAt w v ss) :
    Calls Tryz.prog 166 #[v] w (Rets (.bool (ss.all nameL)) (Chg (fun _ => False) w)) := by
  have := areNames_any v (ss.map bs) w hin
  have e : ((ss.map bs).all fun s => nameL s.data.toList) = ss.all nameL := by
    rw [List.all_map]
    congr 1
  rwa [e] at this
end Go.Proofs.YthglfmacjoecgaaGreatDoor
namespace Go.Proofs.YthglfmacjoecgaaGreatDoor
open Go.RowKit

/-- An action as a value. -/
def actV (a : ActR) (iv : Value) : Value := .agg #[.string (bs a.name), iv, .string (bs a.code)]

theorem NamesAt.len {w0 : World} {v : Value} {ss : List (List UInt8)} (h : NamesAt w0 v ss) (w : World) (ty : TypeId) : (Builtin.len_ #[22] ty #[v]).run Tryz.prog w = .ok (.int .i64 ss.length) w := by
  have := StrsAt.len (P := Tryz.prog) h Tryz.underlying22 w ty
  simpa using this
theorem NamesAt.le {w0 : World} {v : Value} {ss : List (List UInt8)} (h : NamesAt w0 v ss) : ss.length ≤ maxLen := by
  have := h.2.1
  simpa using this
theorem NamesAt.wide {w0 : World} {v : Value} {ss : List (List UInt8)} (h : NamesAt w0 v ss) : ∀ s ∈ ss, s.length ≤ maxLen := by
  intro s hs
  have := h.2.2 (bs s) (List.mem_map.2 ⟨s, hs, rfl⟩)
  rwa [bs_size] at this

set_option maxRecDepth 100000 in
set_option maxHeartbeats 1000000 in
theorem isAction_any (a : ActR) (iv : Value) (w : World) (hn : a.name.length ≤ maxLen) (hc : a.code.length ≤ maxLen) (hi : NamesAt w iv a.ins) :
    Calls Tryz.prog 165 #[actV a iv] w (Rets (.bool (actOK a)) (Chg (fun _ => False) w)) := by
  have h1 := fun w => isNameL_any a.name hn w
  have hsz := bs_size a.code
  have hle := hi.le
  have hlen := hi.len
  have hz : World.heap w = World.heap w := rfl
  obtain ⟨W1, hW1⟩ : ∃ W1, W1 = w.alloc (.cells #[.string (bs a.name), iv, .string (bs a.code)] 43) := ⟨_, rfl⟩
  have hC1 : Chg (fun _ => False) w W1 := hW1 ▸ (Chg.refl _ w).alloc _
  have hb1 : W1.heap[w.heap.size]? = some (.cells #[.string (bs a.name), iv, .string (bs a.code)] 43 (0, 0)) := hW1 ▸ heap_alloc_new' w _
  have hA : ∀ W, Chg (fun _ => False) W1 W → Calls Tryz.prog 166 #[iv] W (Rets (.bool (a.ins.all nameL)) (Chg (fun _ => False) W)) := fun W hW => areNamesL_any iv a.ins W (hi.chg (hC1.trans hW (fun _ _ h => h)) (fun _ _ h => h))
  have hcell : ∀ W, Chg (fun _ => False) W1 W → W.cell? ⟨w.heap.size, 1, none⟩ = some iv ∧ W.cell? ⟨w.heap.size, 2, none⟩ = some (.string (bs a.code)) := fun W hW =>
    ⟨(cell_of (hW.obj hb1 (fun h => h)) 1), (cell_of (hW.obj hb1 (fun h => h)) 2)⟩
  have hok : actOK a = (nameL a.name && a.ins.all nameL && decide (a.ins.length ≤ 4) && decide (a.code.length ≤ 64)) := rfl
  unfold actV
  rw [← bs_size] at hc
  unfold maxLen at hle hc
  have HA := hid hA
  have HC := hid hcell
  have H1 := hid hC1
  rw [hok]
  clear hA hcell hC1 hi hok
  generalize a.ins.all nameL = B2 at HA ⊢
  generalize nameL a.name = B1 at h1 ⊢
  generalize bs a.name = nm at *
  obtain ⟨n, hn'⟩ : ∃ n, n = a.ins.length := ⟨_, rfl⟩
  rw [← hn'] at hlen hle ⊢
  rw [← hsz]
  generalize bs a.code = cd at *
  clear hsz hn'
  cases B1 with
  | false =>
    go_enter Tryz.func165, Tryz.ntmps165
    rw [hW1] at H1
    clear HA HC hb1 hW1
    go_wp2_with (go_at_call 179; refine (h1 _).mono ?_; rintro e w' ⟨rfl, hc1⟩)
    go_ret
    exact ⟨rfl, H1.out.trans hc1 (fun _ _ h => h)⟩
  | true =>
    cases B2 with
    | false =>
      go_enter Tryz.func165, Tryz.ntmps165
      rw [hW1] at H1 HA HC
      clear hb1 hW1
      go_wp2_with (first | (go_at_call 179; refine (h1 _).mono ?_; rintro e w' ⟨rfl, hc1⟩; have c1 := (HC.out _ hc1).1; have c2 := (HC.out _ hc1).2) | (go_at_call 166; refine (HA.out _ hc1).mono ?_; rintro e w2 ⟨rfl, hc2⟩; have d1 := (HC.out _ (hc1.trans hc2 (fun _ _ h => h))).1; have d2 := (HC.out _ (hc1.trans hc2 (fun _ _ h => h))).2))
      go_ret
      exact ⟨rfl, (H1.out.trans hc1 (fun _ _ h => h)).trans hc2 (fun _ _ h => h)⟩
    | true =>
      by_cases h4 : n ≤ 4
      · have h4' : (n : Int) ≤ 4 := by omega
        by_cases h64 : cd.size ≤ 64
        · have h64' : (cd.size : Int) ≤ 64 := by omega
          go_enter Tryz.func165, Tryz.ntmps165
          rw [hW1] at H1 HA HC
          clear hb1 hW1
          go_wp2_with (first | (go_at_call 179; refine (h1 _).mono ?_; rintro e w' ⟨rfl, hc1⟩; have c1 := (HC.out _ hc1).1; have c2 := (HC.out _ hc1).2) | (go_at_call 166; refine (HA.out _ hc1).mono ?_; rintro e w2 ⟨rfl, hc2⟩; have d1 := (HC.out _ (hc1.trans hc2 (fun _ _ h => h))).1; have d2 := (HC.out _ (hc1.trans hc2 (fun _ _ h => h))).2))
          go_ret
          exact ⟨by simp [h4, h64], (H1.out.trans hc1 (fun _ _ h => h)).trans hc2 (fun _ _ h => h)⟩
        · have h64' : ¬ (cd.size : Int) ≤ 64 := by omega
          go_enter Tryz.func165, Tryz.ntmps165
          rw [hW1] at H1 HA HC
          clear hb1 hW1
          go_wp2_with (first | (go_at_call 179; refine (h1 _).mono ?_; rintro e w' ⟨rfl, hc1⟩; have c1 := (HC.out _ hc1).1; have c2 := (HC.out _ hc1).2) | (go_at_call 166; refine (HA.out _ hc1).mono ?_; rintro e w2 ⟨rfl, hc2⟩; have d1 := (HC.out _ (hc1.trans hc2 (fun _ _ h => h))).1; have d2 := (HC.out _ (hc1.trans hc2 (fun _ _ h => h))).2))
          go_ret
          exact ⟨by simp [h4, h64]; omega, (H1.out.trans hc1 (fun _ _ h => h)).trans hc2 (fun _ _ h => h)⟩
      · have h4' : ¬ (n : Int) ≤ 4 := by omega
        go_enter Tryz.func165, Tryz.ntmps165
        rw [hW1] at H1 HA HC
        clear hb1 hW1
        go_wp2_with (first | (go_at_call 179; refine (h1 _).mono ?_; rintro e w' ⟨rfl, hc1⟩; have c1 := (HC.out _ hc1).1; have c2 := (HC.out _ hc1).2) | (go_at_call 166; refine (HA.out _ hc1).mono ?_; rintro e w2 ⟨rfl, hc2⟩; have d1 := (HC.out _ (hc1.trans hc2 (fun _ _ h => h))).1; have d2 := (HC.out _ (hc1.trans hc2 (fun _ _ h => h))).2))
        go_ret
        exact ⟨by simp, (H1.out.trans hc1 (fun _ _ h => h)).trans hc2 (fun _ _ h => h)⟩

/-- The action at a place of a row: its cells, and that they stay. -/
theorem ActsAt.at {w : World} {v : Value} {xs : List ActR} {iv : Nat → Value} (h : ActsAt w v xs iv) (k : Nat) (hk : k < xs.length) :
    ∃ bb oo, (∀ w, (Instr.indexAt 23 v (.int .i64 k)).run Tryz.prog w = .ok (.pointer (some ⟨bb, oo, none⟩)) w) ∧ bb < w.heap.size ∧
      w.cell? ⟨bb, oo, none⟩ = some (.string (bs xs[k].name)) ∧ w.cell? ⟨bb, oo + 1, none⟩ = some (iv k) ∧ w.cell? ⟨bb, oo + 2, none⟩ = some (.string (bs xs[k].code)) ∧ NamesAt w (iv k) xs[k].ins ∧ xs[k].name.length ≤ maxLen ∧ xs[k].code.length ≤ maxLen := by
  obtain ⟨bb, oo, h1, h2, h3⟩ := h.rows.ix (P := Tryz.prog) Tryz.underlying23 (fun w => by kernel_rfl) (by decide) k hk
  have hg : xs.getD k noAct = xs[k] := by simp [List.getD_eq_getElem?_getD, hk]
  have hw := h.wide _ (List.getElem_mem hk)
  have hi := h.ins k hk
  rw [hg] at hi
  simp only [hg] at h2
  exact ⟨bb, oo, h1, h3, h2 0 (by decide), h2 1 (by decide), h2 2 (by decide), hi, hw.1, hw.2⟩
theorem ActsAt.len {w0 : World} {v : Value} {xs : List ActR} {iv : Nat → Value} (h : ActsAt w0 v xs iv) (w : World) (ty : TypeId) : (Builtin.len_ #[23] ty #[v]).run Tryz.prog w = .ok (.int .i64 xs.length) w :=
  RowsAt.len (P := Tryz.prog) h.rows Tryz.underlying23 w ty

theorem NamesAt.form {w : World} {v : Value} {ss : List (List UInt8)} (h : NamesAt w v ss) : ∃ oa c, v = .slice oa ss.length c := by
  rcases h.1 with ⟨h1, h2⟩ | ⟨a, cap, h1, _⟩
  · exact ⟨none, 0, by rw [h1, show ss.length = 0 by simpa using congrArg List.length h2]⟩
  · exact ⟨some a, cap, by rw [h1]; simp⟩
theorem ActsAt.form {w : World} {v : Value} {xs : List ActR} {iv : Nat → Value} (h : ActsAt w v xs iv) : ∃ oa c, v = .slice oa xs.length c := by
  rcases h.rows.form with ⟨h1, h2⟩ | ⟨a, cap, h1, _⟩
  · exact ⟨none, 0, by rw [h1, h2]⟩
  · exact ⟨some a, cap, h1⟩
theorem GrAt.form {w : World} {v : Value} {g : GrR} (h : GrAt w v g) : ∃ oa c ob d iv, v = .agg #[.slice oa g.srcs.length c, .slice ob g.acts.length d] ∧ NamesAt w (.slice oa g.srcs.length c) g.srcs ∧ ActsAt w (.slice ob g.acts.length d) g.acts iv := by
  obtain ⟨sv, av, iv, rfl, h1, h2⟩ := h
  obtain ⟨oa, c, rfl⟩ := h1.form
  obtain ⟨ob, d, rfl⟩ := h2.form
  exact ⟨oa, c, ob, d, iv, rfl, h1, h2⟩

theorem notAction_any (a : ActR) (iv : Value) (w : World) (hn : a.name.length ≤ maxLen) (hc : a.code.length ≤ maxLen) (hi : NamesAt w iv a.ins) :
    Calls Tryz.prog 164 #[actV a iv] w (Rets (.bool (!actOK a)) (Chg (fun _ => False) w)) := by
  have hC1 : Chg (fun _ => False) w (w.alloc (.cells #[.string (bs a.name), iv, .string (bs a.code)] 43)) := (Chg.refl _ w).alloc _
  have h := isAction_any a iv (w.alloc (.cells #[.string (bs a.name), iv, .string (bs a.code)] 43)) hn hc (hi.chg hC1 (fun _ _ h => h))
  clear hi hn hc
  unfold actV at h ⊢
  generalize actOK a = B at *
  generalize bs a.name = nm at *
  generalize bs a.code = cd at *
  go_enter Tryz.func164, Tryz.ntmps164
  go_wp2_with (go_at_call 165; refine h.mono ?_; rintro e w' ⟨rfl, hc1⟩)
  go_ret
  exact ⟨rfl, hC1.trans hc1 (fun _ _ h => h)⟩

set_option maxHeartbeats 1000000 in
theorem ixa_any (v : Value) (xs : List ActR) (iv : Nat → Value) (w : World) (hin : ActsAt w v xs iv) :
    Calls Tryz.prog 135 #[v, .func (.func 164) #[] #[]] w (fun e w' => ∃ r : Int, e = .returned (.int .i64 r) ∧ (r < 0 ↔ ∀ a ∈ xs, actOK a = true) ∧ Chg (fun _ => False) w w') := by
  have hlenI := hin.len
  have hmx := hin.rows.le
  unfold maxLen at hmx
  have H := hid hin
  clear hin
  go_enter Tryz.func135, Tryz.ntmps135
  go_wp2_with fail
  go_loopw [8] (fun i wr => ∃ k : Nat, k ≤ xs.length ∧ i = .int .i64 k ∧ Chg (fun _ => False) w wr ∧ ∀ j (h : j < xs.length), j < k → actOK xs[j] = true) (fun i _ => xs.length - (intOf i).toNat)
  case atStart => exact ⟨0, Nat.zero_le _, rfl, Chg.refl _ _, fun j _ h => absurd h (Nat.not_lt_zero _)⟩
  case round =>
    obtain ⟨k, hk, rfl, hch, hall⟩ := hrel
    have HA := hid hall
    have HC := hid hch
    have S2 := H.out.chg hch (fun _ _ h => h)
    clear hall hch
    by_cases hkn : k < xs.length
    · have hkn' : (k : Int) < xs.length := by omega
      obtain ⟨bb, oo, hix, hlt, e0, e1, e2, hns, hw1, hw2⟩ := S2.at k hkn
      have hn := notAction_any xs[k] (iv k) wr hw1 hw2 hns
      unfold actV at hn
      clear S2 hns hw1 hw2
      cases hw : actOK xs[k] with
      | false =>
        rw [hw] at hn
        generalize bs xs[k].name = nm at *
        generalize bs xs[k].code = cd at *
        go_wp2_with (go_at_call 164; refine hn.mono ?_; rintro e w' ⟨rfl, hc⟩)
        go_ret
        refine ⟨k, rfl, ⟨fun h => by omega, fun h => ?_⟩, HC.out.trans hc (fun _ _ h => h)⟩
        have := h _ (List.getElem_mem hkn)
        rw [hw] at this; cases this
      | true =>
        rw [hw] at hn
        generalize bs xs[k].name = nm at *
        generalize bs xs[k].code = cd at *
        go_wp2_with (go_at_call 164; refine hn.mono ?_; rintro e w' ⟨rfl, hc⟩)
        go_roundw
        case rel =>
          refine ⟨k + 1, by omega, by go_num, HC.out.trans hc (fun _ _ h => h), fun j hj hjk => ?_⟩
          by_cases e : j = k
          · subst e; exact hw
          · exact HA.out j hj (by omega)
        case measure => simp [intOf]; omega
    · obtain rfl : k = xs.length := by omega
      clear S2
      go_wp2_with fail
      go_ret
      refine ⟨_, rfl, ⟨fun _ s hs => ?_, fun _ => by decide⟩, HC.out⟩
      obtain ⟨j, hj, rfl⟩ := List.mem_iff_getElem.1 hs
      exact HA.out j hj hj
theorem cfa_any (v : Value) (xs : List ActR) (iv : Nat → Value) (w : World) (hin : ActsAt w v xs iv) :
    Calls Tryz.prog 167 #[v, .func (.func 164) #[] #[]] w (Rets (.bool (!xs.all actOK)) (Chg (fun _ => False) w)) := by
  have hix := ixa_any v xs iv w hin
  clear hin
  go_enter Tryz.func167, Tryz.ntmps167
  go_wp2_with (go_at_call 135; refine hix.mono ?_; rintro e w' ⟨r, rfl, hr, hc⟩)
  go_ret
  refine ⟨?_, hc⟩
  have e1 : xs.all actOK = decide (r < 0) := by
    rw [Bool.eq_iff_iff, List.all_eq_true, decide_eq_true_eq, hr]
  rw [e1]
  by_cases h : r < 0
  · simp [h]
  · simp [h]; omega

set_option maxRecDepth 100000 in
set_option maxHeartbeats 1000000 in
theorem isGraph_any (g : GrR) (v : Value) (w : World) (hg : GrAt w v g) : Calls Tryz.prog 145 #[v] w (Rets (.bool (grOK g)) (Chg (fun _ => False) w)) := by
  obtain ⟨sv, av, iv, rfl, hs, ha⟩ := hg
  have hl1 := hs.len
  have hl2 := ha.len
  have hm1 := hs.le
  have hm2 := ha.rows.le
  have hok : grOK g = (decide (g.srcs.length ≤ 8) && decide (g.acts.length ≤ 12) && g.srcs.all nameL && g.acts.all actOK) := rfl
  obtain ⟨W1, hW1⟩ : ∃ W1, W1 = w.alloc (.cells #[sv, av] 25) := ⟨_, rfl⟩
  have hC1 : Chg (fun _ => False) w W1 := hW1 ▸ (Chg.refl _ w).alloc _
  have hb1 : W1.heap[w.heap.size]? = some (.cells #[sv, av] 25 (0, 0)) := hW1 ▸ heap_alloc_new' w _
  have hcell : ∀ W, Chg (fun _ => False) W1 W → W.cell? ⟨w.heap.size, 0, none⟩ = some sv ∧ W.cell? ⟨w.heap.size, 1, none⟩ = some av := fun W hW =>
    ⟨(cell_of (hW.obj hb1 (fun h => h)) 0), (cell_of (hW.obj hb1 (fun h => h)) 1)⟩
  have hN : ∀ W, Chg (fun _ => False) W1 W → Calls Tryz.prog 166 #[sv] W (Rets (.bool (g.srcs.all nameL)) (Chg (fun _ => False) W)) := fun W hW => areNamesL_any sv g.srcs W (hs.chg (hC1.trans hW (fun _ _ h => h)) (fun _ _ h => h))
  have hA : ∀ W, Chg (fun _ => False) W1 W → Calls Tryz.prog 167 #[av, .func (.func 164) #[] #[]] W (Rets (.bool (!g.acts.all actOK)) (Chg (fun _ => False) W)) := fun W hW => cfa_any av g.acts iv W (ha.chg (hC1.trans hW (fun _ _ h => h)) (fun _ _ h => h))
  rw [hok]
  unfold maxLen at hm1 hm2
  have HN := hid hN
  have HA := hid hA
  have HC := hid hcell
  have H1 := hid hC1
  clear hN hA hcell hC1 hs ha hok
  generalize g.srcs.all nameL = B1 at HN ⊢
  generalize g.acts.all actOK = B2 at HA ⊢
  generalize g.srcs.length = n1 at *
  generalize g.acts.length = n2 at *
  by_cases h8 : n1 ≤ 8
  · have h8' : (n1 : Int) ≤ 8 := by omega
    by_cases h12 : n2 ≤ 12
    · have h12' : (n2 : Int) ≤ 12 := by omega
      cases B1 with
      | false =>
        go_enter Tryz.func145, Tryz.ntmps145
        rw [hW1] at H1 HN HC
        clear hb1 hW1 HA
        go_wp2_with (go_at_call 166; refine (HN.out _ (Chg.refl _ _)).mono ?_; rintro e w' ⟨rfl, hc1⟩; have c1 := (HC.out _ hc1).1; have c2 := (HC.out _ hc1).2)
        go_ret
        exact ⟨by simp, H1.out.trans hc1 (fun _ _ h => h)⟩
      | true =>
        go_enter Tryz.func145, Tryz.ntmps145
        rw [hW1] at H1 HN HC HA
        clear hb1 hW1
        go_wp2_with (first | (go_at_call 166; refine (HN.out _ (Chg.refl _ _)).mono ?_; rintro e w' ⟨rfl, hc1⟩; have c1 := (HC.out _ hc1).1; have c2 := (HC.out _ hc1).2) | (go_at_call 167; refine (HA.out _ hc1).mono ?_; rintro e w2 ⟨rfl, hc2⟩))
        go_ret
        exact ⟨by simp [h8, h12], (H1.out.trans hc1 (fun _ _ h => h)).trans hc2 (fun _ _ h => h)⟩
    · have h12' : ¬ (n2 : Int) ≤ 12 := by omega
      go_enter Tryz.func145, Tryz.ntmps145
      rw [hW1] at H1
      clear hb1 hW1 HA HN HC
      go_wp2_with fail
      go_ret
      exact ⟨by simp, H1.out⟩
  · have h8' : ¬ (n1 : Int) ≤ 8 := by omega
    go_enter Tryz.func145, Tryz.ntmps145
    rw [hW1] at H1
    clear hb1 hW1 HA HN HC
    go_wp2_with fail
    go_ret
    exact ⟨by simp, H1.out⟩
end Go.Proofs.YthglfmacjoecgaaGreatDoor
namespace Go.Proofs.YthglfmacjoecgaaGreatDoor
open Go.RowKit

theorem elU8 : ElT Tryz.prog 125 5 1 1 := .mk' (z := .int .u8 0) Tryz.underlying125 (by kernel_rfl) rfl (by decide) rfl
theorem elStr : ElT Tryz.prog 22 9 1 16 := .mk' (z := .string ByteArray.empty) Tryz.underlying22 (by kernel_rfl) rfl (by decide) rfl
def encB (b : UInt8) : Value := .int .u8 (b.toNat : Int)
def hex2 (c : List UInt8) : List UInt8 := c.flatMap fun b => [hexd (b.toNat / 16), hexd (b.toNat % 16)]
theorem hex2_len (c : List UInt8) : (hex2 c).length = 2 * c.length := flat_len c
theorem hex2_take (c : List UInt8) (k : Nat) (h : k < c.length) : hex2 (c.take (k + 1)) = hex2 (c.take k) ++ [hexd (c[k].toNat / 16), hexd (c[k].toNat % 16)] := by
  unfold hex2
  rw [List.take_succ_eq_append_getElem h, List.flatMap_append]
  rfl
/-- A row of bytes of the call's own as a text. -/
theorem conv_own (w : World) (v : Value) (l : List UInt8) (h : w.ownsRow 0 5 1 v l.length (l.map encB)) (W : World) (hW : Chg (fun k => v.ownBlock ≠ some k) w W) :
    (convert 125 9 v).run Tryz.prog W = .ok (.string (bs l)) W := by
  rcases h.2 with ⟨rfl, hl⟩ | ⟨g, cap, cur, rfl, _, hg, hcc, hcm, hsz, htk⟩
  · have : l = [] := List.length_eq_zero_iff.1 hl
    subst this
    simp [convert, run_underlying Tryz.underlying125, run_underlying Tryz.underlying9, run_underlying Tryz.underlying5]
    rfl
  · have hB : Lib.Bytes W g 0 (bs l) := by
      intro i hi
      have hi' : i < l.length := by rw [bs_size] at hi; exact hi
      have hc : w.cell? ⟨g, 0 + i, none⟩ = some (encB l[i]) := by
        have := h.cellAt i (by simpa using hi')
        simpa [List.getElem?_eq_getElem hi'] using this
      exact hW.cell hc (fun h => h rfl)
    have := Lib.run_convert_whole (P := Tryz.prog) W 125 5 9 Tryz.underlying125 Tryz.underlying5 Tryz.underlying9 g 0 (bs l) hB cap
    rwa [bs_size] at this

theorem and15 (b : UInt8) : bits .and .u8 (b.toNat : Int) 15 = (b.toNat : Int) % 16 := by
  have key : ∀ n : Fin 256, bits .and .u8 (n.1 : Int) 15 = (n.1 : Int) % 16 := by decide +kernel
  exact key ⟨b.toNat, b.toNat_lt⟩
theorem dig_at (i : Int) (h0 : 0 ≤ i) (h1 : i < 16) (hb : i.toNat < 16) : ({ data := #[48, 49, 50, 51, 52, 53, 54, 55, 56, 57, 97, 98, 99, 100, 101, 102] } : ByteArray)[i.toNat]'hb = hexd i.toNat := by
  obtain ⟨n, rfl⟩ : ∃ n : Nat, i = n := ⟨i.toNat, by omega⟩
  have key : ∀ k : Fin 16, ({ data := #[48, 49, 50, 51, 52, 53, 54, 55, 56, 57, 97, 98, 99, 100, 101, 102] } : ByteArray)[k.1]'k.2 = hexd k.1 := by decide +kernel
  exact key ⟨n, by omega⟩
set_option maxRecDepth 100000 in
set_option maxHeartbeats 1000000 in
theorem word_any (c : List UInt8) (hc : c.length ≤ 64) (w : World) : Calls Tryz.prog 147 #[.string (bs c)] w (Rets (.string (bs (wordL c))) (Chg (fun _ => False) w)) := by
  have hsz := bs_size c
  by_cases h0 : c = []
  · subst h0
    have e0 : (bs []).toList.isEmpty = true := by rw [ba_isEmpty]; rfl
    go_enter Tryz.func147, Tryz.ntmps147
    go_wp2
    go_ret
    exact ⟨rfl, Chg.refl _ _⟩
  · have hp : 0 < c.length := List.length_pos_iff.2 h0
    have e0 : (bs c).toList.isEmpty = false := by rw [ba_isEmpty, hsz]; simp; omega
    obtain ⟨w1, cap, hconv, hcell, hfz, hch, hsz1, hcap⟩ := conv_bytes (P := Tryz.prog) 9 125 5 Tryz.underlying9 Tryz.underlying125 Tryz.underlying5 w (bs c)
    have hwl : wordL c = hex2 c := by unfold wordL; rw [if_neg h0]; rfl
    rw [hwl]
    rw [hsz] at hconv hcap
    have hcell' : ∀ W, Chg (fun k => w1.heap.size ≤ k) w1 W → ∀ j (h : j < c.length), W.cell? ⟨w.heap.size, j, none⟩ = some (encB c[j]) := by
      intro W hW j hj
      have := hcell j (by omega)
      refine hW.cell (this.trans ?_) (by show ¬ w1.heap.size ≤ w.heap.size; omega)
      rfl
    have HC := hid hcell'
    have H1 := hid hch
    have HS := hid hsz1
    clear hcell hcell' hfz hch hsz1 hwl h0 hsz
    generalize bs c = sc at *
    go_enter Tryz.func147, Tryz.ntmps147
    go_wp2_with fail
    go_loopw [3, 11] (fun ov iv wr => ∃ k : Nat, k ≤ c.length ∧ iv = .int .i64 k ∧ wr.ownsRow 0 5 1 ov (2 * k) ((hex2 (c.take k)).map encB) ∧ (∀ b, ov.ownBlock = some b → w1.heap.size ≤ b) ∧ Chg (fun k => w1.heap.size ≤ k) w1 wr) (fun _ iv _ => c.length - (intOf iv).toNat)
    case atStart => exact ⟨0, Nat.zero_le _, rfl, by simpa [hex2] using World.ownsRow_nil _ _ _ _, by simp [Value.ownBlock], Chg.refl _ _⟩
    case round =>
      obtain ⟨k, hk, rfl, hown, hov, hw⟩ := hrel
      have HW := hid hw
      have HV := hid hov
      clear hw hov
      by_cases hkn : k < c.length
      · have hkn' : (k : Int) < c.length := by omega
        have hck := HC.out wr HW.out k hkn
        unfold encB at hck
        obtain ⟨x, hx⟩ : ∃ x, x = c[k] := ⟨_, rfl⟩
        rw [← hx] at hck
        have hx8 := x.toNat_lt
        have ha := and15 x
        have q1 : (0 : Int) ≤ (x.toNat : Int) / 16 := by omega
        have q2 : (x.toNat : Int) / 16 < 16 := by omega
        have q3 : (0 : Int) ≤ (x.toNat : Int) % 16 := by omega
        have q4 : (x.toNat : Int) % 16 < 16 := by omega
        have HX := hid hx
        clear hx
        go_wp2_with fail
        go_region_law (refine step_append_new rfl _ _ 125 rfl elU8 hown rfl _ 2 2 rfl rfl rfl (by unfold maxLen; omega) (by omega) (by decide) ?_; intro g1 cap1 w2 hown1 hchg hg1)
        all_goals go_wp2_with fail
        all_goals go_roundw
        all_goals first
          | (simp [intOf]; omega)
          | (refine ⟨k + 1, by omega, by go_num, ?_, ?_, HW.out.trans hchg ?_⟩
             · have e1 : (2 * (k + 1)) = 2 * k + 2 := by omega
               rw [e1, hex2_take c k hkn, List.map_append, ← HX.out]
               rw [dig_at _ q1 q2, dig_at _ q3 q4] at hown1
               exact hown1
             · intro b hb
               simp [Value.ownBlock] at hb
               subst hb
               rcases hg1 with h | h
               · exact HV.out _ h
               · exact Nat.le_trans HW.out.size h
             · intro i hi h
               exact HV.out _ h)
      · obtain rfl : k = c.length := by omega
        have hcv := conv_own wr u3 (hex2 c) (by rw [hex2_len]; simpa using hown) wr (Chg.refl _ _)
        go_wp2_with fail
        go_ret
        exact ⟨rfl, H1.out.trans HW.out (fun i hi h => by have := HS.out; omega)⟩
end Go.Proofs.YthglfmacjoecgaaGreatDoor
namespace Go.Proofs.YthglfmacjoecgaaGreatDoor
open Go.RowKit

set_option maxRecDepth 100000 in
theorem check_used (b : Nat) (w : World) (h0 : w.cell? ⟨b, 0, none⟩ = some (.pointer (some ⟨b, 0, none⟩))) :
    Calls Tryz.prog 125 #[.pointer (some ⟨b, 0, none⟩)] w (Rets (.tuple #[]) (fun w' => w' = w)) := by
  obtain ⟨j, hj, _⟩ := Option.map_eq_some_iff.1 Tryz.Builder_Extra_169.sizeBuilder
  go_enter Tryz.func125, Tryz.ntmps125
  go_wp2
  rw [Lib.run_neq_ptr_same w _ Tryz.underlying168 hj]
  go_wp2
  go_end0
  exact ⟨rfl, rfl⟩
set_option maxRecDepth 100000 in
theorem check_fresh (b : Nat) (w : World) (h0 : w.cell? ⟨b, 0, none⟩ = some (.pointer none)) (hsh : w.shape? b = some (170, 2)) (hfz : w.frozen? ⟨b, 0, none⟩ = false) :
    Calls Tryz.prog 125 #[.pointer (some ⟨b, 0, none⟩)] w (Rets (.tuple #[]) (fun w' => w' = w.setCell ⟨b, 0, none⟩ (.pointer (some ⟨b, 0, none⟩)))) := by
  obtain ⟨j, hj, hjs⟩ := Option.map_eq_some_iff.1 Tryz.Builder_Extra_169.sizeBuilder
  go_enter Tryz.func125, Tryz.ntmps125
  go_wp2
  rw [Lib.run_to_unsafe w ⟨b, 0, none⟩ Tryz.underlying168 Tryz.underlying212 hj (by rw [hjs]; decide) hsh (Nat.zero_lt_succ 1)]
  simp only [Result.andThen]
  rw [Oper.upon_value]
  go_wp2
  rw [run_callFunc_extern Tryz.func143 (by kernel_rfl) (by kernel_rfl) (by kernel_rfl) (e := Extern.AbiNoEscape.same) (by kernel_rfl)]
  rw [Lib.run_noEscape]
  simp only [Result.andThen]
  rw [Oper.upon_value]
  go_wp2
  rw [Lib.run_from_unsafe w ⟨b, 0, none⟩ Tryz.underlying212 Tryz.underlying168 hj hsh Tryz.Builder_Extra_169.liesBuilder]
  simp only [Result.andThen]
  rw [Oper.upon_value]
  go_wp2
  go_end0
  exact ⟨rfl, rfl⟩
theorem check_any (B b : Nat) (l : List Value) (w : World) (h : Lib.IsBuilder 170 5 B b l w) :
    Calls Tryz.prog 125 #[.pointer (some ⟨b, 0, none⟩)] w (Rets (.tuple #[]) (fun w' => Lib.BuilderAt 170 5 B b (.pointer (some ⟨b, 0, none⟩)) l w' ∧ Below B w w')) := by
  rcases h with h | h
  · refine (check_fresh b w h.cell0 h.shape h.frozen0).mono ?_
    rintro e w' ⟨rfl, rfl⟩
    exact ⟨rfl, h.used _, (Below.refl B w).setCell (p := ⟨b, 0, none⟩) h.1 _⟩
  · refine (check_used b w h.cell0).mono ?_
    rintro e w' ⟨rfl, rfl⟩
    exact ⟨rfl, h, Below.refl B _⟩

set_option maxRecDepth 100000 in
set_option maxHeartbeats 1000000 in
theorem write_any (B b : Nat) (l : List Value) (s : ByteArray) (w : World) (h : Lib.IsBuilder 170 5 B b l w) (hlen : l.length + s.size ≤ 140737488355328) (hBw : B ≤ w.heap.size) :
    Calls Tryz.prog 101 #[.pointer (some ⟨b, 0, none⟩), .string s] w (Rets (.tuple #[.int .i64 s.size, .nilIface]) (fun w' => Lib.BuilderAt 170 5 B b (.pointer (some ⟨b, 0, none⟩)) (l ++ Lib.strCells s) w' ∧ Below B w w')) := by
  obtain ⟨i0, hi, hz0, hz1, hz2⟩ := info_parts Tryz.Builder_Extra_169.infoByte
  have hck := check_any B b l w h
  go_enter Tryz.func101, Tryz.ntmps101
  go_wp2_with (go_at_call 125; refine hck.mono ?_)
  rintro e w1 ⟨rfl, h1, hb1⟩
  obtain ⟨hB, v, hbk, hown, hne⟩ := h1
  have c0 : w1.cell? ⟨b, 0, none⟩ = some (.pointer (some ⟨b, 0, none⟩)) := by rw [Lib.cell_of_heap hbk]; rfl
  have c1 : w1.cell? ⟨b, 1, none⟩ = some v := by rw [Lib.cell_of_heap hbk]; rfl
  go_wp2_with (at_builtin; refine Lib.wpList_append_own_string _ rfl _ _ 125 9 rfl B 5 i0 Tryz.underlying125 Tryz.underlying9 hi hz0 hz1 hz2 _ _ _ rfl hown s rfl ?c3 ?c4 ?c5 ?_)
  case c3 => unfold maxLen; omega
  case c4 => omega
  case c5 => have := hb1.size; omega
  intro v' w2 hown' hgrow _
  have hlt : b < w1.heap.size := heap_lt hbk
  have hb2 : w2.heap[b]? = some (.cells #[.pointer (some ⟨b, 0, none⟩), v] 170 (0, 0)) := by
    rw [hgrow.block b hlt (fun e => hne e.symm)]
    exact hbk
  have d0 : w2.cell? ⟨b, 0, none⟩ = some (.pointer (some ⟨b, 0, none⟩)) := by rw [Lib.cell_of_heap hb2]; rfl
  have d1 : w2.cell? ⟨b, 1, none⟩ = some v := by rw [Lib.cell_of_heap hb2]; rfl
  have f1 : w2.frozen? ⟨b, 1, none⟩ = false := Lib.frozen_of_heap hb2 1
  obtain ⟨ao, n', cap, rfl⟩ : ∃ ao n' cap, v' = .slice ao n' cap := by
    rcases hown'.2 with ⟨hv, _⟩ | ⟨g, cap, cur, hv, _⟩
    · exact ⟨_, _, _, hv⟩
    · exact ⟨_, _, _, hv⟩
  go_wp2
  go_ret2
  refine ⟨rfl, ?_, ?_⟩
  · exact Lib.BuilderAt.put (T := 170) (e := 5) hB hb2 (bs' := l ++ Lib.strCells s) (by simpa [Lib.strCells_length] using hown') (by decide)
  · exact (hb1.grown hgrow (by have := hb1.size; omega) (fun k hk => (hown.lt k hk).1)).setCell (p := ⟨b, 1, none⟩) hB _

set_option maxRecDepth 100000 in
theorem line_any (ws : List (List UInt8)) (bk o c : Nat) (w : World) (hc : ∀ i (h : i < ws.length), w.cell? ⟨bk, o + i, none⟩ = some (.string (bs ws[i]))) (hb : bk < w.heap.size) (hl : ws.length ≤ 1000) (hcap : ws.length ≤ c) (hj : (joinC 32 ws).length ≤ 100000) :
    Calls Tryz.prog 146 #[.slice (some ⟨bk, o, none⟩) ws.length c] w (Rets (.string (bs (joinC 32 ws ++ [10]))) (Chg (fun _ => False) w)) := by
  have hm : (ws.map bs).map (·.data.toList) = ws := by
    rw [List.map_map]
    calc ws.map ((·.data.toList) ∘ bs) = ws.map id := List.map_congr_left (fun s _ => bs_data s)
      _ = ws := List.map_id ws
  have h := Tryz.strings_Join bk o c (ws.map bs) { data := #[32] } w (fun j x hx => by
    rw [List.getElem?_map] at hx
    obtain ⟨y, hy, rfl⟩ := Option.map_eq_some_iff.1 hx
    obtain ⟨hlt, rfl⟩ := List.getElem?_eq_some_iff.1 hy
    exact hc j hlt) hb (by simp; omega) (by simpa using hcap) (by rw [hm]; show (Lib.join ws [32]).length ≤ _; rw [join_eq]; omega)
  rw [hm, List.length_map] at h
  have e1 : Lib.join ws ({ data := #[32] } : ByteArray).data.toList = joinC 32 ws := join_eq 32 ws
  rw [e1] at h
  have hsz : (⟨(joinC 32 ws).toArray⟩ : ByteArray).size = (joinC 32 ws).length := bs_size _
  have e2 : bs (joinC 32 ws ++ [10]) = (⟨(joinC 32 ws).toArray⟩ : ByteArray) ++ { data := #[10] } := bs_append _ [10]
  rw [e2]
  have HL := hid hj
  have hsm : ¬ 9223372036854775807 < (⟨(joinC 32 ws).toArray⟩ : ByteArray).size + 1 := by omega
  clear e1 e2 hm hc hj hsz
  generalize (⟨(joinC 32 ws).toArray⟩ : ByteArray) = r at *
  go_enter Tryz.func146, Tryz.ntmps146
  go_wp2_with (go_at_call 168; refine h.mono ?_; rintro e w' ⟨rfl, hb1⟩)
  go_ret
  exact ⟨rfl, (Chg.of_below hb1).mono (fun i hi h => by omega)⟩
end Go.Proofs.YthglfmacjoecgaaGreatDoor
namespace Go.Proofs.YthglfmacjoecgaaGreatDoor
open Go.RowKit

/-- 'append(s, x ..)' at a step of a region that draws, the new elements lying anywhere. -/
theorem step_append_src {P : Program} {w : World} {ops : Array Oper} {o : Oper} {a : Act} {K : Act → World → Prop} {Q : Exit → Act → World → Prop} {E : Prop} (hgd : o.guard = none) (s x : Operand) (t : TypeId)
    (ho : o.op = .call { callee := .builtin .append, args := #[s, x], argTypes := #[t, t] })
    {e : TypeId} {size bytes : Nat} (T : ElT P t e size bytes)
    {v : Value} {n : Nat} {xs : List Value} (hown : w.ownsRow 0 e size v n xs) (hs : a.eval s = v)
    (ad : Addr) (m c : Nat) (news : List Value) (hx : a.eval x = .slice (some ad) m c) (hl : news.length = m * size) (hnews : ∀ j u, news[j]? = some u → w.cell? (ad.add j) = some u) (h1 : ∀ u ∈ news, u.oneCell' = true)
    (h63 : n + m ≤ maxLen) (hbytes : (n + m) * bytes ≤ 140737488355328) (hm : m ≠ 0)
    (h : ∀ g cap w', w'.ownsRow 0 e size (.slice (some ⟨g, 0, none⟩) (n + m) cap) (n + m) (xs ++ news) → Chg (fun k => v.ownBlock = some k) w w' → (v.ownBlock = some g ∨ w.heap.size ≤ g) →
      K (a.put o.dst (.slice (some ⟨g, 0, none⟩) (n + m) cap)) w') : if Region.wanted o (yielded ops a.tmps) = true then Oper.wp P o a w K Q else E := by
  rw [if_pos (by simp [Region.wanted, hgd])]
  obtain ⟨i, z, hi, hz, h2, h3, h4, _⟩ := T.info
  obtain ⟨v', w', hr, r2, r3, r4, r5⟩ := run_append_chg (P := P) w t o.type e i z size bytes T.ht hi hz h2 h3 h4 T.pos v n xs hown ad m c news hl hnews h1 h63 hbytes
  obtain ⟨g, cap, rfl⟩ := r5 hm
  unfold Oper.wp execOp
  simp only [ho, resolve, invoke, builtin, Sem.run_bind, Sem.run_pure, Result.andThen_ok, List.map_toArray, List.map_cons, List.map_nil, hs, hx, hr]
  exact h g cap w' r2 r3 (r4 g rfl)

def strV (l : List UInt8) : Value := .string (bs l)
/-- The builder at block b holds l; what lay below b is as it was. -/
structure BdAt (w0 w : World) (b : Nat) (l : List UInt8) : Prop where
  bd : Lib.IsBuilder 170 5 b b (Lib.byteCells l) w
  ch : Chg (fun k => b ≤ k) w0 w
  lt : b < w.heap.size
theorem BdAt.keep {w0 w w' : World} {b : Nat} {l : List UInt8} (h : BdAt w0 w b l) (hc : Chg (fun k => w.heap.size ≤ k) w w') : BdAt w0 w' b l := by
  have hb := Nat.lt_of_lt_of_le h.lt hc.size
  refine ⟨?_, h.ch.trans hc (fun i hi h' => by have := h.ch.size; show b ≤ i; omega), hb⟩
  have key : ∀ p, Lib.BuilderAt 170 5 b b p (Lib.byteCells l) w → Lib.BuilderAt 170 5 b b p (Lib.byteCells l) w' := by
    rintro p ⟨hB, v, hbk, hown, hne⟩
    exact ⟨hB, v, hc.obj hbk (by have := h.lt; show ¬ w.heap.size ≤ b; omega), Chg.owns hc hown (fun k hk => by have := (World.ownsRow.lt hown k hk).2; show ¬ w.heap.size ≤ k; omega), hne⟩
  exact h.bd.imp (key _) (key _)
theorem BdAt.append {w0 w w' : World} {b : Nat} {l x : List UInt8} (h : BdAt w0 w b l) (hb : Lib.BuilderAt 170 5 b b (.pointer (some ⟨b, 0, none⟩)) (Lib.byteCells l ++ Lib.strCells (bs x)) w') (hc : Below b w w') : BdAt w0 w' b (l ++ x) := by
  refine ⟨.inr ?_, h.ch.trans (Chg.of_below hc) (fun _ _ h => h), Nat.lt_of_lt_of_le h.lt hc.size⟩
  have e : Lib.byteCells (l ++ x) = Lib.byteCells l ++ Lib.strCells (bs x) := by rw [Lib.byteCells_append, Lib.strCells_eq, bs_data]
  rw [e]; exact hb
theorem BdAt.write {w0 w : World} {b : Nat} {l : List UInt8} (h : BdAt w0 w b l) (x : List UInt8) (hl : l.length + x.length ≤ 100000) :
    Calls Tryz.prog 101 #[.pointer (some ⟨b, 0, none⟩), .string (bs x)] w (Rets (.tuple #[.int .i64 (bs x).size, .nilIface]) (fun w' => BdAt w0 w' b (l ++ x))) := by
  refine (write_any b b _ (bs x) w h.bd (by rw [Lib.byteCells_length, bs_size]; omega) (Nat.le_of_lt h.lt)).mono ?_
  rintro e w' ⟨rfl, h1, h2⟩
  exact ⟨rfl, h.append h1 h2⟩
theorem cell_alloc' {W : World} {a : Addr} {u : Value} (h : W.cell? a = some u) (o : Obj) : (W.alloc o).cell? a = some u :=
  ((Chg.refl (fun _ => False) W).alloc o).cell h (fun h => h)
theorem NamesAt.ix {w : World} {v : Value} {ss : List (List UInt8)} (h : NamesAt w v ss) (k : Nat) (hk : k < ss.length) :
    ∃ a : Addr, (∀ w, (Instr.indexAt 22 v (.int .i64 k)).run Tryz.prog w = .ok (.pointer (some a)) w) ∧ w.cell? a = some (.string (bs ss[k])) ∧ a.block < w.heap.size := by
  have := StrsAt.ix (P := Tryz.prog) h Tryz.underlying22 Tryz.sizeOf9 k (by simpa using hk)
  simpa using this

theorem owns_new (w : World) (xs : List Value) (e : TypeId) (size n : Nat) (h : xs.length = n * size) (hn : n ≤ maxLen) : (w.alloc (.cells xs.toArray e)).ownsRow 0 e size (.slice (some ⟨w.heap.size, 0, none⟩) n n) n xs :=
  ⟨h, .inr ⟨w.heap.size, n, xs.toArray, rfl, Nat.zero_le _, heap_alloc_new w _, Nat.le_refl _, hn, by simpa using h, by simp [← h]⟩⟩
theorem line_own (ws : List (List UInt8)) (W : World) (gg cc L : Nat) (xs : List Value) (hL : L = ws.length) (hown : W.ownsRow 0 9 1 (.slice (some ⟨gg, 0, none⟩) L cc) L xs) (hxs : xs = ws.map strV) (hl : ws.length ≤ 1000) (hj : (joinC 32 ws).length ≤ 100000) :
    Calls Tryz.prog 146 #[.slice (some ⟨gg, 0, none⟩) L cc] W (Rets (.string (bs (joinC 32 ws ++ [10]))) (Chg (fun _ => False) W)) := by
  subst hL hxs
  obtain ⟨cur, hg, hcc, _⟩ := ownsRow_heap hown
  refine line_any ws gg 0 cc W (fun i hi => ?_) (heap_lt hg) hl hcc hj
  have := hown.cellAt i (by simpa using hi)
  simpa [strV, List.getElem?_eq_getElem hi] using this

set_option maxRecDepth 100000 in
set_option maxHeartbeats 4000000 in
theorem print_any (g : GrR) (v : Value) (w : World) (hg : GrAt w v g) :
    Calls Tryz.prog 132 #[v] w (Rets (.tuple #[.string (bs ((printR g).getD [])), .int .i64 (if grOK g = true then 0 else 1)]) (Chg (fun _ => False) w)) := by
  have hig : ∀ W, Chg (fun _ => False) w W → Calls Tryz.prog 145 #[v] W (Rets (.bool (grOK g)) (Chg (fun _ => False) W)) := fun W hW => isGraph_any g v W (hg.chg hW (fun _ _ h => h))
  obtain ⟨sv, av, iv, rfl, hs, ha⟩ := hg
  have hC1 : Chg (fun _ => False) w (w.alloc (.cells #[sv, av] 25)) := (Chg.refl _ w).alloc _
  cases hok : grOK g with
  | false =>
    rw [hok] at hig
    have hr : printR g = none := by unfold printR; rw [hok]; rfl
    rw [hr]
    have h1 := hig _ hC1
    clear hig hs ha
    go_enter Tryz.func132, Tryz.ntmps132
    go_wp2_with (go_at_call 145; refine h1.mono ?_; rintro e w' ⟨rfl, hc⟩)
    go_ret2
    exact ⟨rfl, hC1.trans hc (fun _ _ h => h)⟩
  | true =>
    rw [hok] at hig
    obtain ⟨n1, n2, n3, n4⟩ := (grOK_iff g).1 hok
    have hr : printR g = some (textL g) := by unfold printR; rw [hok]; rfl
    rw [hr]
    have h1 := hig _ hC1
    have hl1 := hs.len
    have hl2 := ha.len
    have hgb : (w.alloc (.cells #[sv, av] 25)).heap[w.heap.size]? = some (.cells #[sv, av] 25 (0, 0)) := heap_alloc_new' w _
    have HI := hid n3
    have HJ := hid n4
    have HS := hid hs
    have HA := hid ha
    have HG := hid hgb
    clear hig hs ha n3 n4 hr hok hgb
    go_enter Tryz.func132, Tryz.ntmps132
    go_wp2_with (go_at_call 145; refine h1.mono ?_; rintro e w2 ⟨rfl, hc2⟩; have q0 := cell_alloc' (cell_of (hc2.obj HG.out (fun h => h)) 0) (.cells #[.pointer none, .slice none 0 0] 170); simp at q0)
    have hlt : w.heap.size < w2.heap.size := by have := hc2.size; simp at this; omega
    have hbd : BdAt (w2.alloc (.cells #[.pointer none, .slice none 0 0] 170)) (w2.alloc (.cells #[.pointer none, .slice none 0 0] 170)) w2.heap.size [] :=
      ⟨.inl ⟨Nat.le_refl _, .slice none 0 0, heap_alloc_new' _ _, World.ownsRow_nil _ _ _ _, by simp [Value.ownBlock]⟩, Chg.refl _ _, by simp⟩
    have hch3 : Chg (fun _ => False) w (w2.alloc (.cells #[.pointer none, .slice none 0 0] 170)) := (hC1.trans hc2 (fun _ _ h => h)).alloc _
    have hq1 : (w2.alloc (.cells #[.pointer none, .slice none 0 0] 170)).cell? ⟨w.heap.size, 1, none⟩ = some av := by
      have := cell_alloc' (cell_of (hc2.obj HG.out (fun h => h)) 1) (.cells #[.pointer none, .slice none 0 0] 170)
      simpa using this
    clear hc2 hC1 HG h1 q0
    generalize (w2.alloc (.cells #[.pointer none, .slice none 0 0] 170)) = W3 at *
    generalize w2.heap.size = b at *
    have hfar : ∀ W, Chg (fun k => b ≤ k) W3 W → Chg (fun _ => False) w W := fun W hW => hch3.trans hW (fun i hi h => by omega)
    have HF := hid hfar
    have HQ : Hid (∀ W, Chg (fun k => b ≤ k) W3 W → W.cell? ⟨w.heap.size, 1, none⟩ = some av) := hid (fun W hW => hW.cell hq1 (by show ¬ b ≤ w.heap.size; omega))
    have hb1 : ∀ k, ((g.srcs.take k).map srcLine).flatten.length ≤ 128 := fun k => by
      have := flatten_len ((g.srcs.take k).map srcLine) 16 (fun l hl => by obtain ⟨s, hs, rfl⟩ := List.mem_map.1 hl; exact srcLine_len s (HI.out s (List.mem_of_mem_take hs)))
      simp only [List.length_map, List.length_take] at this
      omega
    have HB1 := hid hb1
    have HLT := hid hlt
    clear hb1 hfar hch3 hq1 hlt
    go_loopw [16] (fun i wr => ∃ k : Nat, k ≤ g.srcs.length ∧ i = .int .i64 k ∧ BdAt W3 wr b ((g.srcs.take k).map srcLine).flatten) (fun i _ => g.srcs.length - (intOf i).toNat)
    case atStart => exact ⟨0, Nat.zero_le _, rfl, by simpa using hbd⟩
    case round =>
      obtain ⟨k, hk, rfl, hBd⟩ := hrel
      have HBd := hid hBd
      clear hBd hbd
      by_cases hkn : k < g.srcs.length
      · have hkn' : (k : Int) < g.srcs.length := by omega
        obtain ⟨ad, hix, hadc, hadb⟩ := (HS.out.chg (HF.out wr HBd.out.ch) (fun _ _ h => h)).ix k hkn
        have hnm := HI.out _ (List.getElem_mem hkn)
        have hln := srcLine_len _ hnm
        have hbk := HB1.out k
        have hline := line_any [wSource, g.srcs[k]] wr.heap.size 0 2 (wr.alloc (.cells #[.string (bs wSource), .string (bs g.srcs[k])] 9)) (fun i hi => by
          have := cell_of (heap_alloc_new' wr (.cells #[.string (bs wSource), .string (bs g.srcs[k])] 9)) i
          rw [Nat.zero_add, this]
          match i, hi with
          | 0, _ => rfl
          | 1, _ => rfl) (by simp) (by simp) (by simp) (by simp only [srcLine, List.length_append] at hln; omega)
        have hwr : ∀ W, Chg (fun _ => False) (wr.alloc (.cells #[.string (bs wSource), .string (bs g.srcs[k])] 9)) W → Calls Tryz.prog 101 #[.pointer (some ⟨b, 0, none⟩), .string (bs (srcLine g.srcs[k]))] W (Rets (.tuple #[.int .i64 (bs (srcLine g.srcs[k])).size, .nilIface]) (fun w' => BdAt W3 w' b (((g.srcs.take (k + 1)).map srcLine).flatten))) := by
          intro W hW
          have h1 : BdAt W3 W b ((g.srcs.take k).map srcLine).flatten := HBd.out.keep ((((Chg.refl _ wr).alloc _).trans hW (fun _ _ h => h)).mono (fun _ _ h => h.elim))
          have h2 := h1.write (srcLine g.srcs[k]) (by omega)
          have e : ((g.srcs.take (k + 1)).map srcLine).flatten = ((g.srcs.take k).map srcLine).flatten ++ srcLine g.srcs[k] := by
            rw [List.take_succ_eq_append_getElem hkn, List.map_append, List.flatten_append]; simp
          rw [e]; exact h2
        have hline' : Calls Tryz.prog 146 #[.slice (some ⟨wr.heap.size, 0, none⟩) 2 2] (wr.alloc (.cells #[.string { data := #[115, 111, 117, 114, 99, 101] }, .string (bs g.srcs[k])] 9)) (Rets (.string (bs (srcLine g.srcs[k]))) (Chg (fun _ => False) (wr.alloc (.cells #[.string { data := #[115, 111, 117, 114, 99, 101] }, .string (bs g.srcs[k])] 9)))) := hline
        have hwr' : ∀ W, Chg (fun _ => False) (wr.alloc (.cells #[.string { data := #[115, 111, 117, 114, 99, 101] }, .string (bs g.srcs[k])] 9)) W → Calls Tryz.prog 101 #[.pointer (some ⟨b, 0, none⟩), .string (bs (srcLine g.srcs[k]))] W (Rets (.tuple #[.int .i64 (bs (srcLine g.srcs[k])).size, .nilIface]) (fun w' => BdAt W3 w' b (((g.srcs.take (k + 1)).map srcLine).flatten))) := hwr
        have HW := hid hwr'
        clear hwr hwr' hline hnm hln hbk
        generalize bs (srcLine g.srcs[k]) = ln at *
        generalize bs g.srcs[k] = nm at *
        go_wp2_with (first | (go_at_call 146; refine hline'.mono ?_; rintro e w4 ⟨rfl, hc4⟩) | (go_at_call 101; refine (HW.out _ hc4).mono ?_; rintro e w5 ⟨rfl, hB5⟩))
        go_roundw
        case rel => exact ⟨k + 1, by omega, by go_num, hB5⟩
        case measure => simp [intOf]; omega
      · obtain rfl : k = g.srcs.length := by omega
        have hBd := HBd.out
        rw [List.take_length] at hBd
        have HBd2 := hid hBd
        clear hBd HBd
        have q1 := HQ.out wr HBd2.out.ch
        go_wp2_with fail
        have hT1 : (g.srcs.map srcLine).flatten.length ≤ 128 := by have := HB1.out g.srcs.length; rwa [List.take_length] at this
        have hb2 : ∀ k, ((g.acts.take k).map actLine).flatten.length ≤ 2400 := fun k => by
          have := flatten_len ((g.acts.take k).map actLine) 200 (fun l hl => by obtain ⟨s, hs, rfl⟩ := List.mem_map.1 hl; exact actLine_len s (HJ.out s (List.mem_of_mem_take hs)))
          simp only [List.length_map, List.length_take] at this
          omega
        have HB2 := hid hb2
        have HT : Hid (textL g = (g.srcs.map srcLine).flatten ++ (g.acts.map actLine).flatten) := rfl
        obtain ⟨txt, htxt⟩ : ∃ txt, txt = textL g := ⟨_, rfl⟩
        rw [← htxt] at HT
        have HX := hid htxt
        obtain ⟨wo, hwo⟩ : ∃ wo, wo = wr := ⟨_, rfl⟩
        rw [← hwo] at HBd2 q1 ⊢
        clear hwo hb2 htxt
        generalize (g.srcs.map srcLine).flatten = T1 at *
        go_loopw [28] (fun i wr => ∃ k : Nat, k ≤ g.acts.length ∧ i = .int .i64 k ∧ BdAt W3 wr b (T1 ++ ((g.acts.take k).map actLine).flatten)) (fun i _ => g.acts.length - (intOf i).toNat)
        case atStart => exact ⟨0, Nat.zero_le _, rfl, by simpa using HBd2.out⟩
        case round =>
          obtain ⟨k, hk, rfl, hBd⟩ := hrel
          have HBd := hid hBd
          clear hBd
          by_cases hkn : k < g.acts.length
          · have hkn' : (k : Int) < g.acts.length := by omega
            obtain ⟨bb, oo, hix, hlt, e0, e1, e2, hns, hw1, hw2⟩ := (HA.out.chg (HF.out wr HBd.out.ch) (fun _ _ h => h)).at k hkn
            have hak := HJ.out _ (List.getElem_mem hkn)
            have hal := actLine_len _ hak
            have hTk := HB2.out k
            have htk : ((g.acts.take (k + 1)).map actLine).flatten = ((g.acts.take k).map actLine).flatten ++ actLine g.acts[k] := by
              rw [List.take_succ_eq_append_getElem hkn, List.map_append, List.flatten_append]; simp
            have HTK := hid htk
            clear htk
            obtain ⟨a, haE⟩ : ∃ a, a = g.acts[k] := ⟨_, rfl⟩
            rw [← haE] at e0 e2 hns hw1 hw2 hak hal HTK
            clear haE
            generalize iv k = ivk at *
            obtain ⟨oa, cap, rfl⟩ : ∃ oa cap, ivk = .slice oa a.ins.length cap := by
              rcases hns.1 with ⟨rfl, h0⟩ | ⟨ad, cap, rfl, _⟩
              · have : a.ins = [] := by simpa using h0
                rw [this]; exact ⟨none, 0, rfl⟩
              · exact ⟨some ad, cap, by simp⟩
            have HN := hid hns
            have HAK := hid hak
            have HAL := hid hal
            clear hns hak hal hw1 hw2
            obtain ⟨nm, hnm⟩ : ∃ nm, nm = bs a.name := ⟨_, rfl⟩
            obtain ⟨cd, hcd⟩ : ∃ cd, cd = bs a.code := ⟨_, rfl⟩
            rw [← hnm] at e0
            rw [← hcd] at e2
            have HNM := hid hnm
            have HCD := hid hcd
            clear hnm hcd
            obtain ⟨wd, hwd⟩ : ∃ wd, wd = bs (wordL a.code) := ⟨_, rfl⟩
            have hword : ∀ W, Calls Tryz.prog 147 #[.string cd] W (Rets (.string wd) (Chg (fun _ => False) W)) := fun W => by
              rw [HCD.out, hwd]
              exact word_any a.code ((actOK_iff a).1 HAK.out).2.2.2 W
            have HWD := hid hwd
            have HJL : Hid ((joinC 32 (actWs a)).length ≤ 100000) := by
              have := HAL.out
              simp only [actLine, List.length_append] at this
              show (joinC 32 (actWs a)).length ≤ 100000
              omega
            have HWR : Hid (∀ W, Chg (fun k => wr.heap.size ≤ k) wr W → Calls Tryz.prog 101 #[.pointer (some ⟨b, 0, none⟩), .string (bs (joinC 32 (actWs a) ++ [10]))] W (Rets (.tuple #[.int .i64 (bs (joinC 32 (actWs a) ++ [10])).size, .nilIface]) (fun w' => BdAt W3 w' b (T1 ++ ((g.acts.take (k + 1)).map actLine).flatten)))) := by
              intro W hW
              have h2 := (HBd.out.keep hW).write (actLine a) (by have := HAL.out; simp only [List.length_append]; omega)
              rw [List.append_assoc, ← HTK.out] at h2
              exact h2
            clear hwd
            by_cases hin : a.ins.length = 0
            · rw [hin] at e1
              have hin0 : a.ins = [] := List.length_eq_zero_iff.1 hin
              have hown4 := owns_new (wr.alloc (.cells #[.string nm, .slice oa 0 cap, .string cd] 43)) [.string { data := #[109, 97, 107, 101] }, .string nm] 9 1 2 rfl (by unfold maxLen; omega)
              have hsz4 : (wr.alloc (.cells #[.string nm, .slice oa 0 cap, .string cd] 43)).heap.size = wr.heap.size + 1 := by simp
              rw [hsz4] at hown4
              have hlen4 : Hid (4 = (actWs a).length) := by
                show 4 = (actWs a).length
                unfold actWs; rw [hin0]; rfl
              have HWS : Hid (actWs a = [wMake, a.name, wBy, wordL a.code]) := by show actWs a = _; unfold actWs; rw [hin0]; rfl
              have hc4 : Chg (fun k => wr.heap.size ≤ k) wr ((wr.alloc (.cells #[.string nm, .slice oa 0 cap, .string cd] 43)).alloc (.cells #[.string { data := #[109, 97, 107, 101] }, .string nm] 9)) := ((Chg.refl _ wr).alloc _).alloc _
              have HC4 := hid hc4
              have HXS : Hid ([.string { data := #[109, 97, 107, 101] }, .string nm] ++ (#[.string { data := #[98, 121] }, .string wd] : Array Value).toList = (actWs a).map strV) := by
                show _ = _
                rw [HWS.out, HNM.out, HWD.out]; rfl
              clear hc4 hin0 hsz4
              go_wp2_with (first | (go_at_call 147; refine (hword _).mono ?_; rintro e w5 ⟨rfl, hc5⟩; have hown5 := hc5.owns hown4 (fun _ _ h => h)) | (refine wpList_append_new rfl _ _ 22 rfl elStr hown5 rfl _ 2 2 rfl rfl rfl (by unfold maxLen; omega) (by omega) (by decide) ?_; intro g6 cap6 w6 hown6 hch6 hg6) | (go_at_call 146; refine (line_own (actWs a) _ _ _ _ _ hlen4.out hown6 HXS.out (by have := hlen4.out; omega) HJL.out).mono ?_; rintro e w7 ⟨rfl, hc7⟩) | (go_at_call 101; refine (HWR.out _ (((HC4.out.trans hc5 (fun _ _ h => h.elim)).trans hch6 (fun i hi h => by simp [Value.ownBlock] at h; omega)).trans hc7 (fun _ _ h => h.elim))).mono ?_; rintro e w8 ⟨rfl, hB8⟩))
              go_roundw
              case rel => exact ⟨k + 1, by omega, by go_num, hB8⟩
              case measure => simp [intOf]; omega
            · have hin' : (0 : Int) < a.ins.length := by omega
              obtain ⟨ad, rfl⟩ : ∃ ad, oa = some ad := by
                rcases HN.out.1 with ⟨h1, h2⟩ | ⟨ad, cap', h1, _⟩
                · simp only [Value.slice.injEq] at h1; exact absurd h1.2.1 hin
                · simp only [Value.slice.injEq] at h1; exact ⟨ad, h1.1⟩
              have hsrc : ∀ W, Chg (fun k => wr.heap.size ≤ k) wr W → ∀ (j : Nat) u, (a.ins.map strV)[j]? = some u → W.cell? (ad.add j) = some u := by
                intro W hW j u hj
                rw [List.getElem?_map] at hj
                obtain ⟨y, hy, rfl⟩ := Option.map_eq_some_iff.1 hj
                obtain ⟨hlt, rfl⟩ := List.getElem?_eq_some_iff.1 hy
                rcases HN.out.1 with ⟨h1, h2⟩ | ⟨ad', cap', h1, h2⟩
                · simp at h1
                · simp only [Value.slice.injEq, Option.some.injEq] at h1
                  obtain ⟨rfl, _, _⟩ := h1
                  have h3 := h2 j (by simpa using hlt)
                  have h4 : wr.cell? (ad.add j) = some (.string (bs a.ins[j])) := by simpa using h3
                  exact hW.cell h4 (by have := World.block_lt_of_cell? wr _ h4; show ¬ wr.heap.size ≤ _; omega)
              have hn4 := ((actOK_iff a).1 HAK.out).2.2.1
              have hown4 := owns_new (wr.alloc (.cells #[.string nm, .slice (some ad) a.ins.length cap, .string cd] 43)) [.string { data := #[109, 97, 107, 101] }, .string nm] 9 1 2 rfl (by unfold maxLen; omega)
              have hsz4 : (wr.alloc (.cells #[.string nm, .slice (some ad) a.ins.length cap, .string cd] 43)).heap.size = wr.heap.size + 1 := by simp
              rw [hsz4] at hown4
              have c1 : ((wr.alloc (.cells #[.string nm, .slice (some ad) a.ins.length cap, .string cd] 43)).alloc (.cells #[.string { data := #[109, 97, 107, 101] }, .string nm] 9)).cell? ⟨wr.heap.size, 1, none⟩ = some (.slice (some ad) a.ins.length cap) := by
                exact cell_alloc' (cell_of (heap_alloc_new' wr (.cells #[.string nm, .slice (some ad) a.ins.length cap, .string cd] 43)) 1) (.cells #[.string { data := #[109, 97, 107, 101] }, .string nm] 9)
              have c2 : ((wr.alloc (.cells #[.string nm, .slice (some ad) a.ins.length cap, .string cd] 43)).alloc (.cells #[.string { data := #[109, 97, 107, 101] }, .string nm] 9)).cell? ⟨wr.heap.size, 2, none⟩ = some (.string cd) :=
                cell_alloc' (cell_of (heap_alloc_new' wr (.cells #[.string nm, .slice (some ad) a.ins.length cap, .string cd] 43)) 2) (.cells #[.string { data := #[109, 97, 107, 101] }, .string nm] 9)
              have HL2 : Hid (2 + 1 + a.ins.length + 2 = (actWs a).length) := by
                show 2 + 1 + a.ins.length + 2 = (actWs a).length
                unfold actWs
                rw [if_neg (fun h => hin (by rw [h]; rfl))]
                simp; omega
              have HXS2 : Hid (([.string { data := #[109, 97, 107, 101] }, .string nm] ++ (#[.string { data := #[102, 114, 111, 109] }] : Array Value).toList ++ a.ins.map strV) ++ (#[.string { data := #[98, 121] }, .string wd] : Array Value).toList = (actWs a).map strV) := by
                show _ = _
                unfold actWs
                rw [if_neg (fun h => hin (by rw [h]; rfl)), HNM.out, HWD.out]
                simp [strV]
                exact ⟨rfl, rfl, rfl⟩
              have hc4 : Chg (fun k => wr.heap.size ≤ k) wr ((wr.alloc (.cells #[.string nm, .slice (some ad) a.ins.length cap, .string cd] 43)).alloc (.cells #[.string { data := #[109, 97, 107, 101] }, .string nm] 9)) := ((Chg.refl _ wr).alloc _).alloc _
              have HC4 := hid hc4
              have HSR := hid hsrc
              have HS4 : Hid (wr.heap.size + 2 ≤ ((wr.alloc (.cells #[.string nm, .slice (some ad) a.ins.length cap, .string cd] 43)).alloc (.cells #[.string { data := #[109, 97, 107, 101] }, .string nm] 9)).heap.size) := by
                show _ ≤ _
                simp
              clear hc4 hsz4 hsrc
              go_wp2_with fail
              generalize ((wr.alloc (.cells #[.string nm, .slice (some ad) a.ins.length cap, .string cd] 43)).alloc (.cells #[.string { data := #[109, 97, 107, 101] }, .string nm] 9)) = W4 at *
              have c1a := cell_alloc' c1 (.cells #[.string { data := #[102, 114, 111, 109] }] 9)
              have c1b : (W4.alloc (.cells #[.string { data := #[102, 114, 111, 109] }] 9)).drew.cell? ⟨wr.heap.size, 1, none⟩ = some (.slice (some ad) a.ins.length cap) := c1a
              have c1c : W4.drew.cell? ⟨wr.heap.size, 1, none⟩ = some (.slice (some ad) a.ins.length cap) := c1
              go_region_law (first
                | (refine step_append_new rfl _ _ 22 rfl elStr hown4 rfl _ 1 1 rfl rfl rfl (by unfold maxLen; omega) (by omega) (by decide) ?_
                   intro g1 cap1 w1 hown1 hch1 hg1
                   have d1 := hch1.cell c1 (by simp [Value.ownBlock])
                   have hW1 := HC4.out.trans hch1 (fun i hi h => by simp [Value.ownBlock] at h; omega)
                   have hge1 : wr.heap.size ≤ g1 := by rcases hg1 with h | h
                                                       · simp [Value.ownBlock] at h; omega
                                                       · have := HC4.out.size; omega)
                | (refine step_append_src rfl _ _ 22 rfl elStr hown1 rfl ad a.ins.length cap (a.ins.map strV) rfl (by simp) (HSR.out _ hW1) (by intro u hu; obtain ⟨y, _, rfl⟩ := List.mem_map.1 hu; rfl) (by unfold maxLen; omega) (by omega) (by omega) ?_
                   intro g2 cap2 w2 hown2 hch2 hg2
                   have d2 := hch2.cell (hch1.cell c2 (by simp [Value.ownBlock])) (by
                     have hne : ¬ g1 = wr.heap.size := by
                       rcases hg1 with h | h
                       · simp [Value.ownBlock] at h; omega
                       · have := HS4.out; omega
                     simpa [Value.ownBlock] using hne)
                   have hW2 := hW1.trans hch2 (fun i hi h => by simp [Value.ownBlock] at h; subst h; exact hge1)
                   have hge2 : wr.heap.size ≤ g2 := by rcases hg2 with h | h
                                                       · simp [Value.ownBlock] at h; omega
                                                       · have := hW1.size; omega))
              all_goals go_wp2_with (first | (go_at_call 147; refine (hword _).mono ?_; rintro e w5 ⟨rfl, hc5⟩; have hown5 := hc5.owns hown2 (fun _ _ h => h)) | (refine wpList_append_new rfl _ _ 22 rfl elStr hown5 rfl _ 2 2 rfl rfl rfl (by unfold maxLen; omega) (by omega) (by decide) ?_; intro g6 cap6 w6 hown6 hch6 hg6) | (go_at_call 146; refine (line_own (actWs a) _ _ _ _ _ HL2.out hown6 HXS2.out (by have := HL2.out; omega) HJL.out).mono ?_; rintro e w7 ⟨rfl, hc7⟩) | (go_at_call 101; refine (HWR.out _ (((hW2.trans hc5 (fun _ _ h => h.elim)).trans hch6 (fun i hi h => by simp [Value.ownBlock] at h; subst h; have := hge2; show wr.heap.size ≤ _; omega)).trans hc7 (fun _ _ h => h.elim))).mono ?_; rintro e w8 ⟨rfl, hB8⟩))
              all_goals go_roundw
              all_goals first
                | exact ⟨k + 1, by omega, by go_num, hB8⟩
                | (simp [intOf]; omega)
          · obtain rfl : k = g.acts.length := by omega
            have hBd := HBd.out
            rw [List.take_length, ← HT.out] at hBd
            have hst := Tryz.Builder_String_any b b txt wr hBd.bd (Nat.le_of_lt hBd.lt)
            have HBd3 := hid hBd
            clear hBd HBd HBd2
            go_wp2_with (go_at_call 103; refine hst.mono ?_; rintro e w9 ⟨rfl, hb9⟩)
            go_ret2
            have hf := HF.out w9 (HBd3.out.ch.trans (Chg.of_below hb9) (fun _ _ h => h))
            refine ⟨?_, hf⟩
            rw [HX.out]
            rfl
end Go.Proofs.YthglfmacjoecgaaGreatDoor
namespace Go.Proofs.YthglfmacjoecgaaGreatDoor
open Go.RowKit

/-- 'append(s, x ..)', the elements lying anywhere, perhaps none. -/
theorem wpList_append_any {P : Program} {w : World} {ops : Array Oper} {rest : List Oper} {o : Oper} {a : Act} {Q : Exit → Act → World → Prop} (hgd : o.guard = none) (s x : Operand) (t : TypeId)
    (ho : o.op = .call { callee := .builtin .append, args := #[s, x], argTypes := #[t, t] })
    {e : TypeId} {size bytes : Nat} (T : ElT P t e size bytes)
    {v : Value} {n : Nat} {xs : List Value} (hown : w.ownsRow 0 e size v n xs) (hs : a.eval s = v)
    (ad : Addr) (m c : Nat) (news : List Value) (hx : a.eval x = .slice (some ad) m c) (hl : news.length = m * size) (hnews : ∀ j u, news[j]? = some u → w.cell? (ad.add j) = some u) (h1 : ∀ u ∈ news, u.oneCell' = true)
    (h63 : n + m ≤ maxLen) (hbytes : (n + m) * bytes ≤ 140737488355328) (hm : 0 < n + m)
    (h : ∀ g cap w', w'.ownsRow 0 e size (.slice (some ⟨g, 0, none⟩) (n + m) cap) (n + m) (xs ++ news) → Chg (fun k => v.ownBlock = some k) w w' → (v.ownBlock = some g ∨ w.heap.size ≤ g) →
      wpList P ops Q rest (a.put o.dst (.slice (some ⟨g, 0, none⟩) (n + m) cap)) w') : wpList P ops Q (o :: rest) a w :=
  wpList_plain hgd fun _ hK => by
    obtain ⟨i, z, hi, hz, h2, h3, h4, _⟩ := T.info
    obtain ⟨v', w', hr, r2, r3, r4, _⟩ := run_append_chg (P := P) w t o.type e i z size bytes T.ht hi hz h2 h3 h4 T.pos v n xs hown ad m c news hl hnews h1 h63 hbytes
    obtain ⟨g, cap, rfl, _⟩ := owns_some r2 hm
    unfold Oper.wp execOp
    simp only [ho, resolve, invoke, builtin, Sem.run_bind, Sem.run_pure, Result.andThen_ok, List.map_toArray, List.map_cons, List.map_nil, hs, hx, hr]
    exact hK _ _ (h g cap w' r2 r3 (r4 g rfl))

def u8V (b : UInt8) : Value := .int .u8 ((b.toNat : Nat) : Int)
theorem elU8v : ElT Tryz.prog 125 5 1 1 := .mk' (z := .int .u8 0) Tryz.underlying125 (by kernel_rfl) rfl (by decide) rfl
theorem own_bytes {w : World} {g n cap : Nat} {l : List UInt8} (h : w.ownsRow 0 5 1 (.slice (some ⟨g, 0, none⟩) n cap) n (l.map u8V)) (hl : l.length = n) : Lib.Bytes w g 0 (bs l) := by
  intro i hi
  rw [bs_size] at hi
  rw [Nat.zero_add, h.cellAt i (by omega)]
  simp [hi]
  rfl

set_option maxRecDepth 100000 in
set_option maxHeartbeats 2000000 in
theorem rnum_any (n : Int) (h1 : -9223372036854775808 ≤ n) (h2 : n ≤ 9223372036854775807) (w : World) :
    Calls Tryz.prog 68 #[.int .i64 n] w (Rets (.string (bs (numL n))) (Chg (fun _ => False) w)) := by
  go_enter Tryz.func68, Tryz.ntmps68
  obtain ⟨sg, hsg⟩ : ∃ sg : Nat, sg = if n < 0 then 128 else 0 := ⟨_, rfl⟩
  have hnum : numL n = UInt8.ofNat (sg + (beL 8 (magN n)).length) :: beL 8 (magN n) := by rw [hsg]; rfl
  have hsg2 : sg = 0 ∨ sg = 128 := by rw [hsg]; split <;> simp
  have hml := magN_lt h1 h2
  obtain ⟨m, hm⟩ : ∃ m, m = magN n := ⟨_, rfl⟩
  rw [← hm] at hnum hml
  have HN := hid hnum
  have HSG := hid hsg
  have HSG2 := hid hsg2
  have HM := hid hm
  clear hnum hsg hsg2 hm
  go_upto_if 6 with fail
  go_cut [0, 3] from 5 (fun a s wx => a = .int .i64 (m : Int) ∧ s = .int .u8 (sg : Int) ∧ w = wx)
  case first =>
    by_cases h0 : n < 0
    · have hx : IntKind.i64.wrap (-1 - n) = (m : Int) := by rw [IntKind.wrap_i64, HM.out]; unfold magN; rw [if_pos h0]; omega
      go_wp2_with fail
      go_meet
      refine ⟨?_, ?_, rfl⟩
      · first | rw [show (m : Int) = -1 - n by rw [HM.out]; unfold magN; rw [if_pos h0]; omega] | rfl
      · rw [HSG.out, if_pos h0]; rfl
    · go_wp2_with fail
      go_meet
      refine ⟨?_, ?_, rfl⟩
      · rw [show (m : Int) = n by rw [HM.out]; unfold magN; rw [if_neg (by omega)]; omega]
      · rw [HSG.out, if_neg (by omega)]; rfl
  case rest =>
    obtain ⟨rfl, rfl, rfl⟩ := hcut
    go_wp2_with fail
    have hb0 := owns_new w [] 5 1 0 rfl (Nat.zero_le _)
    have HB0 := hid hb0
    have HC0 := hid ((Chg.refl (fun _ => False) w).alloc (.cells #[] 5))
    clear hb0
    go_loopw [0, 4] (fun x v wr => ∃ k g cap : Nat, x = .int .i64 ((m / 256 ^ k : Nat) : Int) ∧ v = .slice (some ⟨g, 0, none⟩) k cap ∧ Chg (fun _ => False) w wr ∧ w.heap.size ≤ g ∧ wr.ownsRow 0 5 1 (.slice (some ⟨g, 0, none⟩) k cap) k ((lowL k m).map u8V) ∧ ∀ j, j < k → m / 256 ^ j ≠ 0) (fun x _ _ => (intOf x).toNat)
    case atStart => exact ⟨0, w.heap.size, 0, by simp, rfl, HC0.out, Nat.le_refl _, HB0.out, fun j hj => by omega⟩
    case round =>
      obtain ⟨k, g, cap, rfl, rfl, hch, hgw, hown, hj⟩ := hrel
      have hk8 : k ≤ 8 := by
        rcases Nat.lt_or_ge 8 k with h | h
        · exact absurd (Nat.div_eq_of_lt hml) (hj 8 h)
        · exact h
      have HCH := hid hch
      have HOWN := hid hown
      have HJ := hid hj
      clear hch hown hj
      by_cases hz : m / 256 ^ k = 0
      · rw [hz]
        have hby := own_bytes HOWN.out (lowL_len k m)
        have hsz := bs_size (lowL k m)
        rw [lowL_len] at hsz
        have hcv : ∀ W, Chg (fun _ => False) wr W → (convert 125 9 (.slice (some ⟨g, 0, none⟩) k cap)).run Tryz.prog W = .ok (.string (bs (lowL k m))) W := fun W hW => by
          have h3 : Lib.Bytes W g 0 (bs (lowL k m)) := fun i hi => hW.cell (hby i hi) (fun h => h)
          have := Lib.run_convert_whole (P := Tryz.prog) W 125 5 9 Tryz.underlying125 Tryz.underlying5 Tryz.underlying9 g 0 (bs (lowL k m)) h3 cap
          rwa [hsz] at this
        obtain ⟨c, hc, hc256⟩ : ∃ c : Nat, c = sg + k ∧ c < 256 := ⟨_, rfl, by rcases HSG2.out with h | h <;> omega⟩
        have hck : (sg : Int) + (k : Int) = (c : Int) := by omega
        have hw8 : IntKind.u8.wrap (c : Int) = (c : Int) := by rw [IntKind.wrap_u8]; omega
        have hw9 : IntKind.u8.wrap (k : Int) = (k : Int) := by rw [IntKind.wrap_u8]; omega
        have hm1 : (k : Int) % 256 = (k : Int) := by omega
        have hm2 : (c : Int) % 256 = (c : Int) := by omega
        have hone : ∀ W, Lib.Bytes W wr.heap.size 0 ⟨#[UInt8.ofNat c]⟩ → (convert 125 9 (.slice (some ⟨wr.heap.size, 0, none⟩) 1 1)).run Tryz.prog W = .ok (.string ⟨#[UInt8.ofNat c]⟩) W := fun W hW =>
          Lib.run_convert_whole (P := Tryz.prog) W 125 5 9 Tryz.underlying125 Tryz.underlying5 Tryz.underlying9 wr.heap.size 0 ⟨#[UInt8.ofNat c]⟩ hW 1
        have hcb : (((UInt8.ofNat c).toNat : Nat) : Int) = (c : Int) := by rw [UInt8.toNat_ofNat', Nat.mod_eq_of_lt hc256]
        have hone1 := hone (wr.alloc (.cells #[.int .u8 (c : Int)] 5)) (fun i hi => by
          obtain rfl : i = 0 := by
            have : (⟨#[UInt8.ofNat c]⟩ : ByteArray).size = 1 := rfl
            omega
          have := cell_of (heap_alloc_new' wr (.cells #[.int .u8 (c : Int)] 5)) 0
          refine this.trans ?_
          show some (Value.int .u8 (c : Int)) = some (Value.int .u8 (((UInt8.ofNat c).toNat : Nat) : Int))
          rw [hcb])
        have hcv1 := hcv (wr.alloc (.cells #[.int .u8 (c : Int)] 5)) ((Chg.refl _ wr).alloc _)
        have HK : Hid (beL 8 m = lowL k m) := hid (beL_low k 8 m (by omega) hz HJ.out)
        obtain ⟨dg, hdg⟩ : ∃ dg, dg = bs (lowL k m) := ⟨_, rfl⟩
        rw [← hdg] at hcv1 hsz
        have hadd2 : ¬ 9223372036854775807 < 1 + dg.size := by omega
        have hadd : ¬ 9223372036854775807 < (⟨#[UInt8.ofNat c]⟩ : ByteArray).size + dg.size := hadd2
        have HC1 : Hid (bs (numL n) = (⟨#[UInt8.ofNat c]⟩ : ByteArray) ++ dg) := hid (by
          rw [HN.out, HK.out, lowL_len, ← hc, hdg]
          rw [show UInt8.ofNat c :: lowL k m = [UInt8.ofNat c] ++ lowL k m from rfl, bs_append]
          rfl)
        clear hdg hc hcb hz hby hcv hone
        go_wp2_with fail
        go_ret
        exact ⟨by rw [HC1.out]; rfl, HCH.out.alloc _⟩
      · have HNX := hid (low_next m k)
        have hlt : m / 256 ^ k < 9223372036854775808 := Nat.lt_of_le_of_lt (Nat.div_le_self m (256 ^ k)) (by have := magN_le h1 h2; rw [HM.out]; omega)
        obtain ⟨q, hq⟩ : ∃ q, q = m / 256 ^ k := ⟨_, rfl⟩
        have HLC : Hid (lowL (k + 1) m = UInt8.ofNat (q % 256) :: lowL k m) := hid (by rw [lowL_cons, hq])
        rw [← hq] at hz hlt ⊢
        have HQ := hid hq
        have HNZ := hid hz
        clear hq
        have hq0 : (0 : Int) < (q : Int) := by omega
        have hr1 : (q : Int).tmod 256 = (q : Int) % 256 := Int.tmod_eq_emod_of_nonneg (by omega)
        have hr2 : (q : Int).tdiv 256 = (q : Int) / 256 := Int.tdiv_eq_ediv_of_nonneg (by omega)
        have HBV : Hid ((q : Int) % 256 = (((UInt8.ofNat (q % 256)).toNat : Nat) : Int)) := hid (by
          show _ = _
          rw [UInt8.toNat_ofNat', Nat.mod_mod]
          norm_cast)
        have hnew := owns_new wr [.int .u8 ((q : Int) % 256)] 5 1 1 rfl (by unfold maxLen; omega)
        have HNEW := hid hnew
        have hsrc : ∀ j u, ((lowL k m).map u8V)[j]? = some u → (wr.alloc (.cells #[.int .u8 ((q : Int) % 256)] 5)).cell? ((⟨g, 0, none⟩ : Addr).add j) = some u := fun j u hju => by
          have h3 := HOWN.out.cells (g := g) rfl j u hju
          exact cell_alloc' h3 _
        have HSRC := hid hsrc
        have HOC : Hid (∀ u ∈ (lowL k m).map u8V, u.oneCell' = true) := hid (fun u hu => by
          obtain ⟨y, _, rfl⟩ := List.mem_map.1 hu
          rfl)
        clear hnew hsrc
        go_wp2_with (refine wpList_append_any rfl _ _ 125 rfl elU8v HNEW.out rfl ⟨g, 0, none⟩ k cap ((lowL k m).map u8V) rfl (by simp [lowL_len]) HSRC.out HOC.out (by unfold maxLen; omega) (by omega) (by omega) ?_; intro g2 cap2 w2 hown2 hch2 hg2)
        go_roundw
        case rel =>
          have hg3 : w.heap.size ≤ g2 := by
            have := HCH.out.size
            rcases hg2 with h | h
            · simp [Value.ownBlock] at h; omega
            · simp at h; omega
          refine ⟨k + 1, g2, cap2, ?_, by rw [Nat.add_comm], (HCH.out.alloc _).trans hch2 (fun i hi h => by have := HCH.out.size; simp [Value.ownBlock] at h; omega), hg3, ?_, fun j hj => ?_⟩
          · rw [HNX.out, ← HQ.out]; rfl
          · rw [HLC.out]
            have h3 := hown2
            rw [HBV.out, Nat.add_comm] at h3
            exact h3
          · by_cases e : j = k
            · rw [e, ← HQ.out]; exact HNZ.out
            · exact HJ.out j (by omega)
        case measure => simp [intOf]; omega
end Go.Proofs.YthglfmacjoecgaaGreatDoor
namespace Go.Proofs.YthglfmacjoecgaaGreatDoor
open Go.RowKit

set_option maxRecDepth 100000 in
theorem text_any (t : List UInt8) (ht : t.length ≤ 100000) (w : World) : Calls Tryz.prog 102 #[.string (bs t)] w (Rets (.string (bs (textN t))) (Chg (fun _ => False) w)) := by
  have hsz := bs_size t
  have hn := numL_len (t.length : Int)
  have hz := bs_size (numL (t.length : Int))
  have hnum := num_any (t.length : Int) (by omega) (by omega)
  have HE : Hid (bs (textN t) = bs (numL (t.length : Int)) ++ bs t) := hid (by unfold textN; rw [bs_append])
  rw [← hsz] at hnum HE hz ht hn
  generalize bs (numL ((bs t).size : Int)) = x at *
  generalize bs t = s at *
  have hadd : ¬ 9223372036854775807 < x.size + s.size := by omega
  clear hsz hn hz ht
  go_enter Tryz.func102, Tryz.ntmps102
  go_wp2_with (go_at_call 62; refine (hnum _).mono ?_; rintro e w2 ⟨rfl, hc2⟩)
  go_ret
  exact ⟨by rw [HE.out]; rfl, hc2⟩
set_option maxRecDepth 100000 in
theorem rtext_any (t : List UInt8) (ht : t.length ≤ 100000) (w : World) : Calls Tryz.prog 129 #[.string (bs t)] w (Rets (.string (bs (textN t))) (Chg (fun _ => False) w)) := by
  have hsz := bs_size t
  have hn := numL_len (t.length : Int)
  have hz := bs_size (numL (t.length : Int))
  have hnum := rnum_any (t.length : Int) (by omega) (by omega)
  have HE : Hid (bs (textN t) = bs (numL (t.length : Int)) ++ bs t) := hid (by unfold textN; rw [bs_append])
  rw [← hsz] at hnum HE hz ht hn
  generalize bs (numL ((bs t).size : Int)) = x at *
  generalize bs t = s at *
  have hadd : ¬ 9223372036854775807 < x.size + s.size := by omega
  clear hsz hn hz ht
  go_enter Tryz.func129, Tryz.ntmps129
  go_wp2_with (go_at_call 68; refine (hnum _).mono ?_; rintro e w2 ⟨rfl, hc2⟩)
  go_ret
  exact ⟨by rw [HE.out]; rfl, hc2⟩

theorem rowN_take (ts : List (List UInt8)) (k : Nat) (h : k < ts.length) : ((ts.take (k + 1)).flatMap textN) = (ts.take k).flatMap textN ++ textN ts[k] := by
  rw [List.take_succ_eq_append_getElem h, List.flatMap_append]; simp
theorem flat_take_len (ts : List (List UInt8)) (k : Nat) : ((ts.take k).flatMap textN).length ≤ (ts.flatMap textN).length := by
  conv => rhs; rw [← List.take_append_drop k ts, List.flatMap_append, List.length_append]
  omega
theorem textN_in (ts : List (List UInt8)) (k : Nat) (h : k < ts.length) : ((ts.take k).flatMap textN).length + (textN ts[k]).length ≤ (ts.flatMap textN).length := by
  have := flat_take_len ts (k + 1)
  rw [rowN_take ts k h, List.length_append] at this
  exact this
set_option maxRecDepth 100000 in
set_option maxHeartbeats 2000000 in
theorem rrow_any (ts : List (List UInt8)) (hr : (rowN ts).length ≤ 90000) (hl : ts.length ≤ 1000) (v : Value) (w : World) (hin : NamesAt w v ts) : Calls Tryz.prog 110 #[v] w (Rets (.string (bs (rowN ts))) (Chg (fun _ => False) w)) := by
  have hlen := hin.len
  have hnum := rnum_any (ts.length : Int) (by omega) (by omega)
  have hR : (rowN ts).length = (numL (ts.length : Int)).length + (ts.flatMap textN).length := by unfold rowN; rw [List.length_append]
  have HR := hid hR
  have HN := hid hin
  clear hin hR
  go_enter Tryz.func110, Tryz.ntmps110
  go_wp2_with (go_at_call 68; refine (hnum _).mono ?_; rintro e w2 ⟨rfl, hc2⟩)
  have HC2 := hid hc2
  clear hnum hc2
  go_loopw [3, 4] (fun s i wr => ∃ k : Nat, k ≤ ts.length ∧ i = .int .i64 k ∧ s = .string (bs (numL (ts.length : Int) ++ (ts.take k).flatMap textN)) ∧ Chg (fun _ => False) w wr) (fun _ i _ => ts.length - (intOf i).toNat)
  case atStart => exact ⟨0, Nat.zero_le _, rfl, by simp, HC2.out⟩
  case round =>
    obtain ⟨k, hk, rfl, rfl, hch⟩ := hrel
    have HCH := hid hch
    clear hch
    by_cases hkn : k < ts.length
    · have hkn' : (k : Int) < ts.length := by omega
      obtain ⟨ad, hix, hadc, hadb⟩ := (HN.out.chg HCH.out (fun _ _ h => h)).ix k hkn
      have hin := textN_in ts k hkn
      have htl : ts[k].length ≤ 100000 := by
        have : ts[k].length ≤ (textN ts[k]).length := by unfold textN; simp
        have := HR.out
        omega
      have htx := rtext_any ts[k] htl
      have HE : Hid (bs (numL (ts.length : Int) ++ (ts.take (k + 1)).flatMap textN) = bs (numL (ts.length : Int) ++ (ts.take k).flatMap textN) ++ bs (textN ts[k])) := hid (by rw [rowN_take ts k hkn, ← List.append_assoc, bs_append])
      have hz1 := bs_size (numL (ts.length : Int) ++ (ts.take k).flatMap textN)
      have hz2 := bs_size (textN ts[k])
      rw [List.length_append] at hz1
      have hadd : ¬ 9223372036854775807 < (bs (numL (ts.length : Int) ++ (ts.take k).flatMap textN)).size + (bs (textN ts[k])).size := by
        have := HR.out
        omega
      clear hz1 hz2 hin htl
      generalize bs (numL (ts.length : Int) ++ (ts.take k).flatMap textN) = x at *
      generalize bs (textN ts[k]) = y at *
      generalize bs ts[k] = z at *
      go_wp2_with (go_at_call 129; refine (htx _).mono ?_; rintro e w3 ⟨rfl, hc3⟩)
      go_roundw
      case rel => exact ⟨k + 1, by omega, by go_num, by rw [HE.out], HCH.out.trans hc3 (fun _ _ h => h)⟩
      case measure => simp [intOf]; omega
    · obtain rfl : k = ts.length := by omega
      have HE : Hid (bs (numL (ts.length : Int) ++ (ts.take ts.length).flatMap textN) = bs (rowN ts)) := hid (by rw [List.take_length]; rfl)
      generalize bs (numL (ts.length : Int) ++ (ts.take ts.length).flatMap textN) = x at *
      go_wp2_with fail
      go_ret
      exact ⟨by rw [← HE.out]; rfl, HCH.out⟩
end Go.Proofs.YthglfmacjoecgaaGreatDoor
namespace Go.Proofs.YthglfmacjoecgaaGreatDoor
open Go.RowKit

set_option maxRecDepth 100000 in
set_option maxHeartbeats 4000000 in
theorem row_any (ts : List (List UInt8)) (hr : (rowN ts).length ≤ 90000) (hl : ts.length ≤ 1000) (v : Value) (w : World) (hin : NamesAt w v ts) : Calls Tryz.prog 63 #[v] w (Rets (.string (bs (rowN ts))) (Chg (fun _ => False) w)) := by
  have hlen := hin.len
  have hnum := num_any (ts.length : Int) (by omega) (by omega)
  have hR : (rowN ts).length = (numL (ts.length : Int)).length + (ts.flatMap textN).length := by unfold rowN; rw [List.length_append]
  have HR := hid hR
  have HN := hid hin
  have hbd : BdAt (w.alloc (.cells #[.pointer none, .slice none 0 0] 170)) (w.alloc (.cells #[.pointer none, .slice none 0 0] 170)) w.heap.size [] :=
    ⟨.inl ⟨Nat.le_refl _, .slice none 0 0, heap_alloc_new' _ _, World.ownsRow_nil _ _ _ _, by simp [Value.ownBlock]⟩, Chg.refl _ _, by simp⟩
  have hfar : ∀ W, Chg (fun k => w.heap.size ≤ k) (w.alloc (.cells #[.pointer none, .slice none 0 0] 170)) W → Chg (fun _ => False) w W := fun W hW => ((Chg.refl _ w).alloc _).trans hW (fun i hi h => by omega)
  have HF := hid hfar
  have HB := hid hbd
  clear hin hR hfar hbd
  go_enter Tryz.func63, Tryz.ntmps63
  go_wp2_with fail
  generalize w.alloc (.cells #[.pointer none, .slice none 0 0] 170) = W3 at *
  obtain ⟨b, hb⟩ : ∃ b, b = w.heap.size := ⟨_, rfl⟩
  rw [← hb] at HF HB ⊢
  clear hb
  refine (hnum _).mono ?_
  rintro e w2 ⟨rfl, hc2⟩
  have hB2 := (HB.out.keep (hc2.mono (fun _ _ h => h.elim))).write (numL (ts.length : Int)) (by have := HR.out; simp; omega)
  clear hnum hc2
  go_wp2_with (go_at_call 101; refine hB2.mono ?_; rintro e w4 ⟨rfl, hB4⟩)
  clear hB2
  go_loopw [12] (fun i wr => ∃ k : Nat, k ≤ ts.length ∧ i = .int .i64 k ∧ BdAt W3 wr b (numL (ts.length : Int) ++ (ts.take k).flatMap textN)) (fun i _ => ts.length - (intOf i).toNat)
  case atStart => exact ⟨0, Nat.zero_le _, rfl, by simpa using hB4⟩
  case round =>
    obtain ⟨k, hk, rfl, hBd⟩ := hrel
    have HBd := hid hBd
    clear hBd hB4
    by_cases hkn : k < ts.length
    · have hkn' : (k : Int) < ts.length := by omega
      obtain ⟨ad, hix, hadc, hadb⟩ := (HN.out.chg (HF.out wr HBd.out.ch) (fun _ _ h => h)).ix k hkn
      have hin := textN_in ts k hkn
      have htl : ts[k].length ≤ 100000 := by
        have : ts[k].length ≤ (textN ts[k]).length := by unfold textN; simp
        have := HR.out
        omega
      have htx := text_any ts[k] htl
      have hwr : ∀ W, Chg (fun _ => False) wr W → Calls Tryz.prog 101 #[.pointer (some ⟨b, 0, none⟩), .string (bs (textN ts[k]))] W (Rets (.tuple #[.int .i64 (bs (textN ts[k])).size, .nilIface]) (fun w' => BdAt W3 w' b (numL (ts.length : Int) ++ (ts.take (k + 1)).flatMap textN))) := by
        intro W hW
        have h1 := HBd.out.keep (hW.mono (fun _ _ h => h.elim))
        have h2 := h1.write (textN ts[k]) (by have := HR.out; rw [List.length_append]; omega)
        rw [List.append_assoc, ← rowN_take ts k hkn] at h2
        exact h2
      have HWR := hid hwr
      clear hin htl hwr
      generalize bs (textN ts[k]) = y at *
      generalize bs ts[k] = z at *
      go_wp2_with (first | (go_at_call 102; refine (htx _).mono ?_; rintro e w5 ⟨rfl, hc5⟩) | (go_at_call 101; refine (HWR.out _ hc5).mono ?_; rintro e w6 ⟨rfl, hB6⟩))
      go_roundw
      case rel => exact ⟨k + 1, by omega, by go_num, hB6⟩
      case measure => simp [intOf]; omega
    · obtain rfl : k = ts.length := by omega
      have hBd := HBd.out
      rw [List.take_length] at hBd
      have hst := Tryz.Builder_String_any b b _ wr hBd.bd (Nat.le_of_lt hBd.lt)
      have HBd3 := hid hBd
      clear hBd HBd
      go_wp2_with (go_at_call 103; refine hst.mono ?_; rintro e w9 ⟨rfl, hb9⟩)
      go_ret
      exact ⟨rfl, HF.out w9 (HBd3.out.ch.trans (Chg.of_below hb9) (fun _ _ h => h))⟩
end Go.Proofs.YthglfmacjoecgaaGreatDoor
namespace Go.Proofs.YthglfmacjoecgaaGreatDoor
open Go.RowKit

/-- strings.IndexByte, behind a name. -/
def ibI (s : ByteArray) (c : UInt8) : Int := Lib.indexByte s.data.toList c
theorem ib_any (s : ByteArray) (c : UInt8) (w : World) : Calls Tryz.prog 94 #[.string s, .int .u8 c.toNat] w (Rets (.int .i64 (ibI s c)) (fun w' => w = w')) :=
  (Tryz.strings_IndexByte s c.toNat w).mono fun e w' ⟨he, hw⟩ => ⟨by rw [he]; simp [ibI], hw.symm⟩

def plainB (c : UInt8) : Bool := decide (0 ≤ ibI { data := #[99, 100, 115, 120, 114, 104, 108, 61] } c)
def numB (c : UInt8) : Bool := decide (0 ≤ ibI { data := #[105, 116, 107, 106, 103] } c)
def dblB (c : UInt8) : Bool := decide (0 ≤ ibI { data := #[99, 115, 61] } c)
def noneB (c : UInt8) : Bool := decide (0 ≤ ibI { data := #[105, 112, 103] } c)

/-- How many bytes the step at a place has. -/
def wid0 (code : ByteArray) (i : Nat) (h : i < code.size) : Nat :=
  if plainB code[i] then 1 else if numB code[i] then 2 else if h2 : code[i] = 112 ∧ i + 1 < code.size then 2 + code[i + 1].toNat else 0
def widN (code : ByteArray) (i : Nat) : Nat := if h : i < code.size then (if code.size - i < wid0 code i h then 0 else wid0 code i h) else 0

set_option maxHeartbeats 1000000 in
theorem width_any (code : ByteArray) (i : Nat) (w : World) (h : i < code.size) (hs : code.size ≤ maxLen) :
    Calls Tryz.prog 60 #[.string code, .int .i64 i] w (Rets (.int .i64 (widN code i)) (fun w' => w = w')) := by
  unfold maxLen at hs
  have h' : (i : Int) < code.size := by omega
  have hw0 : widN code i = if code.size - i < wid0 code i h then 0 else wid0 code i h := by unfold widN; rw [dif_pos h]
  have fin : ∀ n : Nat, wid0 code i h = n → ∀ m : Int, m = (if code.size - i < n then 0 else n : Nat) → Rets (.int .i64 (widN code i)) (fun w' => w = w') (.returned (.int .i64 m)) w := by
    intro n hn m hm
    refine ⟨?_, rfl⟩
    rw [hm, hw0, hn]
  have F := hid fin
  clear hw0 fin
  by_cases h1 : 0 ≤ ibI { data := #[99, 100, 115, 120, 114, 104, 108, 61] } code[i]
  · have e1 : wid0 code i h = 1 := by unfold wid0 plainB; simp [h1]
    have F1 := hid (F.out 1 e1)
    clear F e1
    go_enter Tryz.func60, Tryz.ntmps60
    go_wp2_with (go_at_call 94; refine (ib_any _ _ _).mono ?_; rintro e w' ⟨rfl, rfl⟩)
    all_goals go_ret
    all_goals exact F1.out _ (by rw [if_neg (by omega)]; rfl)
  · have h1' : ibI { data := #[99, 100, 115, 120, 114, 104, 108, 61] } code[i] < 0 := by omega
    by_cases h2 : 0 ≤ ibI { data := #[105, 116, 107, 106, 103] } code[i]
    · have e1 : wid0 code i h = 2 := by unfold wid0 plainB numB; simp [h1, h2]
      have F1 := hid (F.out 2 e1)
      clear F e1 h1
      go_enter Tryz.func60, Tryz.ntmps60
      go_wp2_with (go_at_call 94; refine (ib_any _ _ _).mono ?_; rintro e w' ⟨rfl, rfl⟩)
      all_goals go_ret
      all_goals exact F1.out _ (by first | (rw [if_neg (by omega)]; rfl) | (rw [if_pos (by omega)]; rfl))
    · have h2' : ibI { data := #[105, 116, 107, 106, 103] } code[i] < 0 := by omega
      by_cases h3 : code[i] = 112
      · have h3' : ((code[i].toNat : Int) == 112) = true := by rw [h3]; rfl
        by_cases h4 : i + 1 < code.size
        · have h4' : (i : Int) + 1 < code.size := by omega
          have e1 : wid0 code i h = 2 + code[i + 1].toNat := by unfold wid0; rw [show plainB code[i] = false from by simp [plainB]; omega, show numB code[i] = false from by simp [numB]; omega]; simp [h3, h4]
          have F1 := hid (F.out _ e1)
          have hb : code[i + 1].toNat < 256 := code[i + 1].toNat_lt
          clear F e1 h1 h2 h3
          go_enter Tryz.func60, Tryz.ntmps60
          go_wp2_with (go_at_call 94; refine (ib_any _ _ _).mono ?_; rintro e w' ⟨rfl, rfl⟩)
          all_goals go_ret
          all_goals exact F1.out _ (by first | (rw [if_neg (by omega)]; simp) | (rw [if_pos (by omega)]; rfl))
        · have h4' : (code.size : Int) ≤ (i : Int) + 1 := by omega
          have e1 : wid0 code i h = 0 := by unfold wid0; rw [show plainB code[i] = false from by simp [plainB]; omega, show numB code[i] = false from by simp [numB]; omega]; simp [h3, h4]
          have F1 := hid (F.out _ e1)
          clear F e1 h1 h2 h3
          go_enter Tryz.func60, Tryz.ntmps60
          go_wp2_with (go_at_call 94; refine (ib_any _ _ _).mono ?_; rintro e w' ⟨rfl, rfl⟩)
          all_goals go_ret
          all_goals exact F1.out _ (by rw [if_neg (by omega)]; rfl)
      · have h3' : ((code[i].toNat : Int) == 112) = false := by
          simp
          intro e
          exact h3 (UInt8.toNat_inj.1 (by have : (112 : UInt8).toNat = 112 := rfl; omega))
        have e1 : wid0 code i h = 0 := by unfold wid0 plainB numB; simp [h1, h2, h3]
        have F1 := hid (F.out _ e1)
        clear F e1 h1 h2 h3
        go_enter Tryz.func60, Tryz.ntmps60
        go_wp2_with (go_at_call 94; refine (ib_any _ _ _).mono ?_; rintro e w' ⟨rfl, rfl⟩)
        all_goals go_ret
        all_goals exact F1.out _ (by rw [if_neg (by omega)]; rfl)

def takeN (c : UInt8) : Nat := if dblB c then 2 else if noneB c then 0 else 1
set_option maxHeartbeats 400000 in
theorem takes_any (c : UInt8) (w : World) : Calls Tryz.prog 96 #[.int .u8 c.toNat] w (Rets (.int .i64 (takeN c)) (fun w' => w = w')) := by
  by_cases h1 : 0 ≤ ibI { data := #[99, 115, 61] } c
  · have e1 : takeN c = 2 := by unfold takeN dblB; simp [h1]
    rw [e1]; clear e1
    go_enter Tryz.func96, Tryz.ntmps96
    go_wp2_with (go_at_call 94; refine (ib_any _ _ _).mono ?_; rintro e w' ⟨rfl, rfl⟩)
    all_goals go_ret
    all_goals exact ⟨rfl, rfl⟩
  · have h1' : ibI { data := #[99, 115, 61] } c < 0 := by omega
    by_cases h2 : 0 ≤ ibI { data := #[105, 112, 103] } c
    · have e1 : takeN c = 0 := by unfold takeN dblB noneB; simp [h1, h2]
      rw [e1]; clear e1 h1
      go_enter Tryz.func96, Tryz.ntmps96
      go_wp2_with (go_at_call 94; refine (ib_any _ _ _).mono ?_; rintro e w' ⟨rfl, rfl⟩)
      all_goals go_ret
      all_goals exact ⟨rfl, rfl⟩
    · have h2' : ibI { data := #[105, 112, 103] } c < 0 := by omega
      have e1 : takeN c = 1 := by unfold takeN dblB noneB; simp [h1, h2]
      rw [e1]; clear e1 h1 h2
      go_enter Tryz.func96, Tryz.ntmps96
      go_wp2_with (go_at_call 94; refine (ib_any _ _ _).mono ?_; rintro e w' ⟨rfl, rfl⟩)
      all_goals go_ret
      all_goals exact ⟨rfl, rfl⟩

def numN (s : ByteArray) : Nat := if h : 1 < s.size then s[1].toNat else 0
set_option maxHeartbeats 400000 in
theorem number_any (s : ByteArray) (w : World) (hs : s.size ≤ maxLen) : Calls Tryz.prog 95 #[.string s] w (Rets (.int .i64 (numN s)) (fun w' => w = w')) := by
  unfold maxLen at hs
  by_cases h : 1 < s.size
  · have e1 : numN s = s[1].toNat := by unfold numN; rw [dif_pos h]
    have hb : s[1].toNat < 256 := s[1].toNat_lt
    have h' : 2 ≤ (s.size : Int) := by omega
    rw [e1]; clear e1
    go_enter Tryz.func95, Tryz.ntmps95
    go_wp2
    all_goals go_ret
    all_goals exact ⟨by simp, rfl⟩
  · have e1 : numN s = 0 := by unfold numN; rw [dif_neg h]
    have h' : (s.size : Int) < 2 := by omega
    rw [e1]; clear e1
    go_enter Tryz.func95, Tryz.ntmps95
    go_wp2
    all_goals go_ret
    all_goals exact ⟨rfl, rfl⟩

theorem ba_eqM (a b : ByteArray) : (a == b) = decide (a = b) := by
  rcases a with ⟨a⟩; rcases b with ⟨b⟩
  show (a == b) = _
  by_cases h : a = b <;> simp [h]
def sameS (a b : ByteArray) : ByteArray := if a = b then { data := #[49] } else ByteArray.empty
set_option maxHeartbeats 400000 in
theorem same_any (a b : ByteArray) (w : World) : Calls Tryz.prog 100 #[.string a, .string b] w (Rets (.string (sameS a b)) (fun w' => w = w')) := by
  by_cases h : a = b
  · subst h
    have e1 : sameS a a = { data := #[49] } := by unfold sameS; rw [if_pos rfl]
    rw [e1]; clear e1
    go_enter Tryz.func100, Tryz.ntmps100
    go_wp2
    all_goals go_ret
    all_goals exact ⟨rfl, rfl⟩
  · have e1 : sameS a b = ByteArray.empty := by unfold sameS; rw [if_neg h]
    rw [e1]; clear e1
    have hne : (a.toList == b.toList) = false := by rw [← beq_toListBytes, ba_eqM]; simp [h]
    go_enter Tryz.func100, Tryz.ntmps100
    go_wp2
    all_goals go_ret
    all_goals exact ⟨rfl, rfl⟩
end Go.Proofs.YthglfmacjoecgaaGreatDoor
