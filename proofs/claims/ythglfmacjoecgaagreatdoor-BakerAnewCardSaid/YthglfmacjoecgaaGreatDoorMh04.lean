/- Texts of the proof, one behind the other: sap.Num walked: a number's bytes; recipe.IsName, areNames walked; recipe.isAction, isGraph walked. -/
import Derived.Test.YthglfmacjoecgaaGreatDoorMh01
import Derived.Test.YthglfmacjoecgaaGreatDoorMh03
import Derived.Lib.SlBytesRow
import Derived.Deep.RegionHeld3
import Derived.Deep.DeepCutAuto
import Derived.Laws.BitsAllLaws
import Derived.Test.YthglfmacjoecgaaGreatDoorShelf
import Derived.Shelf.Strings.SlTrimAscii
import Derived.BigQuiet
namespace Go.Proofs.YthglfmacjoecgaaGreatDoor
open Go.RowKit

theorem or128 : ∀ k : Fin 9, bits .or .i64 128 ((k.1 : Nat) : Int) = ((128 + k.1 : Nat) : Int) := by decide +kernel
theorem or0 : ∀ k : Fin 9, bits .or .i64 0 ((k.1 : Nat) : Int) = ((k.1 : Nat) : Int) := by decide +kernel
theorem not_neg (n : Int) (h1 : -9223372036854775808 ≤ n) (h0 : n < 0) : bits .xor .i64 (-1) n = -1 - n := by
  show IntKind.i64.wrap ((BitVec.ofInt 64 (-1) ^^^ BitVec.ofInt 64 n).toNat : Int) = _
  have h2 : BitVec.ofInt 64 (-1) = BitVec.allOnes 64 := by decide
  rw [h2, BitVec.allOnes_xor, BitVec.toNat_not, BitVec.toNat_ofInt]
  simp [IntKind.wrap, IntKind.bits, IntKind.signed]
  omega
theorem low_next (m k : Nat) : m / 256 ^ (k + 1) = m / 256 ^ k / 256 := by rw [Nat.div_div_eq_div_mul, Nat.pow_succ]
/-- The digits that have been written, from place t on. -/
structure DigAt (w : World) (b t k m : Nat) : Prop where
  ex : ∃ f : Nat → UInt8, w.heap[b]? = some (.cells (rowB 8 f) 167 (0, 0)) ∧ ∀ i (h : i < (lowL k m).length), f (t + i) = (lowL k m)[i]
theorem DigAt.bytes {w : World} {b t k m : Nat} (h : DigAt w b t k m) (hk : t + k = 8) : Lib.Bytes w b t (bs (lowL k m)) := by
  obtain ⟨f, h1, h2⟩ := h.ex
  intro i hi
  rw [bs_size, lowL_len] at hi
  rw [rowB_cell h1 _ (by omega)]
  have := h2 i (by rw [lowL_len]; exact hi)
  rw [this]
  rfl
theorem DigAt.put {w : World} {b t k m : Nat} (h : DigAt w b (t + 1) k m) : DigAt (w.setCell ⟨b, t, none⟩ (.int .u8 (((UInt8.ofNat (m / 256 ^ k % 256)).toNat : Nat) : Int))) b t (k + 1) m := by
  obtain ⟨f, h1, h2⟩ := h.ex
  refine ⟨fun i => if i = t then UInt8.ofNat (m / 256 ^ k % 256) else f i, ?_, fun i hi => ?_⟩
  · have := heap_set_same h1 t (.int .u8 (((UInt8.ofNat (m / 256 ^ k % 256)).toNat : Nat) : Int))
    rw [rowB_set] at this
    exact this
  · rcases Nat.eq_zero_or_pos i with h0 | h0
    · subst h0
      simp [lowL_cons]
    · obtain ⟨j, rfl⟩ : ∃ j, i = j + 1 := ⟨i - 1, by omega⟩
      have hj : j < (lowL k m).length := by rw [lowL_len] at hi ⊢; omega
      have := h2 j hj
      simp only [show ¬ t + (j + 1) = t by omega, if_false]
      rw [show t + (j + 1) = t + 1 + j by omega, this]
      simp [lowL_cons]
theorem magN_le {n : Int} (h1 : -9223372036854775808 ≤ n) (h2 : n ≤ 9223372036854775807) : magN n ≤ 9223372036854775807 := by
  unfold magN
  split <;> omega

set_option maxRecDepth 100000 in
set_option maxHeartbeats 2000000 in
theorem num_any (n : Int) (h1 : -9223372036854775808 ≤ n) (h2 : n ≤ 9223372036854775807) (w : World) :
    Calls Tryz.prog 62 #[.int .i64 n] w (Rets (.string (bs (numL n))) (Chg (fun _ => False) w)) := by
  go_enter Tryz.func62, Tryz.ntmps62
  obtain ⟨sg, hsg⟩ : ∃ sg : Nat, sg = if n < 0 then 128 else 0 := ⟨_, rfl⟩
  have hnum : numL n = UInt8.ofNat (sg + (beL 8 (magN n)).length) :: beL 8 (magN n) := by rw [hsg]; rfl
  have hsg2 : sg = 0 ∨ sg = 128 := by rw [hsg]; split <;> simp
  have hml := magN_lt h1 h2
  obtain ⟨m, hm⟩ : ∃ m, m = magN n := ⟨_, rfl⟩
  rw [← hm] at hnum hml
  have HN := hid hnum
  have HSG := hid hsg
  have HSG2 := hid hsg2
  have HM := hid hm
  clear hnum hsg hsg2 hm
  go_upto_if 7 with fail
  go_cut [0, 3] from 6 (fun a s wx => a = .int .i64 (m : Int) ∧ s = .int .i64 (sg : Int) ∧ w = wx)
  case first =>
    by_cases h0 : n < 0
    · have hx := not_neg n h1 h0
      go_wp2_with fail
      go_meet
      refine ⟨?_, ?_, rfl⟩
      · rw [show (m : Int) = -1 - n by rw [HM.out]; unfold magN; rw [if_pos h0]; omega]
      · rw [HSG.out, if_pos h0]; rfl
    · go_wp2_with fail
      go_meet
      refine ⟨?_, ?_, rfl⟩
      · rw [show (m : Int) = n by rw [HM.out]; unfold magN; rw [if_neg (by omega)]; omega]
      · rw [HSG.out, if_neg (by omega)]; rfl
  case rest =>
    obtain ⟨rfl, rfl, rfl⟩ := hcut
    go_wp2_with fail
    have hb0 : (w.alloc (.cells #[.int .u8 0, .int .u8 0, .int .u8 0, .int .u8 0, .int .u8 0, .int .u8 0, .int .u8 0, .int .u8 0] 167)).heap[w.heap.size]? = some (.cells (rowB 8 (fun _ => 0)) 167 (0, 0)) := heap_alloc_new' w _
    have HB0 := hid hb0
    have HC0 := hid ((Chg.refl (fun _ => False) w).alloc (.cells #[.int .u8 0, .int .u8 0, .int .u8 0, .int .u8 0, .int .u8 0, .int .u8 0, .int .u8 0, .int .u8 0] 167))
    clear hb0
    generalize w.alloc (.cells #[.int .u8 0, .int .u8 0, .int .u8 0, .int .u8 0, .int .u8 0, .int .u8 0, .int .u8 0, .int .u8 0] 167) = W1 at *
    obtain ⟨b, hb⟩ : ∃ b, b = w.heap.size := ⟨_, rfl⟩
    rw [← hb] at HB0 ⊢
    have HB := hid hb
    clear hb
    go_loopw [0, 5] (fun x a wr => ∃ k t : Nat, t + k = 8 ∧ x = .int .i64 ((m / 256 ^ k : Nat) : Int) ∧ a = .int .i64 (t : Int) ∧ Chg (fun _ => False) w wr ∧ DigAt wr b t k m ∧ ∀ j, j < k → m / 256 ^ j ≠ 0) (fun _ a _ => (intOf a).toNat)
    case atStart => exact ⟨0, 8, rfl, by simp, rfl, HC0.out, ⟨⟨_, HB0.out, fun i hi => by simp [lowL] at hi⟩⟩, fun j hj => by omega⟩
    case round =>
      obtain ⟨k, t, htk, rfl, rfl, hch, hd, hj⟩ := hrel
      have HCH := hid hch
      have HD := hid hd
      have HJ := hid hj
      have HTK := hid htk
      clear hch hj
      by_cases hz : m / 256 ^ k = 0
      · rw [hz]
        have hsz := bs_size (lowL k m)
        rw [lowL_len] at hsz
        have hby := hd.bytes htk
        have hcv : ∀ W, Chg (fun _ => False) wr W → (convert 125 9 (.slice (some ⟨b, t, none⟩) k k)).run Tryz.prog W = .ok (.string (bs (lowL k m))) W := fun W hW => by
          have h3 : Lib.Bytes W b t (bs (lowL k m)) := fun i hi => hW.cell (hby i hi) (fun h => h)
          have := Lib.run_convert_whole (P := Tryz.prog) W 125 5 9 Tryz.underlying125 Tryz.underlying5 Tryz.underlying9 b t (bs (lowL k m)) h3 k
          rwa [hsz] at this
        have hcc : ∃ c : Nat, c = sg + k ∧ c < 256 := ⟨_, rfl, by rcases HSG2.out with h | h <;> omega⟩
        obtain ⟨c, hc, hc256⟩ := hcc
        have hor : bits .or .i64 (sg : Int) (k : Int) = (c : Int) := by
          rcases HSG2.out with h | h
          · have := or0 ⟨k, by omega⟩
            rw [h] at hc ⊢
            rw [hc, Nat.zero_add]
            exact this
          · have := or128 ⟨k, by omega⟩
            rw [h] at hc ⊢
            rw [hc]
            exact this
        have hw8 : IntKind.u8.wrap (c : Int) = (c : Int) := by rw [IntKind.wrap_u8]; omega
        have h8 : (8 : Int) - (t : Int) = (k : Int) := by omega
        have hw9 : IntKind.i64.wrap (k : Int) = (k : Int) := by rw [IntKind.wrap_i64]; omega
        have h8n : 8 - t = k := by omega
        have ht0 : (0 : Int) ≤ (t : Int) := by omega
        have ht8 : (t : Int) ≤ 8 := by omega
        have hone : ∀ W, Lib.Bytes W wr.heap.size 0 ⟨#[UInt8.ofNat c]⟩ → (convert 125 9 (.slice (some ⟨wr.heap.size, 0, none⟩) 1 1)).run Tryz.prog W = .ok (.string ⟨#[UInt8.ofNat c]⟩) W := fun W hW =>
          Lib.run_convert_whole (P := Tryz.prog) W 125 5 9 Tryz.underlying125 Tryz.underlying5 Tryz.underlying9 wr.heap.size 0 ⟨#[UInt8.ofNat c]⟩ hW 1
        have hcb : (((UInt8.ofNat c).toNat : Nat) : Int) = (c : Int) := by rw [UInt8.toNat_ofNat', Nat.mod_eq_of_lt hc256]
        have hone1 := hone (wr.alloc (.cells #[.int .u8 (c : Int)] 5)).drew (fun i hi => by
          obtain rfl : i = 0 := by
            have : (⟨#[UInt8.ofNat c]⟩ : ByteArray).size = 1 := rfl
            omega
          have := cell_of (heap_alloc_new' wr (.cells #[.int .u8 (c : Int)] 5)) 0
          refine this.trans ?_
          show some (Value.int .u8 (c : Int)) = some (Value.int .u8 (((UInt8.ofNat c).toNat : Nat) : Int))
          rw [hcb])
        have hcv0 := hcv wr.drew ((Chg.refl _ wr).drew)
        have hcv1 := hcv (wr.alloc (.cells #[.int .u8 (c : Int)] 5)).drew (((Chg.refl _ wr).alloc _).drew)
        have HC := hid hc
        have HK : Hid (beL 8 m = lowL k m) := hid (beL_low k 8 m (by omega) hz HJ.out)
        obtain ⟨dg, hdg⟩ : ∃ dg, dg = bs (lowL k m) := ⟨_, rfl⟩
        rw [← hdg] at hcv0 hcv1 hsz
        have HDG := hid hdg
        have hadd : ¬ 9223372036854775807 < (⟨#[UInt8.ofNat c]⟩ : ByteArray).size + dg.size := by
          show ¬ 9223372036854775807 < 1 + dg.size
          omega
        have hadd2 : ¬ 9223372036854775807 < 1 + dg.size := hadd
        have HC1 : Hid (bs (numL n) = (⟨#[UInt8.ofNat c]⟩ : ByteArray) ++ dg) := hid (by
          rw [HN.out, HK.out, lowL_len, ← hc, hdg]
          rw [show UInt8.ofNat c :: lowL k m = [UInt8.ofNat c] ++ lowL k m from rfl, bs_append]
          rfl)
        clear hdg hc hd hcb hz
        rcases (by omega : k = 0 ∧ t = 8 ∨ k ≠ 0 ∧ ¬ 8 = t) with ⟨rfl, rfl⟩ | ⟨hk0, ht8n⟩
        · have hd0 : dg.size = 0 := hsz
          have hde : dg = ⟨#[]⟩ := HDG.out
          have hor0 : bits .or .i64 (sg : Int) 0 = (c : Int) := by simpa using hor
          have hw0 : IntKind.i64.wrap 0 = 0 := by rw [IntKind.wrap_i64]; omega
          have hcx : ∀ W, (convert 125 9 (.slice (some ⟨b, 0, none⟩) 0 0)).run Tryz.prog W = .ok (.string dg) W := fun W => by
            have := Lib.run_convert_whole (P := Tryz.prog) W 125 5 9 Tryz.underlying125 Tryz.underlying5 Tryz.underlying9 b 0 dg (fun i hi => by omega) 0
            rwa [hd0] at this
          clear hcv0 hcv1 hor hde
          go_wp2_with fail
          go_region
          all_goals go_wp2_with fail
          all_goals go_ret
          all_goals exact ⟨by rw [HC1.out]; rfl, (HCH.out.alloc _).drew⟩
        · go_wp2_with fail
          go_region
          all_goals go_wp2_with fail
          all_goals go_ret
          all_goals exact ⟨by rw [HC1.out]; rfl, (HCH.out.alloc _).drew⟩
      · have ht : t ≠ 0 := fun h => by
          obtain rfl : k = 8 := by omega
          exact absurd (Nat.div_eq_of_lt hml) hz
        obtain ⟨t', rfl⟩ : ∃ t', t = t' + 1 := ⟨t - 1, by omega⟩
        have HNX := hid (low_next m k)
        have hlt : m / 256 ^ k < 9223372036854775808 := Nat.lt_of_le_of_lt (Nat.div_le_self m (256 ^ k)) (by have := magN_le h1 h2; rw [HM.out]; omega)
        have HPUT := hid hd.put
        obtain ⟨f, hf1, hf2⟩ := HD.out.ex
        have c1 := (cell_of hf1 t').trans (rowB_get 8 f t' (by omega))
        have f1 := frozen_of hf1 t'
        have HF1 := hid hf1
        obtain ⟨q, hq⟩ : ∃ q, q = m / 256 ^ k := ⟨_, rfl⟩
        have hby : IntKind.u8.wrap (q : Int) = (((UInt8.ofNat (m / 256 ^ k % 256)).toNat : Nat) : Int) := by
          rw [← hq, UInt8.toNat_ofNat', Nat.mod_mod, IntKind.wrap_u8]
          omega
        rw [← hq] at hz hlt ⊢
        have HQ := hid hq
        have HBY := hid hby
        have HNZ := hid hz
        clear hq hf1 hf2 hby
        have hq0 : (0 : Int) < (q : Int) := by omega
        have hw1 : IntKind.i64.wrap (((t' + 1 : Nat) : Int) - 1) = (t' : Int) := by rw [IntKind.wrap_i64]; omega
        have ht8 : (t' : Int) < 8 := by omega
        go_wp2_with fail
        go_roundw
        case rel =>
          refine ⟨k + 1, t', by omega, ?_, rfl, HCH.out.setCell (p := ⟨b, t', none⟩) (fun h => absurd h (by have := HB.out; simp; omega)) _, ?_, fun j hj => ?_⟩
          · rw [HNX.out, ← HQ.out]
            rfl
          · have h3 := HPUT.out
            rw [← HBY.out, IntKind.wrap_u8] at h3
            exact h3
          · by_cases e : j = k
            · rw [e, ← HQ.out]; exact HNZ.out
            · exact HJ.out j (by omega)
        case measure => simp [intOf]
end Go.Proofs.YthglfmacjoecgaaGreatDoor
namespace Go.Proofs.YthglfmacjoecgaaGreatDoor
open Go.RowKit

theorem ba_isEmpty (s : ByteArray) : s.toList.isEmpty = decide (s.size = 0) := by
  rw [Lib.toList_data]
  have := Lib.size_eq s
  cases h : s.data.toList with
  | nil => rw [h] at this; simp [this]
  | cons a b =>
    rw [h] at this
    have h2 : s.size ≠ 0 := by rw [this]; simp
    simp [h2]

def lettersL : List UInt8 := [97, 98, 99, 100, 101, 102, 103, 104, 105, 106, 107, 108, 109, 110, 111, 112, 113, 114, 115, 116, 117, 118, 119, 120, 121, 122, 48, 49, 50, 51, 52, 53, 54, 55, 56, 57]
theorem letters_let (b : UInt8) : lettersL.contains b = letB b := by
  have key : ∀ n : Fin 256, lettersL.contains (UInt8.ofNat n.1) = letB (UInt8.ofNat n.1) := by decide +kernel
  have := key ⟨b.toNat, b.toNat_lt⟩
  simpa using this
theorem mem_dropWhile {p : UInt8 → Bool} {x : UInt8} : ∀ {l : List UInt8}, x ∈ l → p x = false → x ∈ l.dropWhile p
  | y :: r, h, hp => by
    unfold List.dropWhile
    cases hy : p y with
    | true =>
      simp only
      rcases List.mem_cons.1 h with rfl | h
      · rw [hy] at hp; cases hp
      · exact mem_dropWhile h hp
    | false => simpa using h
theorem dropWhile_all {p : UInt8 → Bool} : ∀ {l : List UInt8}, l.all p = true → l.dropWhile p = []
  | [], _ => rfl
  | y :: r, h => by
    simp only [List.all_cons, Bool.and_eq_true] at h
    unfold List.dropWhile
    rw [h.1]
    exact dropWhile_all h.2
theorem trim_nil (l : List UInt8) : (Lib.trimS l lettersL = []) ↔ l.all letB = true := by
  unfold Lib.trimS Lib.trimLeftS Lib.trimRightS
  have hp : (fun b => lettersL.contains b) = letB := funext letters_let
  rw [hp]
  constructor
  · intro h
    rw [List.all_eq_true]
    intro x hx
    cases hl : letB x with
    | true => rfl
    | false =>
      have h1 : x ∈ l.reverse.dropWhile letB := mem_dropWhile (List.mem_reverse.2 hx) hl
      have h2 : x ∈ (l.reverse.dropWhile letB).reverse.dropWhile letB := mem_dropWhile (List.mem_reverse.2 h1) hl
      rw [h] at h2
      exact absurd h2 (by simp)
  · intro h
    have h1 : l.reverse.all letB = true := by rw [List.all_reverse]; exact h
    rw [dropWhile_all h1]
    rfl

set_option maxRecDepth 100000 in
theorem trim_any (s : ByteArray) (hs : s.size ≤ maxLen) (w : World) :
    Calls Tryz.prog 185 #[.string s, .string { data := #[97, 98, 99, 100, 101, 102, 103, 104, 105, 106, 107, 108, 109, 110, 111, 112, 113, 114, 115, 116, 117, 118, 119, 120, 121, 122, 48, 49, 50, 51, 52, 53, 54, 55, 56, 57] }] w
      (fun e w' => ∃ r : ByteArray, e = .returned (.string r) ∧ r.toList.isEmpty = s.data.toList.all letB ∧ Chg (fun _ => False) w w') := by
  unfold maxLen at hs
  have h := Any.strings_Trim_laid Tryz.lays160 (by kernel_rfl) s ⟨lettersL.toArray⟩ w (by omega) (by decide +kernel) (ascii_of_all (by decide +kernel))
  refine Calls.mono h ?_
  rintro e w' ⟨rfl, hb⟩
  refine ⟨_, rfl, ?_, (Chg.of_below hb).mono (fun i hi h => by omega)⟩
  rw [ba_isEmpty]
  have e1 := trim_nil s.data.toList
  have e2 : (ByteArray.mk (Lib.trimS s.data.toList lettersL).toArray).size = (Lib.trimS s.data.toList lettersL).length := by simp [ByteArray.size]
  show decide ((ByteArray.mk (Lib.trimS s.data.toList lettersL).toArray).size = 0) = _
  rw [e2, Bool.eq_iff_iff, decide_eq_true_eq, ← e1, List.length_eq_zero_iff]

theorem isName_any (s : ByteArray) (hs : s.size ≤ maxLen) (w : World) : Calls Tryz.prog 179 #[.string s] w (Rets (.bool (nameL s.data.toList)) (Chg (fun _ => False) w)) := by
  have ht := trim_any s hs
  unfold maxLen at hs
  have hsl : s.data.toList.length = s.size := (Lib.size_eq s).symm
  by_cases h0 : s.size = 0
  · have e0 : s.toList.isEmpty = true := by rw [ba_isEmpty]; simp [h0]
    have hr : nameL s.data.toList = false := by unfold nameL; rw [hsl, h0]; rfl
    rw [hr]
    clear ht hsl hr
    go_enter Tryz.func179, Tryz.ntmps179
    go_wp2
    go_ret
    exact ⟨rfl, Chg.refl _ _⟩
  · have e0 : s.toList.isEmpty = false := by rw [ba_isEmpty]; simp [h0]
    by_cases h8 : s.size ≤ 8
    · have h8' : (s.size : Int) ≤ 8 := by omega
      have hr : nameL s.data.toList = s.data.toList.all letB := by unfold nameL; rw [hsl]; simp [h8]; omega
      rw [hr]
      generalize s.data.toList.all letB = B at ht
      clear hsl hr
      go_enter Tryz.func179, Tryz.ntmps179
      go_wp2_with (go_at_call 185; refine (ht _).mono ?_; rintro e w' ⟨r, rfl, hr, hc⟩)
      go_ret
      exact ⟨by first | rfl | rw [hr], hc⟩
    · have h8' : ¬ (s.size : Int) ≤ 8 := by omega
      have hr : nameL s.data.toList = false := by unfold nameL; rw [hsl]; simp [h8]
      rw [hr]
      clear ht hsl hr
      go_enter Tryz.func179, Tryz.ntmps179
      go_wp2
      go_ret
      exact ⟨rfl, Chg.refl _ _⟩
theorem isNameL_any (l : List UInt8) (hl : l.length ≤ maxLen) (w : World) : Calls Tryz.prog 179 #[.string (bs l)] w (Rets (.bool (nameL l)) (Chg (fun _ => False) w)) := by
  have := isName_any (bs l) (by rw [bs_size]; exact hl) w
  rwa [bs_data] at this

theorem notName_any (s : ByteArray) (hs : s.size ≤ maxLen) (w : World) : Calls Tryz.prog 180 #[.string s] w (Rets (.bool (!nameL s.data.toList)) (Chg (fun _ => False) w)) := by
  have h := isName_any s hs
  clear hs
  go_enter Tryz.func180, Tryz.ntmps180
  go_wp2_with (go_at_call 179; refine (h _).mono ?_; rintro e w' ⟨rfl, hc⟩)
  go_ret
  exact ⟨rfl, hc⟩

set_option maxHeartbeats 1000000 in
theorem ixn_any (v : Value) (ss : List ByteArray) (w : World) (hin : StrsAt w v ss) :
    Calls Tryz.prog 92 #[v, .func (.func 180) #[] #[]] w (fun e w' => ∃ r : Int, e = .returned (.int .i64 r) ∧ (r < 0 ↔ ∀ s ∈ ss, nameL s.data.toList = true) ∧ Chg (fun _ => False) w w') := by
  have hlenI := fun W ty => hin.len (P := Tryz.prog) Tryz.underlying22 W ty
  have hmx := hin.2.1
  unfold maxLen at hmx
  have H := hid hin
  clear hin
  go_enter Tryz.func92, Tryz.ntmps92
  go_wp2_with fail
  go_loopw [8] (fun i wr => ∃ k : Nat, k ≤ ss.length ∧ i = .int .i64 k ∧ Chg (fun _ => False) w wr ∧ ∀ j (h : j < ss.length), j < k → nameL ss[j].data.toList = true) (fun i _ => ss.length - (intOf i).toNat)
  case atStart => exact ⟨0, Nat.zero_le _, rfl, Chg.refl _ _, fun j _ h => absurd h (Nat.not_lt_zero _)⟩
  case round =>
    obtain ⟨k, hk, rfl, hch, hall⟩ := hrel
    have HA := hid hall
    have HC := hid hch
    have S2 := H.out.chg hch (fun _ _ h => h)
    clear hall hch
    by_cases hkn : k < ss.length
    · have hkn' : (k : Int) < ss.length := by omega
      obtain ⟨ad, hix, hadc, hadb⟩ := S2.ix (P := Tryz.prog) Tryz.underlying22 Tryz.sizeOf9 k hkn
      have hsk := S2.2.2 _ (List.getElem_mem hkn)
      clear S2
      cases hw : nameL ss[k].data.toList with
      | false =>
        have hn := notName_any ss[k] hsk
        rw [hw] at hn
        go_wp2_with (go_at_call 180; refine (hn _).mono ?_; rintro e w' ⟨rfl, hc⟩)
        go_ret
        refine ⟨k, rfl, ⟨fun h => by omega, fun h => ?_⟩, HC.out.trans hc (fun _ _ h => h)⟩
        have := h _ (List.getElem_mem hkn)
        rw [hw] at this; cases this
      | true =>
        have hn := notName_any ss[k] hsk
        rw [hw] at hn
        go_wp2_with (go_at_call 180; refine (hn _).mono ?_; rintro e w' ⟨rfl, hc⟩)
        go_roundw
        case rel =>
          refine ⟨k + 1, by omega, by go_num, HC.out.trans hc (fun _ _ h => h), fun j hj hjk => ?_⟩
          by_cases e : j = k
          · subst e; exact hw
          · exact HA.out j hj (by omega)
        case measure => simp [intOf]; omega
    · obtain rfl : k = ss.length := by omega
      go_wp2_with fail
      go_ret
      refine ⟨_, rfl, ⟨fun _ s hs => ?_, fun _ => by decide⟩, HC.out⟩
      obtain ⟨j, hj, rfl⟩ := List.mem_iff_getElem.1 hs
      exact HA.out j hj hj
theorem cfn_any (v : Value) (ss : List ByteArray) (w : World) (hin : StrsAt w v ss) :
    Calls Tryz.prog 57 #[v, .func (.func 180) #[] #[]] w (Rets (.bool (!ss.all fun s => nameL s.data.toList)) (Chg (fun _ => False) w)) := by
  have hix := ixn_any v ss w hin
  clear hin
  go_enter Tryz.func57, Tryz.ntmps57
  go_wp2_with (go_at_call 92; refine hix.mono ?_; rintro e w' ⟨r, rfl, hr, hc⟩)
  go_ret
  refine ⟨?_, hc⟩
  have e1 : (ss.all fun s => nameL s.data.toList) = decide (r < 0) := by
    rw [Bool.eq_iff_iff, List.all_eq_true, decide_eq_true_eq, hr]
  rw [e1]
  by_cases h : r < 0
  · simp [h]
  · simp [h]; omega
theorem areNames_any (v : Value) (ss : List ByteArray) (w : World) (hin : StrsAt w v ss) :
    Calls Tryz.prog 166 #[v] w (Rets (.bool (ss.all fun s => nameL s.data.toList)) (Chg (fun _ => False) w)) := by
  have h := cfn_any v ss w hin
  clear hin
  go_enter Tryz.func166, Tryz.ntmps166
  go_wp2_with (go_at_call 57; refine h.mono ?_; rintro e w' ⟨rfl, hc⟩)
  go_ret
  exact ⟨by simp, hc⟩
theorem areNamesL_any (v : Value) (ss : List (List UInt8)) (w : World) (hin : NamesAt w v ss) :
    Calls Tryz.prog 166 #[v] w (Rets (.bool (ss.all nameL)) (Chg (fun _ => False) w)) := by
  have := areNames_any v (ss.map bs) w hin
  have e : ((ss.map bs).all fun s => nameL s.data.toList) = ss.all nameL := by
    rw [List.all_map]
    congr 1
  rwa [e] at this
end Go.Proofs.YthglfmacjoecgaaGreatDoor
namespace Go.Proofs.YthglfmacjoecgaaGreatDoor
open Go.RowKit

/-- An action as a value. -/
def actV (a : ActR) (iv : Value) : Value := .agg #[.string (bs a.name), iv, .string (bs a.code)]

theorem NamesAt.len {w0 : World} {v : Value} {ss : List (List UInt8)} (h : NamesAt w0 v ss) (w : World) (ty : TypeId) : (Builtin.len_ #[22] ty #[v]).run Tryz.prog w = .ok (.int .i64 ss.length) w := by
  have := StrsAt.len (P := Tryz.prog) h Tryz.underlying22 w ty
  simpa using this
theorem NamesAt.le {w0 : World} {v : Value} {ss : List (List UInt8)} (h : NamesAt w0 v ss) : ss.length ≤ maxLen := by
  have := h.2.1
  simpa using this
theorem NamesAt.wide {w0 : World} {v : Value} {ss : List (List UInt8)} (h : NamesAt w0 v ss) : ∀ s ∈ ss, s.length ≤ maxLen := by
  intro s hs
  have := h.2.2 (bs s) (List.mem_map.2 ⟨s, hs, rfl⟩)
  rwa [bs_size] at this

set_option maxRecDepth 100000 in
set_option maxHeartbeats 1000000 in
theorem isAction_any (a : ActR) (iv : Value) (w : World) (hn : a.name.length ≤ maxLen) (hc : a.code.length ≤ maxLen) (hi : NamesAt w iv a.ins) :
    Calls Tryz.prog 165 #[actV a iv] w (Rets (.bool (actOK a)) (Chg (fun _ => False) w)) := by
  have h1 := fun w => isNameL_any a.name hn w
  have hsz := bs_size a.code
  have hle := hi.le
  have hlen := hi.len
  have hz : World.heap w = World.heap w := rfl
  obtain ⟨W1, hW1⟩ : ∃ W1, W1 = w.alloc (.cells #[.string (bs a.name), iv, .string (bs a.code)] 43) := ⟨_, rfl⟩
  have hC1 : Chg (fun _ => False) w W1 := hW1 ▸ (Chg.refl _ w).alloc _
  have hb1 : W1.heap[w.heap.size]? = some (.cells #[.string (bs a.name), iv, .string (bs a.code)] 43 (0, 0)) := hW1 ▸ heap_alloc_new' w _
  have hA : ∀ W, Chg (fun _ => False) W1 W → Calls Tryz.prog 166 #[iv] W (Rets (.bool (a.ins.all nameL)) (Chg (fun _ => False) W)) := fun W hW => areNamesL_any iv a.ins W (hi.chg (hC1.trans hW (fun _ _ h => h)) (fun _ _ h => h))
  have hcell : ∀ W, Chg (fun _ => False) W1 W → W.cell? ⟨w.heap.size, 1, none⟩ = some iv ∧ W.cell? ⟨w.heap.size, 2, none⟩ = some (.string (bs a.code)) := fun W hW =>
    ⟨(cell_of (hW.obj hb1 (fun h => h)) 1), (cell_of (hW.obj hb1 (fun h => h)) 2)⟩
  have hok : actOK a = (nameL a.name && a.ins.all nameL && decide (a.ins.length ≤ 4) && decide (a.code.length ≤ 64)) := rfl
  unfold actV
  rw [← bs_size] at hc
  unfold maxLen at hle hc
  have HA := hid hA
  have HC := hid hcell
  have H1 := hid hC1
  rw [hok]
  clear hA hcell hC1 hi hok
  generalize a.ins.all nameL = B2 at HA ⊢
  generalize nameL a.name = B1 at h1 ⊢
  generalize bs a.name = nm at *
  obtain ⟨n, hn'⟩ : ∃ n, n = a.ins.length := ⟨_, rfl⟩
  rw [← hn'] at hlen hle ⊢
  rw [← hsz]
  generalize bs a.code = cd at *
  clear hsz hn'
  cases B1 with
  | false =>
    go_enter Tryz.func165, Tryz.ntmps165
    rw [hW1] at H1
    clear HA HC hb1 hW1
    go_wp2_with (go_at_call 179; refine (h1 _).mono ?_; rintro e w' ⟨rfl, hc1⟩)
    go_ret
    exact ⟨rfl, H1.out.trans hc1 (fun _ _ h => h)⟩
  | true =>
    cases B2 with
    | false =>
      go_enter Tryz.func165, Tryz.ntmps165
      rw [hW1] at H1 HA HC
      clear hb1 hW1
      go_wp2_with (first | (go_at_call 179; refine (h1 _).mono ?_; rintro e w' ⟨rfl, hc1⟩; have c1 := (HC.out _ hc1).1; have c2 := (HC.out _ hc1).2) | (go_at_call 166; refine (HA.out _ hc1).mono ?_; rintro e w2 ⟨rfl, hc2⟩; have d1 := (HC.out _ (hc1.trans hc2 (fun _ _ h => h))).1; have d2 := (HC.out _ (hc1.trans hc2 (fun _ _ h => h))).2))
      go_ret
      exact ⟨rfl, (H1.out.trans hc1 (fun _ _ h => h)).trans hc2 (fun _ _ h => h)⟩
    | true =>
      by_cases h4 : n ≤ 4
      · have h4' : (n : Int) ≤ 4 := by omega
        by_cases h64 : cd.size ≤ 64
        · have h64' : (cd.size : Int) ≤ 64 := by omega
          go_enter Tryz.func165, Tryz.ntmps165
          rw [hW1] at H1 HA HC
          clear hb1 hW1
          go_wp2_with (first | (go_at_call 179; refine (h1 _).mono ?_; rintro e w' ⟨rfl, hc1⟩; have c1 := (HC.out _ hc1).1; have c2 := (HC.out _ hc1).2) | (go_at_call 166; refine (HA.out _ hc1).mono ?_; rintro e w2 ⟨rfl, hc2⟩; have d1 := (HC.out _ (hc1.trans hc2 (fun _ _ h => h))).1; have d2 := (HC.out _ (hc1.trans hc2 (fun _ _ h => h))).2))
          go_ret
          exact ⟨by simp [h4, h64], (H1.out.trans hc1 (fun _ _ h => h)).trans hc2 (fun _ _ h => h)⟩
        · have h64' : ¬ (cd.size : Int) ≤ 64 := by omega
          go_enter Tryz.func165, Tryz.ntmps165
          rw [hW1] at H1 HA HC
          clear hb1 hW1
          go_wp2_with (first | (go_at_call 179; refine (h1 _).mono ?_; rintro e w' ⟨rfl, hc1⟩; have c1 := (HC.out _ hc1).1; have c2 := (HC.out _ hc1).2) | (go_at_call 166; refine (HA.out _ hc1).mono ?_; rintro e w2 ⟨rfl, hc2⟩; have d1 := (HC.out _ (hc1.trans hc2 (fun _ _ h => h))).1; have d2 := (HC.out _ (hc1.trans hc2 (fun _ _ h => h))).2))
          go_ret
          exact ⟨by simp [h4, h64]; omega, (H1.out.trans hc1 (fun _ _ h => h)).trans hc2 (fun _ _ h => h)⟩
      · have h4' : ¬ (n : Int) ≤ 4 := by omega
        go_enter Tryz.func165, Tryz.ntmps165
        rw [hW1] at H1 HA HC
        clear hb1 hW1
        go_wp2_with (first | (go_at_call 179; refine (h1 _).mono ?_; rintro e w' ⟨rfl, hc1⟩; have c1 := (HC.out _ hc1).1; have c2 := (HC.out _ hc1).2) | (go_at_call 166; refine (HA.out _ hc1).mono ?_; rintro e w2 ⟨rfl, hc2⟩; have d1 := (HC.out _ (hc1.trans hc2 (fun _ _ h => h))).1; have d2 := (HC.out _ (hc1.trans hc2 (fun _ _ h => h))).2))
        go_ret
        exact ⟨by simp, (H1.out.trans hc1 (fun _ _ h => h)).trans hc2 (fun _ _ h => h)⟩

/-- The action at a place of a row: its cells, and that they stay. -/
theorem ActsAt.at {w : World} {v : Value} {xs : List ActR} {iv : Nat → Value} (h : ActsAt w v xs iv) (k : Nat) (hk : k < xs.length) :
    ∃ bb oo, (∀ w, (Instr.indexAt 23 v (.int .i64 k)).run Tryz.prog w = .ok (.pointer (some ⟨bb, oo, none⟩)) w) ∧ bb < w.heap.size ∧
      w.cell? ⟨bb, oo, none⟩ = some (.string (bs xs[k].name)) ∧ w.cell? ⟨bb, oo + 1, none⟩ = some (iv k) ∧ w.cell? ⟨bb, oo + 2, none⟩ = some (.string (bs xs[k].code)) ∧ NamesAt w (iv k) xs[k].ins ∧ xs[k].name.length ≤ maxLen ∧ xs[k].code.length ≤ maxLen := by
  obtain ⟨bb, oo, h1, h2, h3⟩ := h.rows.ix (P := Tryz.prog) Tryz.underlying23 (fun w => by kernel_rfl) (by decide) k hk
  have hg : xs.getD k noAct = xs[k] := by simp [List.getD_eq_getElem?_getD, hk]
  have hw := h.wide _ (List.getElem_mem hk)
  have hi := h.ins k hk
  rw [hg] at hi
  simp only [hg] at h2
  exact ⟨bb, oo, h1, h3, h2 0 (by decide), h2 1 (by decide), h2 2 (by decide), hi, hw.1, hw.2⟩
theorem ActsAt.len {w0 : World} {v : Value} {xs : List ActR} {iv : Nat → Value} (h : ActsAt w0 v xs iv) (w : World) (ty : TypeId) : (Builtin.len_ #[23] ty #[v]).run Tryz.prog w = .ok (.int .i64 xs.length) w :=
  RowsAt.len (P := Tryz.prog) h.rows Tryz.underlying23 w ty

theorem NamesAt.form {w : World} {v : Value} {ss : List (List UInt8)} (h : NamesAt w v ss) : ∃ oa c, v = .slice oa ss.length c := by
  rcases h.1 with ⟨h1, h2⟩ | ⟨a, cap, h1, _⟩
  · exact ⟨none, 0, by rw [h1, show ss.length = 0 by simpa using congrArg List.length h2]⟩
  · exact ⟨some a, cap, by rw [h1]; simp⟩
theorem ActsAt.form {w : World} {v : Value} {xs : List ActR} {iv : Nat → Value} (h : ActsAt w v xs iv) : ∃ oa c, v = .slice oa xs.length c := by
  rcases h.rows.form with ⟨h1, h2⟩ | ⟨a, cap, h1, _⟩
  · exact ⟨none, 0, by rw [h1, h2]⟩
  · exact ⟨some a, cap, h1⟩
theorem GrAt.form {w : World} {v : Value} {g : GrR} (h : GrAt w v g) : ∃ oa c ob d iv, v = .agg #[.slice oa g.srcs.length c, .slice ob g.acts.length d] ∧ NamesAt w (.slice oa g.srcs.length c) g.srcs ∧ ActsAt w (.slice ob g.acts.length d) g.acts iv := by
  obtain ⟨sv, av, iv, rfl, h1, h2⟩ := h
  obtain ⟨oa, c, rfl⟩ := h1.form
  obtain ⟨ob, d, rfl⟩ := h2.form
  exact ⟨oa, c, ob, d, iv, rfl, h1, h2⟩

theorem notAction_any (a : ActR) (iv : Value) (w : World) (hn : a.name.length ≤ maxLen) (hc : a.code.length ≤ maxLen) (hi : NamesAt w iv a.ins) :
    Calls Tryz.prog 164 #[actV a iv] w (Rets (.bool (!actOK a)) (Chg (fun _ => False) w)) := by
  have hC1 : Chg (fun _ => False) w (w.alloc (.cells #[.string (bs a.name), iv, .string (bs a.code)] 43)) := (Chg.refl _ w).alloc _
  have h := isAction_any a iv (w.alloc (.cells #[.string (bs a.name), iv, .string (bs a.code)] 43)) hn hc (hi.chg hC1 (fun _ _ h => h))
  clear hi hn hc
  unfold actV at h ⊢
  generalize actOK a = B at *
  generalize bs a.name = nm at *
  generalize bs a.code = cd at *
  go_enter Tryz.func164, Tryz.ntmps164
  go_wp2_with (go_at_call 165; refine h.mono ?_; rintro e w' ⟨rfl, hc1⟩)
  go_ret
  exact ⟨rfl, hC1.trans hc1 (fun _ _ h => h)⟩

set_option maxHeartbeats 1000000 in
theorem ixa_any (v : Value) (xs : List ActR) (iv : Nat → Value) (w : World) (hin : ActsAt w v xs iv) :
    Calls Tryz.prog 135 #[v, .func (.func 164) #[] #[]] w (fun e w' => ∃ r : Int, e = .returned (.int .i64 r) ∧ (r < 0 ↔ ∀ a ∈ xs, actOK a = true) ∧ Chg (fun _ => False) w w') := by
  have hlenI := hin.len
  have hmx := hin.rows.le
  unfold maxLen at hmx
  have H := hid hin
  clear hin
  go_enter Tryz.func135, Tryz.ntmps135
  go_wp2_with fail
  go_loopw [8] (fun i wr => ∃ k : Nat, k ≤ xs.length ∧ i = .int .i64 k ∧ Chg (fun _ => False) w wr ∧ ∀ j (h : j < xs.length), j < k → actOK xs[j] = true) (fun i _ => xs.length - (intOf i).toNat)
  case atStart => exact ⟨0, Nat.zero_le _, rfl, Chg.refl _ _, fun j _ h => absurd h (Nat.not_lt_zero _)⟩
  case round =>
    obtain ⟨k, hk, rfl, hch, hall⟩ := hrel
    have HA := hid hall
    have HC := hid hch
    have S2 := H.out.chg hch (fun _ _ h => h)
    clear hall hch
    by_cases hkn : k < xs.length
    · have hkn' : (k : Int) < xs.length := by omega
      obtain ⟨bb, oo, hix, hlt, e0, e1, e2, hns, hw1, hw2⟩ := S2.at k hkn
      have hn := notAction_any xs[k] (iv k) wr hw1 hw2 hns
      unfold actV at hn
      clear S2 hns hw1 hw2
      cases hw : actOK xs[k] with
      | false =>
        rw [hw] at hn
        generalize bs xs[k].name = nm at *
        generalize bs xs[k].code = cd at *
        go_wp2_with (go_at_call 164; refine hn.mono ?_; rintro e w' ⟨rfl, hc⟩)
        go_ret
        refine ⟨k, rfl, ⟨fun h => by omega, fun h => ?_⟩, HC.out.trans hc (fun _ _ h => h)⟩
        have := h _ (List.getElem_mem hkn)
        rw [hw] at this; cases this
      | true =>
        rw [hw] at hn
        generalize bs xs[k].name = nm at *
        generalize bs xs[k].code = cd at *
        go_wp2_with (go_at_call 164; refine hn.mono ?_; rintro e w' ⟨rfl, hc⟩)
        go_roundw
        case rel =>
          refine ⟨k + 1, by omega, by go_num, HC.out.trans hc (fun _ _ h => h), fun j hj hjk => ?_⟩
          by_cases e : j = k
          · subst e; exact hw
          · exact HA.out j hj (by omega)
        case measure => simp [intOf]; omega
    · obtain rfl : k = xs.length := by omega
      clear S2
      go_wp2_with fail
      go_ret
      refine ⟨_, rfl, ⟨fun _ s hs => ?_, fun _ => by decide⟩, HC.out⟩
      obtain ⟨j, hj, rfl⟩ := List.mem_iff_getElem.1 hs
      exact HA.out j hj hj
theorem cfa_any (v : Value) (xs : List ActR) (iv : Nat → Value) (w : World) (hin : ActsAt w v xs iv) :
    Calls Tryz.prog 167 #[v, .func (.func 164) #[] #[]] w (Rets (.bool (!xs.all actOK)) (Chg (fun _ => False) w)) := by
  have hix := ixa_any v xs iv w hin
  clear hin
  go_enter Tryz.func167, Tryz.ntmps167
  go_wp2_with (go_at_call 135; refine hix.mono ?_; rintro e w' ⟨r, rfl, hr, hc⟩)
  go_ret
  refine ⟨?_, hc⟩
  have e1 : xs.all actOK = decide (r < 0) := by
    rw [Bool.eq_iff_iff, List.all_eq_true, decide_eq_true_eq, hr]
  rw [e1]
  by_cases h : r < 0
  · simp [h]
  · simp [h]; omega

set_option maxRecDepth 100000 in
set_option maxHeartbeats 1000000 in
theorem isGraph_any (g : GrR) (v : Value) (w : World) (hg : GrAt w v g) : Calls Tryz.prog 145 #[v] w (Rets (.bool (grOK g)) (Chg (fun _ => False) w)) := by
  obtain ⟨sv, av, iv, rfl, hs, ha⟩ := hg
  have hl1 := hs.len
  have hl2 := ha.len
  have hm1 := hs.le
  have hm2 := ha.rows.le
  have hok : grOK g = (decide (g.srcs.length ≤ 8) && decide (g.acts.length ≤ 12) && g.srcs.all nameL && g.acts.all actOK) := rfl
  obtain ⟨W1, hW1⟩ : ∃ W1, W1 = w.alloc (.cells #[sv, av] 25) := ⟨_, rfl⟩
  have hC1 : Chg (fun _ => False) w W1 := hW1 ▸ (Chg.refl _ w).alloc _
  have hb1 : W1.heap[w.heap.size]? = some (.cells #[sv, av] 25 (0, 0)) := hW1 ▸ heap_alloc_new' w _
  have hcell : ∀ W, Chg (fun _ => False) W1 W → W.cell? ⟨w.heap.size, 0, none⟩ = some sv ∧ W.cell? ⟨w.heap.size, 1, none⟩ = some av := fun W hW =>
    ⟨(cell_of (hW.obj hb1 (fun h => h)) 0), (cell_of (hW.obj hb1 (fun h => h)) 1)⟩
  have hN : ∀ W, Chg (fun _ => False) W1 W → Calls Tryz.prog 166 #[sv] W (Rets (.bool (g.srcs.all nameL)) (Chg (fun _ => False) W)) := fun W hW => areNamesL_any sv g.srcs W (hs.chg (hC1.trans hW (fun _ _ h => h)) (fun _ _ h => h))
  have hA : ∀ W, Chg (fun _ => False) W1 W → Calls Tryz.prog 167 #[av, .func (.func 164) #[] #[]] W (Rets (.bool (!g.acts.all actOK)) (Chg (fun _ => False) W)) := fun W hW => cfa_any av g.acts iv W (ha.chg (hC1.trans hW (fun _ _ h => h)) (fun _ _ h => h))
  rw [hok]
  unfold maxLen at hm1 hm2
  have HN := hid hN
  have HA := hid hA
  have HC := hid hcell
  have H1 := hid hC1
  clear hN hA hcell hC1 hs ha hok
  generalize g.srcs.all nameL = B1 at HN ⊢
  generalize g.acts.all actOK = B2 at HA ⊢
  generalize g.srcs.length = n1 at *
  generalize g.acts.length = n2 at *
  by_cases h8 : n1 ≤ 8
  · have h8' : (n1 : Int) ≤ 8 := by omega
    by_cases h12 : n2 ≤ 12
    · have h12' : (n2 : Int) ≤ 12 := by omega
      cases B1 with
      | false =>
        go_enter Tryz.func145, Tryz.ntmps145
        rw [hW1] at H1 HN HC
        clear hb1 hW1 HA
        go_wp2_with (go_at_call 166; refine (HN.out _ (Chg.refl _ _)).mono ?_; rintro e w' ⟨rfl, hc1⟩; have c1 := (HC.out _ hc1).1; have c2 := (HC.out _ hc1).2)
        go_ret
        exact ⟨by simp, H1.out.trans hc1 (fun _ _ h => h)⟩
      | true =>
        go_enter Tryz.func145, Tryz.ntmps145
        rw [hW1] at H1 HN HC HA
        clear hb1 hW1
        go_wp2_with (first | (go_at_call 166; refine (HN.out _ (Chg.refl _ _)).mono ?_; rintro e w' ⟨rfl, hc1⟩; have c1 := (HC.out _ hc1).1; have c2 := (HC.out _ hc1).2) | (go_at_call 167; refine (HA.out _ hc1).mono ?_; rintro e w2 ⟨rfl, hc2⟩))
        go_ret
        exact ⟨by simp [h8, h12], (H1.out.trans hc1 (fun _ _ h => h)).trans hc2 (fun _ _ h => h)⟩
    · have h12' : ¬ (n2 : Int) ≤ 12 := by omega
      go_enter Tryz.func145, Tryz.ntmps145
      rw [hW1] at H1
      clear hb1 hW1 HA HN HC
      go_wp2_with fail
      go_ret
      exact ⟨by simp, H1.out⟩
  · have h8' : ¬ (n1 : Int) ≤ 8 := by omega
    go_enter Tryz.func145, Tryz.ntmps145
    rw [hW1] at H1
    clear hb1 hW1 HA HN HC
    go_wp2_with fail
    go_ret
    exact ⟨by simp, H1.out⟩
end Go.Proofs.YthglfmacjoecgaaGreatDoor
