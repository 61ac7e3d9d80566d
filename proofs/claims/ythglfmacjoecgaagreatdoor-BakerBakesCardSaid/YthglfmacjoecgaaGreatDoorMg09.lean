/- Texts of the proof, one behind the other: stamp.Of walked: the digest of texts; mill.step's letter 'h' walked; apiaryref02.turn walked; words turned and joined, in plain words. -/
import Derived.Test.YthglfmacjoecgaaGreatDoorMg08
import Derived.StillTailTactics
import Derived.Deep.RegionHeld3
import Derived.Test.YthglfmacjoecgaaGreatDoorMg03
namespace Go.Proofs.YthglfmacjoecgaaGreatDoor
open Go.RowKit

/-- The digest of texts one behind the other, byte by byte. -/
def ofB (ss : List ByteArray) : Nat → UInt8 := digB (sumF (addsR ss).1 (addsR ss).2.1 (addsR ss).2.2)

/-- Of with what its parts answer named: no walk looks into them. -/
structure OfParts (ss : List ByteArray) (f : Nat → Int) (r : ByteArray) (m : Int) (D : Nat → UInt8) : Prop where
  less : r.size < 64
  add : ∀ (w : World) (b : Nat) (g n c : Nat) (_ : n = ss.length) (_ : ss.length ≤ 1000) (_ : sumSize ss ≤ 140737488355328) (_ : ∀ i (h : i < ss.length), w.cell? ⟨g, i, none⟩ = some (.string ss[i])) (_ : g ≠ b)
    (_ : PressAt w b iv .empty 0) (_ : Lib.TabIs Tryz.prog w "apiary/stamp.words" .u32 wordsL) (_ : gWd ≠ b),
    Calls Tryz.prog 65 #[.pointer (some ⟨b, 0, none⟩), .slice (some ⟨g, 0, none⟩) n c] w
      (fun e w' => e = .returned (.pointer (some ⟨b, 0, none⟩)) ∧ PressAt w' b f r m ∧ Chg (fun k => k = b) w w')
  sum : ∀ (w : World) (b : Nat) (_ : PressAt w b f r m) (_ : Lib.TabIs Tryz.prog w "apiary/stamp.words" .u32 wordsL) (_ : gWd < w.heap.size),
    Calls Tryz.prog 66 #[.pointer (some ⟨b, 0, none⟩)] w (Rets (.agg (rowB 32 D)) (Chg (fun _ => False) w))
theorem ofParts (ss : List ByteArray) : OfParts ss (addsR ss).1 (addsR ss).2.1 (addsR ss).2.2 (ofB ss) :=
  ⟨addsR_less ss, fun w b g n c h1 h2 h3 h4 h5 h6 h7 h8 => sadd_any w b ss g n c h1 h2 h3 h4 h5 h6 h7 h8, fun w b h1 h2 h3 => ssum_any w b _ _ _ (addsR_less ss) h1 h2 h3⟩

set_option maxRecDepth 100000 in
set_option maxHeartbeats 1000000 in
theorem of_parts (w : World) (ss : List ByteArray) (g n c : Nat) (hn : n = ss.length) (hl : ss.length ≤ 1000) (hsz : sumSize ss ≤ 140737488355328) (hc : ∀ i (h : i < ss.length), w.cell? ⟨g, i, none⟩ = some (.string ss[i])) (hg : g < w.heap.size)
    (hT : Lib.TabIs Tryz.prog w "apiary/stamp.words" .u32 wordsL) (hgw : gWd < w.heap.size) (f : Nat → Int) (r : ByteArray) (m : Int) (D : Nat → UInt8) (hO : OfParts ss f r m D) :
    Calls Tryz.prog 28 #[.slice (some ⟨g, 0, none⟩) n c] w (Rets (.agg (rowB 32 D)) (Chg (fun _ => False) w)) := by
  have HC := hid hc
  have HT := hid hT
  have HO := hid hO
  clear hc hT hO
  go_enter Tryz.func28, Tryz.ntmps28
  go_wp2_with (first | (refine wpList_alloc0 rfl 57 rfl (rowB 32 (fun _ => 0)) (alloc37 _) ?_; intro w1 ha1 hs1 hc1; have HA1 := hid ha1; have HS1 := hid hs1; have HC1 := hid hc1; clear ha1 hs1 hc1) | (go_at_call 64; refine (snew_any _).mono ?_; rintro e w2 ⟨b, rfl, hb2, hP2, hc2⟩; have HC2 := hid (HC1.out.trans hc2 (fun _ _ h => h)); have HB2 := hid hb2; have HP2 := hid hP2; have HA2 := hid (hc2.obj HA1.out (fun h => h)); clear hb2 hP2 hc2))
  have hb0 : w.heap.size < b := by have h1 := HB2.out; have h2 := HS1.out; omega
  refine (HO.out.add w2 b g _ c rfl hl hsz (fun i hi => HC2.out.cell (HC.out i hi) (fun h => h)) (by omega) HP2.out (words_chg HT.out HC2.out (fun h => h)) (by omega)).mono ?_
  rintro e w3 ⟨rfl, hP3, hc3⟩
  have HC3 := hid (HC2.out.trans hc3 (fun i hi h => by omega))
  have HA3 := hid (hc3.obj HA2.out (by omega))
  have HP3 := hid hP3
  clear hc3 hP3
  have hsum := HO.out.sum w3 b HP3.out (words_chg HT.out HC3.out (fun h => h)) (Nat.lt_of_lt_of_le hgw HC3.out.size)
  go_wp2_with (first | (go_at_call 66; refine hsum.mono ?_; rintro e w4 ⟨rfl, hc4⟩; have HC4 := hid (HC3.out.trans hc4 (fun _ _ h => h)); have HA4 := hid (hc4.obj HA3.out (fun h => h)); clear hc4) | (refine wpList_store0 rfl 57 _ _ rfl w.heap.size (rowB 32 (fun _ => 0)) (rowB 32 D) rfl rfl HA4.out (by rw [rowB_size]; exact size37) rfl (rowB_one _ _) ?_; intro w5 hb5 hs5 hc5))
  refine bodyPost_ret (v := .agg (rowB 32 D)) ?_ rfl ⟨rfl, ?_⟩
  · exact results_row Tryz.results28 _ _ w.heap.size rfl _ (run_loadVar_row _ w.heap.size 57 57 _ (0, 0) (.array 32 5) hb5 Tryz.underlying57 rfl (by rw [rowB_size]; kernel_rfl))
  · exact HC4.out.trans hc5 (fun i hi h => by omega)

theorem of_any (w : World) (ss : List ByteArray) (g n c : Nat) (hn : n = ss.length) (hl : ss.length ≤ 1000) (hsz : sumSize ss ≤ 140737488355328) (hc : ∀ i (h : i < ss.length), w.cell? ⟨g, i, none⟩ = some (.string ss[i])) (hg : g < w.heap.size)
    (hT : Lib.TabIs Tryz.prog w "apiary/stamp.words" .u32 wordsL) (hgw : gWd < w.heap.size) :
    Calls Tryz.prog 28 #[.slice (some ⟨g, 0, none⟩) n c] w (Rets (.agg (rowB 32 (ofB ss))) (Chg (fun _ => False) w)) :=
  of_parts w ss g n c hn hl hsz hc hg hT hgw _ _ _ _ (ofParts ss)
end Go.Proofs.YthglfmacjoecgaaGreatDoor
namespace Go.Proofs.YthglfmacjoecgaaGreatDoor
open Go.RowKit

/-- A text's digest, as a text. -/
def hashS (s : ByteArray) : ByteArray := ⟨((List.range 32).map (ofB [s])).toArray⟩
theorem hashS_size (s : ByteArray) : (hashS s).size = 32 := by
  show (((List.range 32).map (ofB [s])).toArray).size = 32
  simp
theorem hashS_get (s : ByteArray) (i : Nat) (h : i < (hashS s).size) : (hashS s)[i] = ofB [s] i := by
  have h2 : i < 32 := by rw [hashS_size] at h; exact h
  have e : (hashS s).data[i]? = some (ofB [s] i) := by
    unfold hashS
    simp [h2]
  exact (Array.getElem?_eq_some_iff.1 e).2

set_option maxRecDepth 100000 in
set_option maxHeartbeats 2000000 in
theorem step_h : StepH hashS := by
  intro B w b v code inV at_ r p0 h hB hr h0 hat s hs1 hs2 hc hT
  have hc' : ((s[0].toNat : Nat) : Int) = 104 := by rw [hc]; rfl
  have htk : ∀ w : World, Calls Tryz.prog 96 #[.int .u8 104] w (Rets (.int .i64 1) (fun w' => w = w')) := fun w => takes_any 104 w
  have hpop := mpops h.drew hB 1 rfl (by omega) (by omega)
  have hs0 : (0 : Int) < s.size := by omega
  go_enter Tryz.func61, Tryz.ntmps61
  go_wp2_with (go_at_call 95; refine (number_any s _ (by unfold maxLen; omega)).mono ?_; rintro e w' ⟨rfl, rfl⟩)
  go_region_held3 (fun _ => True) (trivial) (first | (go_at_call 96; refine (htk _).mono ?_; rintro e w' ⟨rfl, rfl⟩) | (go_at_call 93; refine hpop.mono ?_; rintro e w1 ⟨lv, rfl, hch1, hlv, v1, hM1, hv1⟩))
  have c3 := hM1.cell3
  have f3 := frozen_of hM1.st.heap 3
  obtain ⟨g, cap, rfl, hcap, hgl⟩ := owns_some hlv (by decide)
  have hgw := (World.ownsRow.lt hlv g rfl).1
  have hgb : g ≠ b := by have := h.lt; simp at *; omega
  have e0 : w1.cell? ⟨g, 0, none⟩ = some (.string p0) := hlv.cellAt 0 (by omega)
  have hM2 := hM1.setAt (at_ + s.size)
  rw [Int.natCast_add] at hM2
  have k0 := ((Chg.refl (fun k => k = b) w1).setCell (p := ⟨b, 3, none⟩) (fun _ => rfl) (.int .i64 ((at_ : Int) + (s.size : Int)))).cell e0 hgb
  have hB3 : B ≤ (w1.setCell ⟨b, 3, none⟩ (.int .i64 ((at_ : Int) + (s.size : Int)))).heap.size := Nat.le_trans hB (by have := hch1.size; simpa [World.setCell] using this)
  have hW : Chg (fun k => B ≤ k) w (w1.setCell ⟨b, 3, none⟩ (.int .i64 ((at_ : Int) + (s.size : Int)))) := ((Chg.refl _ w).drew).trans (hch1.setCell (p := ⟨b, 3, none⟩) (fun _ => h.hb) _) (fun _ _ h => h)
  have HM2 := hid hM2
  have hM2' := hM2
  have HWW := hid hW
  have HB3 := hid hB3
  clear hW hB3 hM2 hch1 hlv hM1 hv1 hpop
  have hof : Calls Tryz.prog 28 #[.slice (some ⟨w1.heap.size, 0, none⟩) 1 1] ((w1.setCell ⟨b, 3, none⟩ (.int .i64 ((at_ : Int) + (s.size : Int)))).alloc (.cells #[.string p0] 9)) (Rets (.agg (rowB 32 (ofB [p0]))) (Chg (fun _ => False) ((w1.setCell ⟨b, 3, none⟩ (.int .i64 ((at_ : Int) + (s.size : Int)))).alloc (.cells #[.string p0] 9)))) := by
    have hT3 : TabsOK B ((w1.setCell ⟨b, 3, none⟩ (.int .i64 ((at_ : Int) + (s.size : Int)))).alloc (.cells #[.string p0] 9)) := hT.chg (HWW.out.alloc _)
    have hsz1 : (w1.setCell ⟨b, 3, none⟩ (.int .i64 ((at_ : Int) + (s.size : Int)))).heap.size = w1.heap.size := by simp [World.setCell]
    refine of_any _ [p0] _ 1 1 rfl (by simp) (by simp [sumSize]; omega) (fun i hi => ?_) (by simp) hT3.wds (Nat.lt_of_lt_of_le hT3.gw (Nat.le_trans HB3.out (by simp)))
    obtain rfl : i = 0 := by simpa using hi
    rw [← hsz1]
    exact (cell_of (heap_alloc_new _ _) 0).trans rfl
  have hM3 := hM2'.alloc (.cells #[.string p0] 9)
  have HM3 := hid hM3
  have hB4 : B ≤ ((w1.setCell ⟨b, 3, none⟩ (.int .i64 ((at_ : Int) + (s.size : Int)))).alloc (.cells #[.string p0] 9)).heap.size := Nat.le_trans HB3.out (by simp)
  have hW4 : Chg (fun k => B ≤ k) w ((w1.setCell ⟨b, 3, none⟩ (.int .i64 ((at_ : Int) + (s.size : Int)))).alloc (.cells #[.string p0] 9)) := HWW.out.alloc _
  have HB4 := hid hB4
  have HW4 := hid hW4
  clear hM3 hM2' hB4 hW4 HM2 HB3 HWW
  have hps := hashS_size p0
  have hpg := hid (hashS_get p0)
  obtain ⟨hp, hhp⟩ : ∃ hp, hp = hashS p0 := ⟨_, rfl⟩
  rw [← hhp] at hps
  have hpg : Hid (∀ i (h : i < hp.size), hp[i] = ofB [p0] i) := by
    subst hhp; exact hpg
  have HHP := hid hhp
  clear hhp
  generalize ofB [p0] = D at hof hpg
  go_wp2_with (first | (go_at_call 28; refine hof.mono ?_; rintro e w3 ⟨rfl, hc3⟩; have HC3 := hid hc3; clear hc3) | (refine wpList_alloc0 rfl 57 rfl (rowB 32 (fun _ => 0)) (alloc37 _) ?_; intro w4 ha4 hs4 hc4) | (refine wpList_store0 rfl 57 _ _ rfl w3.heap.size (rowB 32 (fun _ => 0)) (rowB 32 D) rfl rfl ha4 (by rw [rowB_size]; exact size37) rfl (rowB_one _ _) ?_; intro w5 hb5 hs5 hc5))
  go_frame
  have hc35 : Chg (fun _ => False) w3 w5 := hc4.trans hc5 (fun i hi h => by omega)
  have hc05 : Chg (fun _ => False) _ w5 := HC3.out.trans hc35 (fun _ _ h => h)
  have hM5 := HM3.out.chg hc05 (fun _ _ h => h)
  have hW5 : Chg (fun k => B ≤ k) w w5 := HW4.out.trans hc05 (fun _ _ h => h.elim)
  have hB5 : B ≤ w5.heap.size := Nat.le_trans HB4.out hc05.size
  have hby : Lib.Bytes w5 w3.heap.size 0 hp := by
    intro i hi
    rw [Nat.zero_add, rowB_cell hb5 i (by rw [hps] at hi; exact hi), hpg.out i hi]
  have hcvAll : ∀ W, Lib.Bytes W w3.heap.size 0 hp → (convert 125 9 (.slice (some ⟨w3.heap.size, 0, none⟩) 32 32)).run Tryz.prog W = .ok (.string hp) W := fun W hW => by
    have := Lib.run_convert_whole (P := Tryz.prog) W 125 5 9 Tryz.underlying125 Tryz.underlying5 Tryz.underlying9 w3.heap.size 0 hp hW 32
    rwa [hps] at this
  have hd5 : w3.heap.size < w5.heap.size := heap_lt hb5
  have hdb : w3.heap.size ≠ b ∧ v1.ownBlock ≠ some w3.heap.size := by
    have h1 := HM3.out.lt
    have h2 := HM3.out.own_lt
    have h3 := HC3.out.size
    exact ⟨by omega, fun e => by have := h2 _ e; omega⟩
  have hcvd := hcvAll w5.drew hby
  have hcva := hcvAll (w5.alloc (.cells #[.string hp] 9)).drew (fun i hi => cell_alloc_drew (hby i hi) _)
  have hcvp : ∀ w', Chg (fun k => k = b ∨ v1.ownBlock = some k) w5 w' → (convert 125 9 (.slice (some ⟨w3.heap.size, 0, none⟩) 32 32)).run Tryz.prog w' = .ok (.string hp) w' := fun w' hc => hcvAll w' (fun i hi => hc.cell (hby i hi) (fun h => h.elim hdb.1 hdb.2))
  have HP := hid hcvp
  clear hcvAll hcvp
  have hsz : ∀ x ∈ [hp], x.size ≤ maxLen := by
    unfold maxLen; intro x hx; simp at hx; subst hx; omega
  have hpush := mpush_drew hM5 hB5 [hp] (by simp) _ rfl w5.heap.size 1 1 rfl rfl hsz (by omega)
  have HW5 := hid hW5
  clear hc35 hc05 hM5 hW5 hby hpg hc4 hc5 hb5 ha4 hs4 hs5 HC3 HM3 HW4 HB4 hof
  go_region_held3 (fun w' => (convert 125 9 (.slice (some ⟨w3.heap.size, 0, none⟩) 32 32)).run Tryz.prog w' = .ok (.string hp) w') (first | exact hcvd | exact hcva | exact HP.out _ hch3) (first | (go_at_call 97; refine hpush.mono ?_; rintro e w' ⟨rfl, hch2, hch3, hM4⟩))
  go_wp2_with fail
  go_ret
  have ehp := HHP.out
  subst ehp
  exact ⟨rfl, HW5.out.trans hch2 (fun _ _ h => h), hM4⟩
end Go.Proofs.YthglfmacjoecgaaGreatDoor
namespace Go.Proofs.YthglfmacjoecgaaGreatDoor
open Go.RowKit

theorem or_comm32 (a b : Int) : bits .or .u32 a b = bits .or .u32 b a := by
  show IntKind.u32.wrap ((BitVec.ofInt _ a ||| BitVec.ofInt _ b).toNat) = IntKind.u32.wrap ((BitVec.ofInt _ b ||| BitVec.ofInt _ a).toNat)
  rw [BitVec.or_comm]
theorem bits_range (op : BinOp) (x y : Int) : 0 ≤ bits op .u32 x y ∧ bits op .u32 x y < 4294967296 := by
  unfold bits
  rw [IntKind.wrap_u32]
  omega
theorem xor_zero32 (y : Int) (h0 : 0 ≤ y) (h1 : y < 4294967296) : bits .xor .u32 0 y = y := by
  show IntKind.u32.wrap (((BitVec.ofInt 32 0 ^^^ BitVec.ofInt 32 y).toNat : Nat) : Int) = y
  have e : BitVec.ofInt 32 0 = 0#32 := rfl
  rw [e, BitVec.zero_xor, BitVec.toNat_ofInt, IntKind.wrap_u32]
  omega
theorem rotr_range (x : Int) (n : Nat) : 0 ≤ rotr x n ∧ rotr x n < 4294967296 := bits_range _ _ _
theorem turned2 (x : Int) (a b : Nat) : turnedR x [a, b] = bits .xor .u32 (rotr x a) (rotr x b) := by
  show bits .xor .u32 (bits .xor .u32 0 (rotr x a)) (rotr x b) = _
  rw [xor_zero32 _ (rotr_range x a).1 (rotr_range x a).2]
theorem turned3 (x : Int) (a b c : Nat) : turnedR x [a, b, c] = bits .xor .u32 (bits .xor .u32 (rotr x a) (rotr x b)) (rotr x c) := by
  show bits .xor .u32 (bits .xor .u32 (bits .xor .u32 0 (rotr x a)) (rotr x b)) (rotr x c) = _
  rw [xor_zero32 _ (rotr_range x a).1 (rotr_range x a).2]

set_option maxHeartbeats 1000000 in
theorem turn_any (x : Int) (n : Nat) (h1 : 1 ≤ n) (h2 : n ≤ 31) (w : World) :
    Calls Tryz.prog 128 #[.int .u32 x, .int .i64 n] w (Rets (.int .u32 (rotr x n)) (fun w' => ∃ m, w' = w.drewN m)) := by
  obtain ⟨m, hm⟩ : ∃ m : Nat, m = 32 - n := ⟨_, rfl⟩
  have hsub : IntKind.i64.wrap (32 - (n : Int)) = (m : Int) := by
    rw [IntKind.wrap_i64]; omega
  have hr : rotr x n = bits .or .u32 (x / 2 ^ n) (x * 2 ^ m % 4294967296) := by rw [hm, or_comm32]; rfl
  have HR := hid hr
  clear hr
  have m1 : min m 32 = m := by omega
  have m2 : min n 32 = n := by omega
  clear hm
  go_enter Tryz.func128, Tryz.ntmps128
  go_wp2_with fail
  go_quiet (fail)
  go_wp2
  go_ret
  exact ⟨by rw [HR.out]; rfl, _, rfl⟩

theorem turnI_any (x n : Int) (h : 1 ≤ n ∧ n ≤ 31) (w : World) :
    Calls Tryz.prog 128 #[.int .u32 x, .int .i64 n] w (Rets (.int .u32 (rotr x n.toNat)) (fun w' => ∃ m, w' = w.drewN m)) := by
  have := turn_any x n.toNat (by omega) (by omega) w
  rwa [show ((n.toNat : Nat) : Int) = n by omega] at this
theorem cell_drewN' {W : World} {a : Addr} {u : Value} (m : Nat) (h : W.cell? a = some u) : (W.drewN m).cell? a = some u := h
theorem bits_orN (m n : Nat) (hm : m < 4294967296) (hn : n < 4294967296) : bits .or .u32 (m : Int) (n : Int) = ((m ||| n : Nat) : Int) := by
  show IntKind.u32.wrap (((BitVec.ofInt 32 (m : Int) ||| BitVec.ofInt 32 (n : Int)).toNat : Nat) : Int) = _
  have e1 : (BitVec.ofInt 32 (m : Int)).toNat = m := by rw [BitVec.toNat_ofInt]; omega
  have e2 : (BitVec.ofInt 32 (n : Int)).toNat = n := by rw [BitVec.toNat_ofInt]; omega
  have hlt : m ||| n < 2 ^ 32 := Nat.or_lt_two_pow hm hn
  rw [BitVec.toNat_or, e1, e2, IntKind.wrap_u32]
  omega
theorem or_add (i a b : Nat) (h : b < 2 ^ i) : 2 ^ i * a ||| b = 2 ^ i * a + b := (Nat.two_pow_add_eq_or_of_lt h a).symm
/-- A word of four bytes: joined one by one, or all at once. -/
theorem word4 (a b c d : Nat) (ha : a < 256) (hb : b < 256) (hc : c < 256) (hd : d < 256) :
    bits .or .u32 (bits .or .u32 (bits .or .u32 ((a : Int) * 16777216) ((b : Int) * 65536)) ((c : Int) * 256)) (d : Int) =
    bits .or .u32 (bits .or .u32 (bits .or .u32 (bits .or .u32 (0 * 256 % 4294967296) (a : Int) * 256 % 4294967296) (b : Int) * 256 % 4294967296) (c : Int) * 256 % 4294967296) (d : Int) := by
  have l1 : bits .or .u32 (0 * 256 % 4294967296) (a : Int) = (a : Int) := by
    have := bits_orN 0 a (by decide) (by omega)
    rw [Nat.zero_or] at this
    exact this
  have l2 : bits .or .u32 ((a : Int) * 256 % 4294967296) (b : Int) = ((256 * a + b : Nat) : Int) := by
    have h := bits_orN (2 ^ 8 * a) b (by omega) (by omega)
    rw [or_add 8 a b (by omega)] at h
    rw [show (a : Int) * 256 % 4294967296 = ((2 ^ 8 * a : Nat) : Int) by omega, h]
  have l3 : bits .or .u32 (((256 * a + b : Nat) : Int) * 256 % 4294967296) (c : Int) = ((65536 * a + 256 * b + c : Nat) : Int) := by
    have h := bits_orN (2 ^ 8 * (256 * a + b)) c (by omega) (by omega)
    rw [or_add 8 _ c (by omega)] at h
    rw [show ((256 * a + b : Nat) : Int) * 256 % 4294967296 = ((2 ^ 8 * (256 * a + b) : Nat) : Int) by omega, h]
    omega
  have l4 : bits .or .u32 (((65536 * a + 256 * b + c : Nat) : Int) * 256 % 4294967296) (d : Int) = ((16777216 * a + 65536 * b + 256 * c + d : Nat) : Int) := by
    have h := bits_orN (2 ^ 8 * (65536 * a + 256 * b + c)) d (by omega) (by omega)
    rw [or_add 8 _ d (by omega)] at h
    rw [show ((65536 * a + 256 * b + c : Nat) : Int) * 256 % 4294967296 = ((2 ^ 8 * (65536 * a + 256 * b + c) : Nat) : Int) by omega, h]
    omega
  have r1 : bits .or .u32 ((a : Int) * 16777216) ((b : Int) * 65536) = ((16777216 * a + 65536 * b : Nat) : Int) := by
    have h := bits_orN (2 ^ 24 * a) (65536 * b) (by omega) (by omega)
    rw [or_add 24 a _ (by omega)] at h
    rw [show (a : Int) * 16777216 = ((2 ^ 24 * a : Nat) : Int) by omega, show (b : Int) * 65536 = ((65536 * b : Nat) : Int) by omega, h]
  have r2 : bits .or .u32 (((16777216 * a + 65536 * b : Nat) : Int)) ((c : Int) * 256) = ((16777216 * a + 65536 * b + 256 * c : Nat) : Int) := by
    have h := bits_orN (2 ^ 16 * (256 * a + b)) (256 * c) (by omega) (by omega)
    rw [or_add 16 _ _ (by omega)] at h
    rw [show ((16777216 * a + 65536 * b : Nat) : Int) = ((2 ^ 16 * (256 * a + b) : Nat) : Int) by omega, show (c : Int) * 256 = ((256 * c : Nat) : Int) by omega, h]
    omega
  have r3 : bits .or .u32 (((16777216 * a + 65536 * b + 256 * c : Nat) : Int)) (d : Int) = ((16777216 * a + 65536 * b + 256 * c + d : Nat) : Int) := by
    have h := bits_orN (2 ^ 8 * (65536 * a + 256 * b + c)) d (by omega) (by omega)
    rw [or_add 8 _ _ (by omega)] at h
    rw [show ((16777216 * a + 65536 * b + 256 * c : Nat) : Int) = ((2 ^ 8 * (65536 * a + 256 * b + c) : Nat) : Int) by omega, h]
    omega
  rw [l1, l2, l3, l4, r1, r2, r3]
theorem word_eq (block : ByteArray) (hs : block.size = 64) (t : Nat) (ht : t < 16) :
    bits .or .u32 (bits .or .u32 (bits .or .u32 ((block[4 * t]'(by omega)).toNat % 4294967296 * 16777216 % 4294967296) ((block[4 * t + 1]'(by omega)).toNat % 4294967296 * 65536 % 4294967296)) ((block[4 * t + 2]'(by omega)).toNat % 4294967296 * 256 % 4294967296)) ((block[4 * t + 3]'(by omega)).toNat % 4294967296) = wordB block t 4 := by
  have g : ∀ j (h : 4 * t + j < block.size), block[4 * t + j]! = block[4 * t + j] := fun j h => getElem!_pos block (4 * t + j) h
  unfold wordB wordB wordB wordB wordB
  rw [g 0 (by omega), g 1 (by omega), g 2 (by omega), g 3 (by omega)]
  have l0 := (block[4 * t]'(by omega)).toNat_lt
  have l1 := (block[4 * t + 1]'(by omega)).toNat_lt
  have l2 := (block[4 * t + 2]'(by omega)).toNat_lt
  have l3 := (block[4 * t + 3]'(by omega)).toNat_lt
  have h := word4 (block[4 * t]'(by omega)).toNat (block[4 * t + 1]'(by omega)).toNat (block[4 * t + 2]'(by omega)).toNat (block[4 * t + 3]'(by omega)).toNat l0 l1 l2 l3
  rw [show (((block[4 * t]'(by omega)).toNat : Int) % 4294967296 * 16777216 % 4294967296) = ((block[4 * t]'(by omega)).toNat : Int) * 16777216 by omega, show (((block[4 * t + 1]'(by omega)).toNat : Int) % 4294967296 * 65536 % 4294967296) = ((block[4 * t + 1]'(by omega)).toNat : Int) * 65536 by omega, show (((block[4 * t + 2]'(by omega)).toNat : Int) % 4294967296 * 256 % 4294967296) = ((block[4 * t + 2]'(by omega)).toNat : Int) * 256 by omega, show (((block[4 * t + 3]'(by omega)).toNat : Int) % 4294967296) = ((block[4 * t + 3]'(by omega)).toNat : Int) by omega]
  exact h
end Go.Proofs.YthglfmacjoecgaaGreatDoor
