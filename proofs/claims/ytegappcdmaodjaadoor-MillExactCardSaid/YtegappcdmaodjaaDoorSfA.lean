/- apiaryref02.turn walked; words turned and joined, in plain words. -/
import Derived.Test.YtegappcdmaodjaaDoorStC
namespace Go.Proofs.YtegappcdmaodjaaDoor
open Go.RowKit

theorem or_comm32 (a b : Int) : bits .or .u32 a b = bits .or .u32 b a := by
  show IntKind.u32.wrap ((BitVec.ofInt _ a ||| BitVec.ofInt _ b).toNat) = IntKind.u32.wrap ((BitVec.ofInt _ b ||| BitVec.ofInt _ a).toNat)
  rw [BitVec.or_comm]
theorem bits_range (op : BinOp) (x y : Int) : 0 ≤ bits op .u32 x y ∧ bits op .u32 x y < 4294967296 := by
  unfold bits
  rw [IntKind.wrap_u32]
  omega
theorem xor_zero32 (y : Int) (h0 : 0 ≤ y) (h1 : y < 4294967296) : bits .xor .u32 0 y = y := by
  show IntKind.u32.wrap (((BitVec.ofInt 32 0 ^^^ BitVec.ofInt 32 y).toNat : Nat) : Int) = y
  have e : BitVec.ofInt 32 0 = 0#32 := rfl
  rw [e, BitVec.zero_xor, BitVec.toNat_ofInt, IntKind.wrap_u32]
  omega
theorem rotr_range (x : Int) (n : Nat) : 0 ≤ rotr x n ∧ rotr x n < 4294967296 := bits_range _ _ _
theorem turned2 (x : Int) (a b : Nat) : turnedR x [a, b] = bits .xor .u32 (rotr x a) (rotr x b) := by
  show bits .xor .u32 (bits .xor .u32 0 (rotr x a)) (rotr x b) = _
  rw [xor_zero32 _ (rotr_range x a).1 (rotr_range x a).2]
theorem turned3 (x : Int) (a b c : Nat) : turnedR x [a, b, c] = bits .xor .u32 (bits .xor .u32 (rotr x a) (rotr x b)) (rotr x c) := by
  show bits .xor .u32 (bits .xor .u32 (bits .xor .u32 0 (rotr x a)) (rotr x b)) (rotr x c) = _
  rw [xor_zero32 _ (rotr_range x a).1 (rotr_range x a).2]

set_option maxHeartbeats 1000000 in
theorem turn_any (x : Int) (n : Nat) (h1 : 1 ≤ n) (h2 : n ≤ 31) (w : World) :
    Calls Tryd.prog 54 #[.int .u32 x, .int .i64 n] w (Rets (.int .u32 (rotr x n)) (fun w' => ∃ m, w' = w.drewN m)) := by
  obtain ⟨m, hm⟩ : ∃ m : Nat, m = 32 - n := ⟨_, rfl⟩
  have hsub : IntKind.i64.wrap (32 - (n : Int)) = (m : Int) := by
    rw [IntKind.wrap_i64]; omega
  have hr : rotr x n = bits .or .u32 (x / 2 ^ n) (x * 2 ^ m % 4294967296) := by rw [hm, or_comm32]; rfl
  have HR := hid hr
  clear hr
  have m1 : min m 32 = m := by omega
  have m2 : min n 32 = n := by omega
  clear hm
  go_enter Tryd.func54, Tryd.ntmps54
  go_wp2_with fail
  go_quiet (fail)
  go_wp2
  go_ret
  exact ⟨by rw [HR.out]; rfl, _, rfl⟩

theorem turnI_any (x n : Int) (h : 1 ≤ n ∧ n ≤ 31) (w : World) :
    Calls Tryd.prog 54 #[.int .u32 x, .int .i64 n] w (Rets (.int .u32 (rotr x n.toNat)) (fun w' => ∃ m, w' = w.drewN m)) := by
  have := turn_any x n.toNat (by omega) (by omega) w
  rwa [show ((n.toNat : Nat) : Int) = n by omega] at this
theorem cell_drewN' {W : World} {a : Addr} {u : Value} (m : Nat) (h : W.cell? a = some u) : (W.drewN m).cell? a = some u := h
theorem bits_orN (m n : Nat) (hm : m < 4294967296) (hn : n < 4294967296) : bits .or .u32 (m : Int) (n : Int) = ((m ||| n : Nat) : Int) := by
  show IntKind.u32.wrap (((BitVec.ofInt 32 (m : Int) ||| BitVec.ofInt 32 (n : Int)).toNat : Nat) : Int) = _
  have e1 : (BitVec.ofInt 32 (m : Int)).toNat = m := by rw [BitVec.toNat_ofInt]; omega
  have e2 : (BitVec.ofInt 32 (n : Int)).toNat = n := by rw [BitVec.toNat_ofInt]; omega
  have hlt : m ||| n < 2 ^ 32 := Nat.or_lt_two_pow hm hn
  rw [BitVec.toNat_or, e1, e2, IntKind.wrap_u32]
  omega
theorem or_add (i a b : Nat) (h : b < 2 ^ i) : 2 ^ i * a ||| b = 2 ^ i * a + b := (Nat.two_pow_add_eq_or_of_lt h a).symm
/-- A word of four bytes: joined one by one, or all at once. -/
theorem word4 (a b c d : Nat) (ha : a < 256) (hb : b < 256) (hc : c < 256) (hd : d < 256) :
    bits .or .u32 (bits .or .u32 (bits .or .u32 ((a : Int) * 16777216) ((b : Int) * 65536)) ((c : Int) * 256)) (d : Int) =
    bits .or .u32 (bits .or .u32 (bits .or .u32 (bits .or .u32 (0 * 256 % 4294967296) (a : Int) * 256 % 4294967296) (b : Int) * 256 % 4294967296) (c : Int) * 256 % 4294967296) (d : Int) := by
  have l1 : bits .or .u32 (0 * 256 % 4294967296) (a : Int) = (a : Int) := by
    have := bits_orN 0 a (by decide) (by omega)
    rw [Nat.zero_or] at this
    exact this
  have l2 : bits .or .u32 ((a : Int) * 256 % 4294967296) (b : Int) = ((256 * a + b : Nat) : Int) := by
    have h := bits_orN (2 ^ 8 * a) b (by omega) (by omega)
    rw [or_add 8 a b (by omega)] at h
    rw [show (a : Int) * 256 % 4294967296 = ((2 ^ 8 * a : Nat) : Int) by omega, h]
  have l3 : bits .or .u32 (((256 * a + b : Nat) : Int) * 256 % 4294967296) (c : Int) = ((65536 * a + 256 * b + c : Nat) : Int) := by
    have h := bits_orN (2 ^ 8 * (256 * a + b)) c (by omega) (by omega)
    rw [or_add 8 _ c (by omega)] at h
    rw [show ((256 * a + b : Nat) : Int) * 256 % 4294967296 = ((2 ^ 8 * (256 * a + b) : Nat) : Int) by omega, h]
    omega
  have l4 : bits .or .u32 (((65536 * a + 256 * b + c : Nat) : Int) * 256 % 4294967296) (d : Int) = ((16777216 * a + 65536 * b + 256 * c + d : Nat) : Int) := by
    have h := bits_orN (2 ^ 8 * (65536 * a + 256 * b + c)) d (by omega) (by omega)
    rw [or_add 8 _ d (by omega)] at h
    rw [show ((65536 * a + 256 * b + c : Nat) : Int) * 256 % 4294967296 = ((2 ^ 8 * (65536 * a + 256 * b + c) : Nat) : Int) by omega, h]
    omega
  have r1 : bits .or .u32 ((a : Int) * 16777216) ((b : Int) * 65536) = ((16777216 * a + 65536 * b : Nat) : Int) := by
    have h := bits_orN (2 ^ 24 * a) (65536 * b) (by omega) (by omega)
    rw [or_add 24 a _ (by omega)] at h
    rw [show (a : Int) * 16777216 = ((2 ^ 24 * a : Nat) : Int) by omega, show (b : Int) * 65536 = ((65536 * b : Nat) : Int) by omega, h]
  have r2 : bits .or .u32 (((16777216 * a + 65536 * b : Nat) : Int)) ((c : Int) * 256) = ((16777216 * a + 65536 * b + 256 * c : Nat) : Int) := by
    have h := bits_orN (2 ^ 16 * (256 * a + b)) (256 * c) (by omega) (by omega)
    rw [or_add 16 _ _ (by omega)] at h
    rw [show ((16777216 * a + 65536 * b : Nat) : Int) = ((2 ^ 16 * (256 * a + b) : Nat) : Int) by omega, show (c : Int) * 256 = ((256 * c : Nat) : Int) by omega, h]
    omega
  have r3 : bits .or .u32 (((16777216 * a + 65536 * b + 256 * c : Nat) : Int)) (d : Int) = ((16777216 * a + 65536 * b + 256 * c + d : Nat) : Int) := by
    have h := bits_orN (2 ^ 8 * (65536 * a + 256 * b + c)) d (by omega) (by omega)
    rw [or_add 8 _ _ (by omega)] at h
    rw [show ((16777216 * a + 65536 * b + 256 * c : Nat) : Int) = ((2 ^ 8 * (65536 * a + 256 * b + c) : Nat) : Int) by omega, h]
    omega
  rw [l1, l2, l3, l4, r1, r2, r3]
theorem word_eq (block : ByteArray) (hs : block.size = 64) (t : Nat) (ht : t < 16) :
    bits .or .u32 (bits .or .u32 (bits .or .u32 ((block[4 * t]'(by omega)).toNat % 4294967296 * 16777216 % 4294967296) ((block[4 * t + 1]'(by omega)).toNat % 4294967296 * 65536 % 4294967296)) ((block[4 * t + 2]'(by omega)).toNat % 4294967296 * 256 % 4294967296)) ((block[4 * t + 3]'(by omega)).toNat % 4294967296) = wordB block t 4 := by
  have g : ∀ j (h : 4 * t + j < block.size), block[4 * t + j]! = block[4 * t + j] := fun j h => getElem!_pos block (4 * t + j) h
  unfold wordB wordB wordB wordB wordB
  rw [g 0 (by omega), g 1 (by omega), g 2 (by omega), g 3 (by omega)]
  have l0 := (block[4 * t]'(by omega)).toNat_lt
  have l1 := (block[4 * t + 1]'(by omega)).toNat_lt
  have l2 := (block[4 * t + 2]'(by omega)).toNat_lt
  have l3 := (block[4 * t + 3]'(by omega)).toNat_lt
  have h := word4 (block[4 * t]'(by omega)).toNat (block[4 * t + 1]'(by omega)).toNat (block[4 * t + 2]'(by omega)).toNat (block[4 * t + 3]'(by omega)).toNat l0 l1 l2 l3
  rw [show (((block[4 * t]'(by omega)).toNat : Int) % 4294967296 * 16777216 % 4294967296) = ((block[4 * t]'(by omega)).toNat : Int) * 16777216 by omega, show (((block[4 * t + 1]'(by omega)).toNat : Int) % 4294967296 * 65536 % 4294967296) = ((block[4 * t + 1]'(by omega)).toNat : Int) * 65536 by omega, show (((block[4 * t + 2]'(by omega)).toNat : Int) % 4294967296 * 256 % 4294967296) = ((block[4 * t + 2]'(by omega)).toNat : Int) * 256 by omega, show (((block[4 * t + 3]'(by omega)).toNat : Int) % 4294967296) = ((block[4 * t + 3]'(by omega)).toNat : Int) by omega]
  exact h
end Go.Proofs.YtegappcdmaodjaaDoor
