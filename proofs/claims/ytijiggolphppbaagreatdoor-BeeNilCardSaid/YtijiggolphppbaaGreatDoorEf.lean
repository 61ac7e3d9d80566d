/- The digest by numbers is the digest. -/
import Derived.Test.YtijiggolphppbaaGreatDoorStH
import Derived.Test.YtijiggolphppbaaGreatDoorEb
namespace Go.Proofs.YtijiggolphppbaaGreatDoor
open Go.RowKit
def M32 : Nat := 4294967296
def rotN (x n m : Nat) : Nat := Nat.lor (Nat.shiftRight x n) (Nat.mod (Nat.shiftLeft x m) M32)
theorem wrapN (n : Nat) : IntKind.u32.wrap (n : Int) = ((n % M32 : Nat) : Int) := by
  unfold IntKind.wrap M32
  simp [IntKind.bits, IntKind.signed]
theorem bitsN_and {a b : Nat} (ha : a < M32) (hb : b < M32) : bits .and .u32 (a : Int) (b : Int) = ((Nat.land a b : Nat) : Int) := by
  unfold M32 at ha hb
  have h1 : (BitVec.ofInt 32 (a : Int) &&& BitVec.ofInt 32 (b : Int)).toNat = a &&& b := by
    rw [BitVec.toNat_and]
    simp only [BitVec.toNat_ofInt]
    congr 1 <;> omega
  have h2 : a &&& b < 4294967296 := Nat.and_lt_two_pow a (n := 32) hb
  show IntKind.u32.wrap (((BitVec.ofInt 32 (a : Int) &&& BitVec.ofInt 32 (b : Int)).toNat : Nat) : Int) = _
  rw [h1, wrapN]
  unfold M32
  rw [Nat.mod_eq_of_lt h2]
  rfl
theorem bitsN_or {a b : Nat} (ha : a < M32) (hb : b < M32) : bits .or .u32 (a : Int) (b : Int) = ((Nat.lor a b : Nat) : Int) := by
  unfold M32 at ha hb
  have h1 : (BitVec.ofInt 32 (a : Int) ||| BitVec.ofInt 32 (b : Int)).toNat = a ||| b := by
    rw [BitVec.toNat_or]
    simp only [BitVec.toNat_ofInt]
    congr 1 <;> omega
  have h2 : a ||| b < 4294967296 := Nat.or_lt_two_pow (n := 32) ha hb
  show IntKind.u32.wrap (((BitVec.ofInt 32 (a : Int) ||| BitVec.ofInt 32 (b : Int)).toNat : Nat) : Int) = _
  rw [h1, wrapN]
  unfold M32
  rw [Nat.mod_eq_of_lt h2]
  rfl
theorem bitsN_xor {a b : Nat} (ha : a < M32) (hb : b < M32) : bits .xor .u32 (a : Int) (b : Int) = ((Nat.xor a b : Nat) : Int) := by
  unfold M32 at ha hb
  have h1 : (BitVec.ofInt 32 (a : Int) ^^^ BitVec.ofInt 32 (b : Int)).toNat = a ^^^ b := by
    rw [BitVec.toNat_xor]
    simp only [BitVec.toNat_ofInt]
    congr 1 <;> omega
  have h2 : a ^^^ b < 4294967296 := Nat.xor_lt_two_pow (n := 32) ha hb
  show IntKind.u32.wrap (((BitVec.ofInt 32 (a : Int) ^^^ BitVec.ofInt 32 (b : Int)).toNat : Nat) : Int) = _
  rw [h1, wrapN]
  unfold M32
  rw [Nat.mod_eq_of_lt h2]
  rfl
theorem land_lt {a b : Nat} (ha : a < M32) : Nat.land a b < M32 := Nat.lt_of_le_of_lt Nat.and_le_left ha
theorem lor_lt {a b : Nat} (ha : a < M32) (hb : b < M32) : Nat.lor a b < M32 := Nat.or_lt_two_pow (n := 32) ha hb
theorem xor_lt {a b : Nat} (ha : a < M32) (hb : b < M32) : Nat.xor a b < M32 := Nat.xor_lt_two_pow (n := 32) ha hb
theorem rotN_lt {x n m : Nat} (hx : x < M32) : rotN x n m < M32 := by
  refine lor_lt ?_ (Nat.mod_lt _ (by decide))
  show x >>> n < M32
  rw [Nat.shiftRight_eq_div_pow]
  exact Nat.lt_of_le_of_lt (Nat.div_le_self _ _) hx
theorem rotrN {x n m : Nat} (hx : x < M32) (hm : m = 32 - n) : rotr (x : Int) n = (rotN x n m : Nat) := by
  subst hm
  unfold rotr rotN
  have e1 : (x : Int) * 2 ^ (32 - n) % 4294967296 = ((Nat.mod (Nat.shiftLeft x (32 - n)) M32 : Nat) : Int) := by
    show _ = (((x <<< (32 - n)) % M32 : Nat) : Int)
    rw [Nat.shiftLeft_eq]
    unfold M32
    simp [Int.natCast_emod, Int.natCast_mul, Int.natCast_pow]
  have e2 : (x : Int) / 2 ^ n = ((Nat.shiftRight x n : Nat) : Int) := by
    show _ = ((x >>> n : Nat) : Int)
    rw [Nat.shiftRight_eq_div_pow]
    simp [Int.natCast_ediv, Int.natCast_pow]
  rw [e1, e2, bitsN_or (show Nat.mod (Nat.shiftLeft x (32 - n)) M32 < M32 from Nat.mod_lt _ (by decide)) (by
    show x >>> n < M32
    rw [Nat.shiftRight_eq_div_pow]
    exact Nat.lt_of_le_of_lt (Nat.div_le_self _ _) hx)]
  congr 1
  exact Nat.or_comm _ _
theorem xor0 {a : Nat} (ha : a < M32) : bits .xor .u32 0 (a : Int) = (a : Int) := by
  have := bitsN_xor (a := 0) (b := a) (by decide) ha
  simpa using this
theorem turned3 {x a b c : Nat} (hx : x < M32) : turnedR (x : Int) [a, b, c] = ((Nat.xor (Nat.xor (rotN x a (32 - a)) (rotN x b (32 - b))) (rotN x c (32 - c)) : Nat) : Int) := by
  unfold turnedR
  simp only [List.foldl_cons, List.foldl_nil]
  rw [rotrN hx rfl, rotrN hx rfl, rotrN hx rfl, xor0 (rotN_lt hx), bitsN_xor (rotN_lt hx) (rotN_lt hx), bitsN_xor (xor_lt (rotN_lt hx) (rotN_lt hx)) (rotN_lt hx)]
theorem turned2 {x a b : Nat} (hx : x < M32) : turnedR (x : Int) [a, b] = ((Nat.xor (rotN x a (32 - a)) (rotN x b (32 - b)) : Nat) : Int) := by
  unfold turnedR
  simp only [List.foldl_cons, List.foldl_nil]
  rw [rotrN hx rfl, rotrN hx rfl, xor0 (rotN_lt hx), bitsN_xor (rotN_lt hx) (rotN_lt hx)]
def s0N (x : Nat) : Nat := Nat.xor (Nat.xor (rotN x 7 25) (rotN x 18 14)) (Nat.shiftRight x 3)
def s1N (x : Nat) : Nat := Nat.xor (Nat.xor (rotN x 17 15) (rotN x 19 13)) (Nat.shiftRight x 10)
theorem shr_lt {x n : Nat} (hx : x < M32) : Nat.shiftRight x n < M32 := by
  show x >>> n < M32
  rw [Nat.shiftRight_eq_div_pow]
  exact Nat.lt_of_le_of_lt (Nat.div_le_self _ _) hx
theorem sig0 {x : Nat} (hx : x < M32) : sig (x : Int) 7 18 8 = (s0N x : Nat) := by
  unfold sig s0N
  rw [turned2 hx, show (x : Int) / 8 = ((Nat.shiftRight x 3 : Nat) : Int) by
    show _ = ((x >>> 3 : Nat) : Int)
    rw [Nat.shiftRight_eq_div_pow]; simp [Int.natCast_ediv]]
  exact bitsN_xor (xor_lt (rotN_lt hx) (rotN_lt hx)) (shr_lt hx)
theorem sig1 {x : Nat} (hx : x < M32) : sig (x : Int) 17 19 1024 = (s1N x : Nat) := by
  unfold sig s1N
  rw [turned2 hx, show (x : Int) / 1024 = ((Nat.shiftRight x 10 : Nat) : Int) by
    show _ = ((x >>> 10 : Nat) : Int)
    rw [Nat.shiftRight_eq_div_pow]; simp [Int.natCast_ediv]]
  exact bitsN_xor (xor_lt (rotN_lt hx) (rotN_lt hx)) (shr_lt hx)
def chN (e f g : Nat) : Nat := Nat.xor (Nat.land e f) (Nat.land (Nat.xor 4294967295 e) g)
def majN (a b c : Nat) : Nat := Nat.xor (Nat.xor (Nat.land a b) (Nat.land a c)) (Nat.land b c)
theorem ch_nat {e f g : Nat} (he : e < M32) (hf : f < M32) (hg : g < M32) : ch (e : Int) f g = (chN e f g : Nat) := by
  unfold ch chN
  rw [show IntKind.u32.max = ((4294967295 : Nat) : Int) from rfl, bitsN_and he hf, bitsN_xor (by decide) he, bitsN_and (xor_lt (by decide) he) hg, bitsN_xor (land_lt he) (land_lt (xor_lt (by decide) he))]
theorem maj_nat {a b c : Nat} (ha : a < M32) (hb : b < M32) (hc : c < M32) : maj (a : Int) b c = (majN a b c : Nat) := by
  unfold maj majN
  rw [bitsN_and ha hb, bitsN_and ha hc, bitsN_and hb hc, bitsN_xor (land_lt ha) (land_lt ha), bitsN_xor (xor_lt (land_lt ha) (land_lt ha)) (land_lt hb)]
/-- A word's number. -/
def schN (block : ByteArray) (i : Nat) : Nat := (schW block i).toNat
theorem wordB_nat (block : ByteArray) (t : Nat) : ∀ j, ∃ n : Nat, n < M32 ∧ wordB block t j = (n : Int)
  | 0 => ⟨0, by decide, rfl⟩
  | j + 1 => by
    obtain ⟨n, h1, h2⟩ := wordB_nat block t j
    refine ⟨Nat.lor (n * 256 % 4294967296) (block[4 * t + j]!).toNat, lor_lt (Nat.mod_lt _ (by decide)) ?_, ?_⟩
    · have := UInt8.toNat_lt (block[4 * t + j]!)
      unfold M32; omega
    · have hb : (block[4 * t + j]!).toNat < M32 := by
        have := UInt8.toNat_lt (block[4 * t + j]!)
        unfold M32; omega
      have hm : n * 256 % 4294967296 < M32 := Nat.mod_lt _ (by decide)
      rw [← bitsN_or hm hb]
      show bits .or .u32 (wordB block t j * 256 % 4294967296) _ = _
      rw [h2]
      congr 1
theorem schW_nat (block : ByteArray) : ∀ i, (schN block i) < M32 ∧ schW block i = (schN block i : Nat) := by
  intro i
  have key : ∃ n : Nat, n < M32 ∧ schW block i = (n : Int) := by
    induction i using Nat.strongRecOn with
    | _ i ih =>
      unfold schW
      split
      · exact wordB_nat block i 4
      · rename_i h
        obtain ⟨a, a1, a2⟩ := ih (i - 2) (by omega)
        obtain ⟨b, b1, b2⟩ := ih (i - 7) (by omega)
        obtain ⟨c, c1, c2⟩ := ih (i - 15) (by omega)
        obtain ⟨d, d1, d2⟩ := ih (i - 16) (by omega)
        rw [a2, b2, c2, d2, sig1 a1, sig0 c1, ← Int.natCast_add, wrapN, ← Int.natCast_add, wrapN, ← Int.natCast_add, wrapN]
        exact ⟨_, Nat.mod_lt _ (by decide), rfl⟩
  obtain ⟨n, h1, h2⟩ := key
  have : schN block i = n := by unfold schN; rw [h2]; rfl
  rw [this]
  exact ⟨h1, h2⟩
theorem schN_step (block : ByteArray) (i : Nat) : schN block (i + 16) = (schN block i + s0N (schN block (i + 1)) + schN block (i + 9) + s1N (schN block (i + 14))) % M32 := by
  have h := (schW_nat block (i + 16)).2
  unfold schW at h
  rw [dif_neg (by omega)] at h
  rw [show i + 16 - 2 = i + 14 by omega, show i + 16 - 7 = i + 9 by omega, show i + 16 - 15 = i + 1 by omega, show i + 16 - 16 = i by omega, (schW_nat block (i + 14)).2, (schW_nat block (i + 9)).2, (schW_nat block (i + 1)).2, (schW_nat block i).2,
    sig1 (schW_nat block (i + 14)).1, sig0 (schW_nat block (i + 1)).1, ← Int.natCast_add, wrapN, ← Int.natCast_add, wrapN, ← Int.natCast_add, wrapN] at h
  have h2 := Int.ofNat_inj.1 h
  rw [← h2]
  unfold M32
  omega
/- the schedule, the eldest word first -/
def sched : Nat → List Nat → List Nat
  | n + 1, w :: x :: l => w :: sched n ((x :: l) ++ [Nat.mod (w + s0N x + (x :: l).getD 8 0 + s1N ((x :: l).getD 13 0)) M32])
  | _, _ => []
theorem sched_ok (block : ByteArray) : ∀ (n i : Nat), sched n ((List.range' i 16).map (schN block)) = (List.range' i n).map (schN block)
  | 0, i => rfl
  | n + 1, i => by
    have e : (List.range' i 16).map (schN block) = schN block i :: schN block (i + 1) :: (List.range' (i + 2) 14).map (schN block) := by
      rw [show (16 : Nat) = 14 + 1 + 1 from rfl, List.range'_succ, List.range'_succ]
      rfl
    rw [e, show List.range' i (n + 1) = i :: List.range' (i + 1) n from List.range'_succ, List.map_cons]
    show schN block i :: sched n _ = _
    congr 1
    rw [← sched_ok block n (i + 1)]
    congr 1
    have g8 : (schN block (i + 1) :: (List.range' (i + 2) 14).map (schN block)).getD 8 0 = schN block (i + 9) := by
      simp [List.getD_eq_getElem?_getD]
    have g13 : (schN block (i + 1) :: (List.range' (i + 2) 14).map (schN block)).getD 13 0 = schN block (i + 14) := by
      simp [List.getD_eq_getElem?_getD]
    rw [g8, g13]
    have hs : Nat.mod (schN block i + s0N (schN block (i + 1)) + schN block (i + 9) + s1N (schN block (i + 14))) M32 = schN block (i + 16) := (schN_step block i).symm
    rw [hs]
    have e2 : (List.range' (i + 1) 16).map (schN block) = (schN block (i + 1) :: (List.range' (i + 2) 14).map (schN block)) ++ [schN block (i + 16)] := by
      rw [show (16 : Nat) = 15 + 1 from rfl, List.range'_concat, List.map_append, show (15 : Nat) = 14 + 1 from rfl, List.range'_succ, List.map_cons]
      simp
    rw [e2]
/-- A state. -/
def StN (f : Nat → Int) (L : List Nat) : Prop := L.length = 8 ∧ ∀ i, i < 8 → L.getD i 0 < M32 ∧ f i = (L.getD i 0 : Nat)
def t1N (e f g h k w : Nat) : Nat := h + Nat.xor (Nat.xor (rotN e 6 26) (rotN e 11 21)) (rotN e 25 7) + chN e f g + k + w
def t2N (a b c : Nat) : Nat := Nat.xor (Nat.xor (rotN a 2 30) (rotN a 13 19)) (rotN a 22 10) + majN a b c
def roundN (L : List Nat) (k w : Nat) : List Nat := match L with
  | [a, b, c, d, e, f, g, h] => [Nat.mod (t1N e f g h k w + t2N a b c) M32, a, b, c, Nat.mod (d + t1N e f g h k w) M32, e, f, g]
  | l => l
theorem round_ok {F : Nat → Int} {L : List Nat} (h : StN F L) (k w : Nat) : StN (roundF F (k : Int) (w : Int)) (roundN L k w) := by
  obtain ⟨hl, hs⟩ := h
  match L, hl with
  | [a, b, c, d, e, f, g, h], _ =>
    have h0 := hs 0 (by omega)
    have h1 := hs 1 (by omega)
    have h2 := hs 2 (by omega)
    have h3 := hs 3 (by omega)
    have h4 := hs 4 (by omega)
    have h5 := hs 5 (by omega)
    have h6 := hs 6 (by omega)
    have h7 := hs 7 (by omega)
    simp only [List.getD_cons_zero, List.getD_cons_succ] at h0 h1 h2 h3 h4 h5 h6 h7
    have ht1 : t1R F (k : Int) (w : Int) = ((t1N e f g h k w % M32 : Nat) : Int) := by
      unfold t1R
      rw [h4.2, h5.2, h6.2, h7.2, turned3 h4.1, ch_nat h4.1 h5.1 h6.1, ← Int.natCast_add, wrapN, ← Int.natCast_add, wrapN, ← Int.natCast_add, wrapN, ← Int.natCast_add, wrapN]
      congr 1
      unfold t1N M32
      simp only [Nat.reduceSub]
      omega
    have ht2 : t2R F = ((t2N a b c % M32 : Nat) : Int) := by
      unfold t2R
      rw [h0.2, h1.2, h2.2, turned3 h0.1, maj_nat h0.1 h1.1 h2.1, ← Int.natCast_add, wrapN]
      rfl
    refine ⟨rfl, fun i hi => ?_⟩
    match i, hi with
    | 0, _ =>
      refine ⟨Nat.mod_lt _ (by decide), ?_⟩
      show IntKind.u32.wrap (t1R F k w + t2R F) = ((Nat.mod (t1N e f g h k w + t2N a b c) M32 : Nat) : Int)
      rw [ht1, ht2, ← Int.natCast_add, wrapN]
      congr 1
      show _ = (t1N e f g h k w + t2N a b c) % M32
      unfold M32
      omega
    | 1, _ => exact ⟨h0.1, h0.2⟩
    | 2, _ => exact ⟨h1.1, h1.2⟩
    | 3, _ => exact ⟨h2.1, h2.2⟩
    | 4, _ =>
      refine ⟨Nat.mod_lt _ (by decide), ?_⟩
      show IntKind.u32.wrap (F 3 + t1R F k w) = ((Nat.mod (d + t1N e f g h k w) M32 : Nat) : Int)
      rw [ht1, h3.2, ← Int.natCast_add, wrapN]
      congr 1
      show _ = (d + t1N e f g h k w) % M32
      unfold M32
      omega
    | 5, _ => exact ⟨h4.1, h4.2⟩
    | 6, _ => exact ⟨h5.1, h5.2⟩
    | 7, _ => exact ⟨h6.1, h6.2⟩
def roundsN : List Nat → List Nat → List Nat → List Nat
  | w :: ws, k :: ks, L => roundsN ws ks (roundN L k w)
  | _, _, L => L
def kwN : List Nat := wordsL.map Int.toNat
theorem rounds_ok (block : ByteArray) (F : Nat → Int) {L : List Nat} : ∀ (n i : Nat), i + n = 64 → StN (rounds block F i) L → StN (rounds block F 64) (roundsN ((List.range' i n).map (schN block)) (kwN.drop i) L)
  | 0, i, hi, h => by
    obtain rfl : i = 64 := by omega
    exact h
  | n + 1, i, hi, h => by
    have hk : i < kwN.length := by rw [show kwN.length = 64 by decide]; omega
    rw [List.range'_succ, List.map_cons, List.drop_eq_getElem_cons hk]
    show StN _ (roundsN _ _ (roundN L kwN[i] (schN block i)))
    refine rounds_ok block F (L := roundN L kwN[i] (schN block i)) n (i + 1) (by omega) ?_
    have hw : wordsL.getD i 0 = ((kwN[i] : Nat) : Int) := by
      have hall : ∀ j : Fin 64, wordsL.getD j.1 0 = (((wordsL.map Int.toNat).getD j.1 0 : Nat) : Int) := by decide
      have h64 : kwN.length = 64 := by decide
      have := hall ⟨i, by omega⟩
      rw [this]
      congr 1
      show (kwN[i]?).getD 0 = _
      rw [List.getElem?_eq_getElem hk]
      rfl
    show StN (roundF (rounds block F i) (wordsL.getD i 0) (schW block i)) _
    rw [hw, (schW_nat block i).2]
    exact round_ok h _ _
def addL : List Nat → List Nat → List Nat
  | a :: x, b :: y => Nat.mod (a + b) M32 :: addL x y
  | _, _ => []
theorem addL_ok : ∀ (x y : List Nat) (i : Nat), x.length = y.length → (addL x y).length = x.length ∧ (i < x.length → (addL x y).getD i 0 = (x.getD i 0 + y.getD i 0) % M32)
  | [], [], i, _ => ⟨rfl, fun h => absurd h (Nat.not_lt_zero i)⟩
  | a :: x, b :: y, i, h => by
    have hl : x.length = y.length := by simpa using h
    refine ⟨by simp [addL, (addL_ok x y 0 hl).1], fun hi => ?_⟩
    cases i with
    | zero => rfl
    | succ i => simpa [addL] using (addL_ok x y i hl).2 (by simpa using hi)
/-- A block. -/
theorem mix_ok {block : ByteArray} {F : Nat → Int} {L : List Nat} (h : StN F L) : StN (mixR block F) (addL L (roundsN (sched 64 ((List.range' 0 16).map (schN block))) kwN L)) := by
  have hr := rounds_ok block F (L := L) 64 0 rfl h
  rw [List.drop_zero] at hr
  rw [sched_ok]
  obtain ⟨h1, h2⟩ := h
  obtain ⟨h3, h4⟩ := hr
  have ha := fun i => addL_ok L (roundsN ((List.range' 0 64).map (schN block)) kwN L) i (by rw [h1, h3])
  refine ⟨by rw [(ha 0).1, h1], fun i hi => ?_⟩
  rw [(ha i).2 (by omega)]
  refine ⟨Nat.mod_lt _ (by decide), ?_⟩
  show IntKind.u32.wrap (F i + rounds block F 64 i) = _
  rw [(h2 i hi).2, (h4 i hi).2, ← Int.natCast_add, wrapN]
end Go.Proofs.YtijiggolphppbaaGreatDoor
namespace Go.Proofs.YtijiggolphppbaaGreatDoor
open Go.RowKit Go.Proofs.YtijiggolphppbaaGreatDoor.Ev
def orN (n b : Nat) : Nat := Nat.lor (Nat.mod (n * 256) 4294967296) b
def wordN (a b c d : Nat) : Nat := orN (orN (orN (orN 0 a) b) c) d
def wordsN : Nat → List Nat → List Nat
  | n + 1, a :: b :: c :: d :: l => wordN a b c d :: wordsN n l
  | _, _ => []
def small (l : List Nat) : Prop := ∀ b ∈ l, b < 256
theorem bsN_at {l : List Nat} (hl : small l) {i : Nat} {b : Nat} (h : l[i]? = some b) : ((bsN l)[i]!).toNat = b := by
  have hlt := (List.getElem?_eq_some_iff.1 h).1
  have hb := hl b (List.mem_of_getElem? h)
  have h5 : i < (bsN l).size := by rw [bsN_size]; exact hlt
  have h6 : (bsN l)[i]'h5 = UInt8.ofNat b := by
    have h7 : (l.map UInt8.ofNat)[i]? = some (UInt8.ofNat b) := by simp [h]
    show (bsN l).data[i] = _
    simp only [bsN, List.getElem_toArray]
    exact (List.getElem?_eq_some_iff.1 h7).2
  rw [getElem!_pos (bsN l) i h5, h6, UInt8.toNat_ofNat', Nat.mod_eq_of_lt (by simpa using hb)]
theorem orN_lt {n b : Nat} (hb : b < 256) : orN n b < M32 := lor_lt (show Nat.mod (n * 256) 4294967296 < M32 from Nat.mod_lt _ (by decide)) (by unfold M32; omega)
theorem word_step {l : List Nat} (hl : small l) {t j n b : Nat} (h : wordB (bsN l) t j = (n : Int)) (hb : l[4 * t + j]? = some b) : wordB (bsN l) t (j + 1) = (orN n b : Nat) := by
  have hb2 := hl b (List.mem_of_getElem? hb)
  show bits .or .u32 (wordB (bsN l) t j * 256 % 4294967296) _ = _
  rw [h, bsN_at hl hb, show ((n : Int) * 256 % 4294967296) = ((Nat.mod (n * 256) 4294967296 : Nat) : Int) by
    show _ = ((n * 256 % 4294967296 : Nat) : Int)
    simp [Int.natCast_emod, Int.natCast_mul]]
  exact bitsN_or (show Nat.mod (n * 256) 4294967296 < M32 from Nat.mod_lt _ (by decide)) (by unfold M32; omega)
theorem schN_word {l : List Nat} (hl : small l) {t a b c d : Nat} (ht : t < 16) (h0 : l[4 * t]? = some a) (h1 : l[4 * t + 1]? = some b) (h2 : l[4 * t + 2]? = some c) (h3 : l[4 * t + 3]? = some d) : schN (bsN l) t = wordN a b c d := by
  have hw : wordB (bsN l) t 4 = (wordN a b c d : Nat) := word_step hl (word_step hl (word_step hl (word_step hl (n := 0) rfl h0) h1) h2) h3
  unfold schN schW
  rw [dif_pos ht, hw]
  rfl
theorem wordsN_ok {l : List Nat} (hl : small l) (hlen : l.length = 64) : ∀ (n t : Nat), t + n = 16 → wordsN n (l.drop (4 * t)) = (List.range' t n).map (schN (bsN l))
  | 0, t, _ => by
    cases hq : l.drop (4 * t) <;> rfl
  | n + 1, t, ht => by
    have e : ∀ j, (hj : j < 4) → l[4 * t + j]? = some (l[4 * t + j]'(by omega)) := fun j hj => List.getElem?_eq_getElem (by omega)
    have hd : l.drop (4 * t) = l[4 * t] :: l[4 * t + 1] :: l[4 * t + 2] :: l[4 * t + 3] :: l.drop (4 * (t + 1)) := by
      rw [List.drop_eq_getElem_cons (by omega), List.drop_eq_getElem_cons (by omega), List.drop_eq_getElem_cons (by omega), List.drop_eq_getElem_cons (by omega)]
      rfl
    rw [hd, List.range'_succ, List.map_cons]
    show wordN _ _ _ _ :: wordsN n _ = _
    rw [wordsN_ok hl hlen n (t + 1) (by omega)]
    exact congrArg (· :: _) (schN_word hl (by omega) (e 0 (by omega)) (e 1 (by omega)) (e 2 (by omega)) (e 3 (by omega))).symm
def mixN (l L : List Nat) : List Nat := addL L (roundsN (sched 64 (wordsN 16 l)) kwN L)
theorem mixN_ok {l L : List Nat} {F : Nat → Int} (hl : small l) (hlen : l.length = 64) (h : StN F L) : StN (mixR (bsN l) F) (mixN l L) := by
  have := mix_ok (block := bsN l) h
  rw [← wordsN_ok hl hlen 16 0 rfl] at this
  simpa [mixN] using this
def absorbN : Nat → List Nat → List Nat → List Nat × List Nat
  | 0, L, r => (L, r)
  | m + 1, L, r => bif Nat.blt r.length 64 then (L, r) else absorbN m (mixN (r.take 64) L) (r.drop 64)
theorem small_take {l : List Nat} (h : small l) (n : Nat) : small (l.take n) := fun b hb => h b (List.mem_of_mem_take hb)
theorem small_drop {l : List Nat} (h : small l) (n : Nat) : small (l.drop n) := fun b hb => h b (List.mem_of_mem_drop hb)
theorem absorbN_ok : ∀ (m : Nat) {F : Nat → Int} {L r : List Nat}, StN F L → small r → StN (absorb m F (bsN r)).1 (absorbN m L r).1 ∧ (absorb m F (bsN r)).2 = bsN (absorbN m L r).2 ∧ small (absorbN m L r).2
  | 0, F, L, r, h, hr => ⟨h, rfl, hr⟩
  | m + 1, F, L, r, h, hr => by
    unfold absorb absorbN
    rw [bsN_size]
    by_cases hlt : r.length < 64
    · rw [if_pos hlt, blt_eq.2 hlt]
      exact ⟨h, rfl, hr⟩
    · rw [if_neg hlt, show Nat.blt r.length 64 = false by cases hb : Nat.blt r.length 64 with | false => rfl | true => exact absurd (blt_eq.1 hb) hlt]
      rw [bsN_extract, bsN_extract]
      have e1 : (r.take 64).drop 0 = r.take 64 := rfl
      have e2 : (r.take r.length).drop 64 = r.drop 64 := by rw [List.take_length]
      rw [e1, e2]
      exact absorbN_ok m (mixN_ok (small_take hr 64) (by simp; omega) h) (small_drop hr 64)
def addN (q : List Nat × List Nat × Nat) (s : List Nat) : List Nat × List Nat × Nat :=
  let a := absorbN (q.2.1.length + s.length) q.1 (q.2.1 ++ s)
  (a.1, a.2, q.2.2 + s.length)
def addsN : List Nat × List Nat × Nat → List (List Nat) → List Nat × List Nat × Nat
  | q, [] => q
  | q, s :: ss => addsN (addN q s) ss
def QN (q : (Nat → Int) × ByteArray × Int) (p : List Nat × List Nat × Nat) : Prop := StN q.1 p.1 ∧ q.2.1 = bsN p.2.1 ∧ small p.2.1 ∧ q.2.2 = (p.2.2 : Nat)
theorem addN_ok {q : (Nat → Int) × ByteArray × Int} {p : List Nat × List Nat × Nat} (h : QN q p) {s : List Nat} (hs : small s) : QN (addR q (bsN s)) (addN p s) := by
  obtain ⟨f, r, n⟩ := q
  obtain ⟨L, l, k⟩ := p
  obtain ⟨h1, h2, h3, h4⟩ := h
  simp only at h1 h2 h3 h4
  subst h2 h4
  have hsm : small (l ++ s) := fun b hb => (List.mem_append.1 hb).elim (h3 b) (hs b)
  have ha := absorbN_ok (l.length + s.length) h1 hsm
  unfold addR addN
  simp only [bsN_size, bsN_append]
  exact ⟨ha.1, ha.2.1, ha.2.2, by simp⟩
theorem addsN_ok : ∀ {ss : List (List Nat)} {q : (Nat → Int) × ByteArray × Int} {p : List Nat × List Nat × Nat}, QN q p → (∀ s ∈ ss, small s) → QN ((ss.map bsN).foldl addR q) (addsN p ss)
  | [], q, p, h, _ => h
  | s :: ss, q, p, h, hs => by
    rw [List.map_cons, List.foldl_cons]
    exact addsN_ok (ss := ss) (addN_ok h (hs s (by simp))) (fun x hx => hs x (by simp [hx]))
def zerosN : Nat → List Nat
  | 0 => []
  | n + 1 => 0 :: zerosN n
def lenN (n : Nat) : List Nat := [n * 8 / 2 ^ 56 % 256, n * 8 / 2 ^ 48 % 256, n * 8 / 2 ^ 40 % 256, n * 8 / 2 ^ 32 % 256, n * 8 / 2 ^ 24 % 256, n * 8 / 2 ^ 16 % 256, n * 8 / 2 ^ 8 % 256, n * 8 % 256]
def tailN (l : List Nat) (n : Nat) : List Nat := (l ++ [128]) ++ zerosN ((120 - (l.length + 1) % 64) % 64) ++ lenN n
def mixAllN : Nat → List Nat → List Nat → List Nat
  | 0, L, _ => L
  | m + 1, L, l => bif Nat.blt l.length 64 then L else mixAllN m (mixN (l.take 64) L) (l.drop 64)
theorem mixAllN_ok : ∀ (m : Nat) {F : Nat → Int} {L l : List Nat}, StN F L → small l → StN (mixAll m F (l.map UInt8.ofNat)) (mixAllN m L l)
  | 0, F, L, l, h, _ => h
  | m + 1, F, L, l, h, hl => by
    unfold mixAll mixAllN
    rw [List.length_map]
    by_cases hlt : l.length < 64
    · rw [if_pos hlt, blt_eq.2 hlt]
      exact h
    · rw [if_neg hlt, show Nat.blt l.length 64 = false by cases hb : Nat.blt l.length 64 with | false => rfl | true => exact absurd (blt_eq.1 hb) hlt]
      rw [← List.map_take, ← List.map_drop]
      exact mixAllN_ok m (mixN_ok (small_take hl 64) (by simp; omega) h) (small_drop hl 64)
theorem zerosN_ok (n : Nat) : (zerosN n).map UInt8.ofNat = List.replicate n 0 ∧ small (zerosN n) := by
  induction n with
  | zero => exact ⟨rfl, fun b hb => by cases hb⟩
  | succ n ih =>
    refine ⟨by rw [List.replicate_succ, ← ih.1]; rfl, fun b hb => ?_⟩
    rcases List.mem_cons.1 hb with rfl | hb
    · omega
    · exact ih.2 b hb
theorem lenN_ok {n : Nat} (hn : n < 2 ^ 60) : (lenN n).map UInt8.ofNat = lensL (n : Int) 8 ∧ small (lenN n) := by
  have hw : IntKind.u64.wrap (IntKind.u64.wrap (n : Int) * 8) = ((n * 8 : Nat) : Int) := by
    have : ∀ k : Nat, k < 2 ^ 64 → IntKind.u64.wrap (k : Int) = (k : Int) := by
      intro k hk
      unfold IntKind.wrap
      simp [IntKind.bits, IntKind.signed]
      omega
    rw [this n (by omega), show (n : Int) * 8 = ((n * 8 : Nat) : Int) by simp, this (n * 8) (by omega)]
  have hb : ∀ i, lenB (n : Int) i = UInt8.ofNat (n * 8 / 2 ^ (8 * (7 - i)) % 256) := by
    intro i
    unfold lenB
    rw [hw]
    congr 1
  constructor
  · unfold lensL lenN
    simp [List.range_succ, hb]
  · intro b hb2
    unfold lenN at hb2
    simp only [List.mem_cons, List.not_mem_nil, or_false] at hb2
    rcases hb2 with rfl | rfl | rfl | rfl | rfl | rfl | rfl | rfl <;> exact Nat.mod_lt _ (by omega)
def outN : List Nat → List Nat
  | [] => []
  | w :: l => w / 2 ^ 24 % 256 :: w / 2 ^ 16 % 256 :: w / 2 ^ 8 % 256 :: w % 256 :: outN l
def ivN : List Nat := [1779033703, 3144134277, 1013904242, 2773480762, 1359893119, 2600822924, 528734635, 1541459225]
def digN (ss : List (List Nat)) : List Nat := let q := addsN (ivN, [], 0) ss; outN (mixAllN (tailN q.2.1 q.2.2).length q.1 (tailN q.2.1 q.2.2))
theorem out_ok {F : Nat → Int} {L : List Nat} (h : StN F L) : ((List.range 32).map fun i => ((digB F i).toNat : Nat)) = outN L := by
  obtain ⟨hl, hs⟩ := h
  match L, hl with
  | [a, b, c, d, e, f, g, h], _ =>
    have hd : ∀ i k, i / 4 = k → k < 8 → (digB F i).toNat = ([a, b, c, d, e, f, g, h].getD k 0) / 2 ^ (24 - i % 4 * 8) % 256 := by
      intro i k hk hk8
      unfold digB
      rw [hk, (hs k hk8).2, UInt8.toNat_ofNat', show (2 : Int) ^ (24 - i % 4 * 8) = ((2 ^ (24 - i % 4 * 8) : Nat) : Int) by simp, ← Int.natCast_ediv]
      omega
    simp [List.range_succ, outN, hd 0 0 rfl, hd 1 0 rfl, hd 2 0 rfl, hd 3 0 rfl, hd 4 1 rfl, hd 5 1 rfl, hd 6 1 rfl, hd 7 1 rfl, hd 8 2 rfl, hd 9 2 rfl, hd 10 2 rfl, hd 11 2 rfl, hd 12 3 rfl, hd 13 3 rfl, hd 14 3 rfl, hd 15 3 rfl,
      hd 16 4 rfl, hd 17 4 rfl, hd 18 4 rfl, hd 19 4 rfl, hd 20 5 rfl, hd 21 5 rfl, hd 22 5 rfl, hd 23 5 rfl, hd 24 6 rfl, hd 25 6 rfl, hd 26 6 rfl, hd 27 6 rfl, hd 28 7 rfl, hd 29 7 rfl, hd 30 7 rfl, hd 31 7 rfl]
theorem dig_ok {ss : List (List Nat)} (hs : ∀ s ∈ ss, small s) (hn : (addsN (ivN, [], 0) ss).2.2 < 2 ^ 60) : rowB 32 (ofB (ss.map bsN)) = ((digN ss).map fun b : Nat => Value.int .u8 (b : Int)).toArray := by
  have h0 : QN (iv, ByteArray.empty, 0) (ivN, [], 0) := by
    refine ⟨⟨rfl, ?_⟩, rfl, (fun b hb => by cases hb), rfl⟩
    intro i hi
    have hall : ∀ j : Fin 8, ivN.getD j.1 0 < M32 ∧ ivL.getD j.1 0 = ((ivN.getD j.1 0 : Nat) : Int) := by decide
    exact hall ⟨i, hi⟩
  obtain ⟨q1, q2, q3, q4⟩ := addsN_ok (ss := ss) h0 hs
  have e : addsR (ss.map bsN) = (ss.map bsN).foldl addR (iv, .empty, 0) := rfl
  rw [← e] at q1 q2 q4
  have hz := zerosN_ok ((120 - ((addsN (ivN, [], 0) ss).2.1.length + 1) % 64) % 64)
  have hlen := lenN_ok hn
  have ht : tailL (addsR (ss.map bsN)).2.1 (addsR (ss.map bsN)).2.2 = (tailN (addsN (ivN, [], 0) ss).2.1 (addsN (ivN, [], 0) ss).2.2).map UInt8.ofNat := by
    unfold tailL tailN padR remF
    rw [q2, q4, bsN_data]
    simp only [List.map_append, hz.1, hlen.1, List.length_append, List.length_map]
    rfl
  have hst : small (tailN (addsN (ivN, [], 0) ss).2.1 (addsN (ivN, [], 0) ss).2.2) := by
    intro b hb
    unfold tailN at hb
    simp only [List.mem_append, List.mem_singleton] at hb
    rcases hb with ((hb | rfl) | hb) | hb
    · exact q3 b hb
    · omega
    · exact hz.2 b hb
    · exact hlen.2 b hb
  have hm := mixAllN_ok (tailN (addsN (ivN, [], 0) ss).2.1 (addsN (ivN, [], 0) ss).2.2).length q1 hst
  have ho := out_ok hm
  unfold rowB ofB sumF
  rw [ht, List.length_map]
  have ho2 : outN (mixAllN (tailN (addsN (ivN, [], 0) ss).2.1 (addsN (ivN, [], 0) ss).2.2).length (addsN (ivN, [], 0) ss).1 (tailN (addsN (ivN, [], 0) ss).2.1 (addsN (ivN, [], 0) ss).2.2)) = digN ss := rfl
  rw [ho2] at ho
  rw [← ho, List.map_map]
  rfl
end Go.Proofs.YtijiggolphppbaaGreatDoor
