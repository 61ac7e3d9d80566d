/- What eight small codes answer: the pure law of MillWords. -/
import Derived.Test.YtegappcdmaodjaaDoorMiU
namespace Go.Proofs.YtegappcdmaodjaaDoor
open Go.RowKit

theorem push1 (l : List ByteArray) (x : ByteArray) (h1 : l.length < 8) (h2 : x.size ≤ 512) : pushR l [x] = (0, l ++ [x]) := by
  rw [pushR_cons, if_neg (by omega), if_neg (by omega), pushR_nil]
theorem push2 (l : List ByteArray) (x y : ByteArray) (h1 : l.length < 7) (h2 : x.size ≤ 512) (h3 : y.size ≤ 512) : pushR l [x, y] = (0, l ++ [x, y]) := by
  rw [pushR_cons, if_neg (by omega), if_neg (by omega), push1 _ _ (by simp; omega) h3]
  simp
/-- A step that answers. -/
theorem runR_go {H : ByteArray → ByteArray} {code : ByteArray} {ins : List ByteArray} (f n : Nat) {at_ : Nat} {l : List ByteArray} (k : Nat) (hk : widN code at_ = k) (h0 : k ≠ 0) (h : at_ < code.size) {to : Nat} {l' : List ByteArray} (hq : stepR H ins (byteN code at_) (numN (code.extract at_ (at_ + k))) (code.extract at_ (at_ + k)) at_ l = (0, to, l')) :
    runR H code ins (f + 1) at_ n l = runR H code ins f to (n + 1) l' := by
  subst hk
  rw [runR_step f n (by omega) (by omega) rfl rfl, hq]
  rfl
theorem endR_last (l : List ByteArray) (x : ByteArray) : endR (l ++ [x]) = (0, x) := by simp [endR]

theorem step_in (H : ByteArray → ByteArray) (ins : List ByteArray) (n : Nat) (s : ByteArray) (at_ : Nat) (l : List ByteArray) (x : ByteArray) (hn : ins[n]? = some x) (hl : l.length < 8) (hx : x.size ≤ 512) (to : Nat) (hto : at_ + s.size = to) : stepR H ins 105 n s at_ l = (0, to, l ++ [x]) := by
  subst hto
  have hlt : n < ins.length := (List.getElem?_eq_some_iff.1 hn).1
  have e : ins.getD n .empty = x := by rw [List.getD_eq_getElem?_getD, hn]; rfl
  unfold stepR
  rw [if_neg (by omega), if_neg (by show ¬ l.length < 0; omega)]
  show ((pushR (l.take (l.length - 0)) [ins.getD n .empty]).1, at_ + s.size, (pushR (l.take (l.length - 0)) [ins.getD n .empty]).2) = _
  rw [e, Nat.sub_zero, List.take_length, push1 l x hl hx]
theorem step_un (H : ByteArray → ByteArray) (ins : List ByteArray) (c : UInt8) (hc : c ≠ 105) (hc2 : takeN c = 1) (hg : c ≠ 103 ∧ c ≠ 106) (n : Nat) (s : ByteArray) (at_ : Nat) (a x : ByteArray) (hx : x.size ≤ 512) (hp : ∀ b, putsR H ins c n s a b = [x]) (to : Nat) (hto : at_ + s.size = to) : stepR H ins c n s at_ [a] = (0, to, [x]) := by
  subst hto
  unfold stepR
  rw [if_neg (fun h => hc h.1), hc2, if_neg (by show ¬ 1 < 1; decide)]
  show ((pushR [] (putsR H ins c n s a _)).1, goesR c n (at_ + s.size) a, (pushR [] (putsR H ins c n s a _)).2) = _
  rw [hp, push1 [] x (by decide) hx]
  unfold goesR
  rw [if_neg hg.1, if_neg hg.2]
  rfl
theorem step_bi (H : ByteArray → ByteArray) (ins : List ByteArray) (c : UInt8) (hc : c ≠ 105) (hc2 : takeN c = 2) (hg : c ≠ 103 ∧ c ≠ 106) (n : Nat) (s : ByteArray) (at_ : Nat) (a b x : ByteArray) (hx : x.size ≤ 512) (hp : putsR H ins c n s a b = [x]) (to : Nat) (hto : at_ + s.size = to) : stepR H ins c n s at_ [a, b] = (0, to, [x]) := by
  subst hto
  unfold stepR
  rw [if_neg (fun h => hc h.1), hc2, if_neg (by show ¬ 2 < 2; decide)]
  show ((pushR [] (putsR H ins c n s a b)).1, goesR c n (at_ + s.size) a, (pushR [] (putsR H ins c n s a b)).2) = _
  rw [hp, push1 [] x (by decide) hx]
  unfold goesR
  rw [if_neg hg.1, if_neg hg.2]
  rfl
theorem step_two (H : ByteArray → ByteArray) (ins : List ByteArray) (c : UInt8) (hc : c ≠ 105) (hg : c ≠ 103) (hg2 : c ≠ 106) (n : Nat) (s : ByteArray) (at_ : Nat) (l : List ByteArray) (x y : ByteArray) (hx : x.size ≤ 512) (hy : y.size ≤ 512) (hp : ∀ (_ : Nat) (_ : Nat), putsR H ins c n s (l.getD 0 .empty) (l.getD 1 .empty) = [x, y]) (hl : takeN c = l.length) (_ : (l.length ≤ 7) = True) (to : Nat) (hto : at_ + s.size = to) : stepR H ins c n s at_ l = (0, to, [x, y]) := by
  subst hto
  unfold stepR
  rw [if_neg (fun h => hc h.1), hl, if_neg (Nat.lt_irrefl _)]
  show ((pushR (l.take (l.length - l.length)) (putsR H ins c n s ((l.drop (l.length - l.length)).getD 0 .empty) ((l.drop (l.length - l.length)).getD 1 .empty))).1, goesR c n (at_ + s.size) _, (pushR (l.take (l.length - l.length)) (putsR H ins c n s ((l.drop (l.length - l.length)).getD 0 .empty) ((l.drop (l.length - l.length)).getD 1 .empty))).2) = _
  rw [Nat.sub_self, List.take_zero, List.drop_zero, hp 0 0, push2 [] x y (by decide) hx hy]
  unfold goesR
  rw [if_neg hg, if_neg hg2]
  rfl
theorem step_drop (H : ByteArray → ByteArray) (ins : List ByteArray) (n : Nat) (s : ByteArray) (at_ : Nat) (b a : ByteArray) (to : Nat) (hto : at_ + s.size = to) : stepR H ins 120 n s at_ [b, a] = (0, to, [b]) := by
  subst hto
  unfold stepR
  rw [if_neg (fun h => absurd h.1 (by decide)), if_neg (by show ¬ 2 < 1; decide)]
  rfl
theorem runOut_two (H : ByteArray → ByteArray) (code a b : ByteArray) (hc : code.size ≤ 64) (ha : a.size ≤ 512) (hb : b.size ≤ 512) : runOut H code [a, b] = runR H code [a, b] 300 0 0 [] := by
  unfold runOut
  rw [if_neg]
  rintro (h | h | ⟨s, hs, h⟩)
  · omega
  · exact absurd h (by simp)
  · simp at hs
    rcases hs with rfl | rfl <;> omega

theorem word0 (H : ByteArray → ByteArray) (a b : ByteArray) (ha : a.size ≤ 200) (hb : b.size ≤ 200) : (runOut H ({ data := #[105, 0, 105, 1, 99] } : ByteArray) [a, b]).1 = (0, a ++ b) := by
  have h := ((runR_go (H := H) (code := ({ data := #[105, 0, 105, 1, 99] } : ByteArray)) (ins := [a, b]) (at_ := 0) (l := []) (to := 2) (l' := [a]) 299 0 2 (by kernel_rfl) (by decide) (by show 0 < 5; decide) (by rw [show byteN ({ data := #[105, 0, 105, 1, 99] } : ByteArray) 0 = 105 by kernel_rfl, show numN (({ data := #[105, 0, 105, 1, 99] } : ByteArray).extract 0 (0 + 2)) = 0 by kernel_rfl]; exact step_in H [a, b] 0 _ 0 [] a rfl (by simp) (by omega) 2 (by kernel_rfl))).trans
    ((runR_go (H := H) (code := ({ data := #[105, 0, 105, 1, 99] } : ByteArray)) (ins := [a, b]) (at_ := 2) (l := [a]) (to := 4) (l' := [a, b]) 298 1 2 (by kernel_rfl) (by decide) (by show 2 < 5; decide) (by rw [show byteN ({ data := #[105, 0, 105, 1, 99] } : ByteArray) 2 = 105 by kernel_rfl, show numN (({ data := #[105, 0, 105, 1, 99] } : ByteArray).extract 2 (2 + 2)) = 1 by kernel_rfl]; exact step_in H [a, b] 1 _ 2 [a] b rfl (by simp) (by omega) 4 (by kernel_rfl))).trans
    ((runR_go (H := H) (code := ({ data := #[105, 0, 105, 1, 99] } : ByteArray)) (ins := [a, b]) (at_ := 4) (l := [a, b]) (to := 5) (l' := [a ++ b]) 297 2 1 (by kernel_rfl) (by decide) (by show 4 < 5; decide) (by rw [show byteN ({ data := #[105, 0, 105, 1, 99] } : ByteArray) 4 = 99 by kernel_rfl, show numN (({ data := #[105, 0, 105, 1, 99] } : ByteArray).extract 4 (4 + 1)) = 0 by kernel_rfl]; exact step_bi H [a, b] 99 (by decide) rfl (by decide) _ _ 4 a b (a ++ b) (by rw [ByteArray.size_append]; omega) rfl 5 (by kernel_rfl))).trans
    (runR_end (H := H) (code := ({ data := #[105, 0, 105, 1, 99] } : ByteArray)) (ins := [a, b]) 297 3 (at_ := 5) rfl))))
  rw [runOut_two H ({ data := #[105, 0, 105, 1, 99] } : ByteArray) a b (by show _ ≤ 64; decide) (by omega) (by omega), h]
  rfl

theorem word1 (H : ByteArray → ByteArray) (a b : ByteArray) (ha : a.size ≤ 200) (hb : b.size ≤ 200) : (runOut H ({ data := #[105, 0, 114] } : ByteArray) [a, b]).1 = (0, revS a) := by
  have h := ((runR_go (H := H) (code := ({ data := #[105, 0, 114] } : ByteArray)) (ins := [a, b]) (at_ := 0) (l := []) (to := 2) (l' := [a]) 299 0 2 (by kernel_rfl) (by decide) (by show 0 < 3; decide) (by rw [show byteN ({ data := #[105, 0, 114] } : ByteArray) 0 = 105 by kernel_rfl, show numN (({ data := #[105, 0, 114] } : ByteArray).extract 0 (0 + 2)) = 0 by kernel_rfl]; exact step_in H [a, b] 0 _ 0 [] a rfl (by simp) (by omega) 2 (by kernel_rfl))).trans
    ((runR_go (H := H) (code := ({ data := #[105, 0, 114] } : ByteArray)) (ins := [a, b]) (at_ := 2) (l := [a]) (to := 3) (l' := [revS a]) 298 1 1 (by kernel_rfl) (by decide) (by show 2 < 3; decide) (by rw [show byteN ({ data := #[105, 0, 114] } : ByteArray) 2 = 114 by kernel_rfl, show numN (({ data := #[105, 0, 114] } : ByteArray).extract 2 (2 + 1)) = 0 by kernel_rfl]; exact step_un H [a, b] 114 (by decide) rfl (by decide) _ _ 2 a (revS a) (by rw [revS_size]; omega) (fun _ => rfl) 3 (by kernel_rfl))).trans
    (runR_end (H := H) (code := ({ data := #[105, 0, 114] } : ByteArray)) (ins := [a, b]) 298 2 (at_ := 3) rfl)))
  rw [runOut_two H ({ data := #[105, 0, 114] } : ByteArray) a b (by show _ ≤ 64; decide) (by omega) (by omega), h]
  rfl

theorem word2 (H : ByteArray → ByteArray) (a b : ByteArray) (n : UInt8) (ha : a.size ≤ 200) (hb : b.size ≤ 200) : (runOut H ({ data := #[105, 0, 116, n] } : ByteArray) [a, b]).1 = (0, a.extract 0 (min (n.toNat : Int) (a.size : Int)).toNat) := by
  have h := ((runR_go (H := H) (code := ({ data := #[105, 0, 116, n] } : ByteArray)) (ins := [a, b]) (at_ := 0) (l := []) (to := 2) (l' := [a]) 299 0 2 (by kernel_rfl) (by decide) (by show 0 < 4; decide) (by rw [show byteN ({ data := #[105, 0, 116, n] } : ByteArray) 0 = 105 by kernel_rfl, show numN (({ data := #[105, 0, 116, n] } : ByteArray).extract 0 (0 + 2)) = 0 by kernel_rfl]; exact step_in H [a, b] 0 _ 0 [] a rfl (by simp) (by omega) 2 (by kernel_rfl))).trans
    ((runR_go (H := H) (code := ({ data := #[105, 0, 116, n] } : ByteArray)) (ins := [a, b]) (at_ := 2) (l := [a]) (to := 4) (l' := [a.extract 0 (min (n.toNat : Int) (a.size : Int)).toNat]) 298 1 2 (by kernel_rfl) (by decide) (by show 2 < 4; decide) (by rw [show byteN ({ data := #[105, 0, 116, n] } : ByteArray) 2 = 116 by kernel_rfl, show numN (({ data := #[105, 0, 116, n] } : ByteArray).extract 2 (2 + 2)) = n.toNat by kernel_rfl]; exact step_un H [a, b] 116 (by decide) rfl (by decide) _ _ 2 a (a.extract 0 (min (n.toNat : Int) (a.size : Int)).toNat) (by rw [ByteArray.size_extract]; omega) (fun _ => rfl) 4 (by kernel_rfl))).trans
    (runR_end (H := H) (code := ({ data := #[105, 0, 116, n] } : ByteArray)) (ins := [a, b]) 298 2 (at_ := 4) rfl)))
  rw [runOut_two H ({ data := #[105, 0, 116, n] } : ByteArray) a b (by show 4 ≤ 64; decide) (by omega) (by omega), h]
  rfl

theorem word3 (H : ByteArray → ByteArray) (a b : ByteArray) (n : UInt8) (ha : a.size ≤ 200) (hb : b.size ≤ 200) : (runOut H ({ data := #[105, 0, 107, n] } : ByteArray) [a, b]).1 = (0, a.extract (min (n.toNat : Int) (a.size : Int)).toNat a.size) := by
  have h := ((runR_go (H := H) (code := ({ data := #[105, 0, 107, n] } : ByteArray)) (ins := [a, b]) (at_ := 0) (l := []) (to := 2) (l' := [a]) 299 0 2 (by kernel_rfl) (by decide) (by show 0 < 4; decide) (by rw [show byteN ({ data := #[105, 0, 107, n] } : ByteArray) 0 = 105 by kernel_rfl, show numN (({ data := #[105, 0, 107, n] } : ByteArray).extract 0 (0 + 2)) = 0 by kernel_rfl]; exact step_in H [a, b] 0 _ 0 [] a rfl (by simp) (by omega) 2 (by kernel_rfl))).trans
    ((runR_go (H := H) (code := ({ data := #[105, 0, 107, n] } : ByteArray)) (ins := [a, b]) (at_ := 2) (l := [a]) (to := 4) (l' := [a.extract (min (n.toNat : Int) (a.size : Int)).toNat a.size]) 298 1 2 (by kernel_rfl) (by decide) (by show 2 < 4; decide) (by rw [show byteN ({ data := #[105, 0, 107, n] } : ByteArray) 2 = 107 by kernel_rfl, show numN (({ data := #[105, 0, 107, n] } : ByteArray).extract 2 (2 + 2)) = n.toNat by kernel_rfl]; exact step_un H [a, b] 107 (by decide) rfl (by decide) _ _ 2 a (a.extract (min (n.toNat : Int) (a.size : Int)).toNat a.size) (by rw [ByteArray.size_extract]; omega) (fun _ => rfl) 4 (by kernel_rfl))).trans
    (runR_end (H := H) (code := ({ data := #[105, 0, 107, n] } : ByteArray)) (ins := [a, b]) 298 2 (at_ := 4) rfl)))
  rw [runOut_two H ({ data := #[105, 0, 107, n] } : ByteArray) a b (by show 4 ≤ 64; decide) (by omega) (by omega), h]
  rfl

theorem word4 (H : ByteArray → ByteArray) (a b : ByteArray) (ha : a.size ≤ 200) (hb : b.size ≤ 200) : (runOut H ({ data := #[105, 0, 105, 1, 61] } : ByteArray) [a, b]).1 = (0, sameS a b) := by
  have h := ((runR_go (H := H) (code := ({ data := #[105, 0, 105, 1, 61] } : ByteArray)) (ins := [a, b]) (at_ := 0) (l := []) (to := 2) (l' := [a]) 299 0 2 (by kernel_rfl) (by decide) (by show 0 < 5; decide) (by rw [show byteN ({ data := #[105, 0, 105, 1, 61] } : ByteArray) 0 = 105 by kernel_rfl, show numN (({ data := #[105, 0, 105, 1, 61] } : ByteArray).extract 0 (0 + 2)) = 0 by kernel_rfl]; exact step_in H [a, b] 0 _ 0 [] a rfl (by simp) (by omega) 2 (by kernel_rfl))).trans
    ((runR_go (H := H) (code := ({ data := #[105, 0, 105, 1, 61] } : ByteArray)) (ins := [a, b]) (at_ := 2) (l := [a]) (to := 4) (l' := [a, b]) 298 1 2 (by kernel_rfl) (by decide) (by show 2 < 5; decide) (by rw [show byteN ({ data := #[105, 0, 105, 1, 61] } : ByteArray) 2 = 105 by kernel_rfl, show numN (({ data := #[105, 0, 105, 1, 61] } : ByteArray).extract 2 (2 + 2)) = 1 by kernel_rfl]; exact step_in H [a, b] 1 _ 2 [a] b rfl (by simp) (by omega) 4 (by kernel_rfl))).trans
    ((runR_go (H := H) (code := ({ data := #[105, 0, 105, 1, 61] } : ByteArray)) (ins := [a, b]) (at_ := 4) (l := [a, b]) (to := 5) (l' := [sameS a b]) 297 2 1 (by kernel_rfl) (by decide) (by show 4 < 5; decide) (by rw [show byteN ({ data := #[105, 0, 105, 1, 61] } : ByteArray) 4 = 61 by kernel_rfl, show numN (({ data := #[105, 0, 105, 1, 61] } : ByteArray).extract 4 (4 + 1)) = 0 by kernel_rfl]; exact step_bi H [a, b] 61 (by decide) rfl (by decide) _ _ 4 a b (sameS a b) (by unfold sameS; split <;> decide) rfl 5 (by kernel_rfl))).trans
    (runR_end (H := H) (code := ({ data := #[105, 0, 105, 1, 61] } : ByteArray)) (ins := [a, b]) 297 3 (at_ := 5) rfl))))
  rw [runOut_two H ({ data := #[105, 0, 105, 1, 61] } : ByteArray) a b (by show _ ≤ 64; decide) (by omega) (by omega), h]
  rfl

theorem word5 (H : ByteArray → ByteArray) (a b : ByteArray) (ha : a.size ≤ 200) (hb : b.size ≤ 200) (hH : (H a).size ≤ 512) : (runOut H ({ data := #[105, 0, 104] } : ByteArray) [a, b]).1 = (0, H a) := by
  have h := ((runR_go (H := H) (code := ({ data := #[105, 0, 104] } : ByteArray)) (ins := [a, b]) (at_ := 0) (l := []) (to := 2) (l' := [a]) 299 0 2 (by kernel_rfl) (by decide) (by show 0 < 3; decide) (by rw [show byteN ({ data := #[105, 0, 104] } : ByteArray) 0 = 105 by kernel_rfl, show numN (({ data := #[105, 0, 104] } : ByteArray).extract 0 (0 + 2)) = 0 by kernel_rfl]; exact step_in H [a, b] 0 _ 0 [] a rfl (by simp) (by omega) 2 (by kernel_rfl))).trans
    ((runR_go (H := H) (code := ({ data := #[105, 0, 104] } : ByteArray)) (ins := [a, b]) (at_ := 2) (l := [a]) (to := 3) (l' := [H a]) 298 1 1 (by kernel_rfl) (by decide) (by show 2 < 3; decide) (by rw [show byteN ({ data := #[105, 0, 104] } : ByteArray) 2 = 104 by kernel_rfl, show numN (({ data := #[105, 0, 104] } : ByteArray).extract 2 (2 + 1)) = 0 by kernel_rfl]; exact step_un H [a, b] 104 (by decide) rfl (by decide) _ _ 2 a (H a) (by exact hH) (fun _ => rfl) 3 (by kernel_rfl))).trans
    (runR_end (H := H) (code := ({ data := #[105, 0, 104] } : ByteArray)) (ins := [a, b]) 298 2 (at_ := 3) rfl)))
  rw [runOut_two H ({ data := #[105, 0, 104] } : ByteArray) a b (by show _ ≤ 64; decide) (by omega) (by omega), h]
  rfl

theorem word6 (H : ByteArray → ByteArray) (a b : ByteArray) (ha : a.size ≤ 200) (hb : b.size ≤ 200) : (runOut H ({ data := #[105, 0, 105, 1, 115, 120] } : ByteArray) [a, b]).1 = (0, b) := by
  have h := ((runR_go (H := H) (code := ({ data := #[105, 0, 105, 1, 115, 120] } : ByteArray)) (ins := [a, b]) (at_ := 0) (l := []) (to := 2) (l' := [a]) 299 0 2 (by kernel_rfl) (by decide) (by show 0 < 6; decide) (by rw [show byteN ({ data := #[105, 0, 105, 1, 115, 120] } : ByteArray) 0 = 105 by kernel_rfl, show numN (({ data := #[105, 0, 105, 1, 115, 120] } : ByteArray).extract 0 (0 + 2)) = 0 by kernel_rfl]; exact step_in H [a, b] 0 _ 0 [] a rfl (by simp) (by omega) 2 (by kernel_rfl))).trans
    ((runR_go (H := H) (code := ({ data := #[105, 0, 105, 1, 115, 120] } : ByteArray)) (ins := [a, b]) (at_ := 2) (l := [a]) (to := 4) (l' := [a, b]) 298 1 2 (by kernel_rfl) (by decide) (by show 2 < 6; decide) (by rw [show byteN ({ data := #[105, 0, 105, 1, 115, 120] } : ByteArray) 2 = 105 by kernel_rfl, show numN (({ data := #[105, 0, 105, 1, 115, 120] } : ByteArray).extract 2 (2 + 2)) = 1 by kernel_rfl]; exact step_in H [a, b] 1 _ 2 [a] b rfl (by simp) (by omega) 4 (by kernel_rfl))).trans
    ((runR_go (H := H) (code := ({ data := #[105, 0, 105, 1, 115, 120] } : ByteArray)) (ins := [a, b]) (at_ := 4) (l := [a, b]) (to := 5) (l' := [b, a]) 297 2 1 (by kernel_rfl) (by decide) (by show 4 < 6; decide) (by rw [show byteN ({ data := #[105, 0, 105, 1, 115, 120] } : ByteArray) 4 = 115 by kernel_rfl, show numN (({ data := #[105, 0, 105, 1, 115, 120] } : ByteArray).extract 4 (4 + 1)) = 0 by kernel_rfl]; exact step_two H [a, b] 115 (by decide) (by decide) (by decide) _ _ 4 [a, b] b a (by omega) (by omega) (fun _ _ => rfl) rfl (by simp) 5 (by kernel_rfl))).trans
    ((runR_go (H := H) (code := ({ data := #[105, 0, 105, 1, 115, 120] } : ByteArray)) (ins := [a, b]) (at_ := 5) (l := [b, a]) (to := 6) (l' := [b]) 296 3 1 (by kernel_rfl) (by decide) (by show 5 < 6; decide) (by rw [show byteN ({ data := #[105, 0, 105, 1, 115, 120] } : ByteArray) 5 = 120 by kernel_rfl, show numN (({ data := #[105, 0, 105, 1, 115, 120] } : ByteArray).extract 5 (5 + 1)) = 0 by kernel_rfl]; exact step_drop H [a, b] _ _ 5 b a 6 (by kernel_rfl))).trans
    (runR_end (H := H) (code := ({ data := #[105, 0, 105, 1, 115, 120] } : ByteArray)) (ins := [a, b]) 296 4 (at_ := 6) rfl)))))
  rw [runOut_two H ({ data := #[105, 0, 105, 1, 115, 120] } : ByteArray) a b (by show _ ≤ 64; decide) (by omega) (by omega), h]
  rfl

theorem word7 (H : ByteArray → ByteArray) (a b : ByteArray) (ha : a.size ≤ 200) (hb : b.size ≤ 200) : (runOut H ({ data := #[105, 0, 100, 99] } : ByteArray) [a, b]).1 = (0, a ++ a) := by
  have h := ((runR_go (H := H) (code := ({ data := #[105, 0, 100, 99] } : ByteArray)) (ins := [a, b]) (at_ := 0) (l := []) (to := 2) (l' := [a]) 299 0 2 (by kernel_rfl) (by decide) (by show 0 < 4; decide) (by rw [show byteN ({ data := #[105, 0, 100, 99] } : ByteArray) 0 = 105 by kernel_rfl, show numN (({ data := #[105, 0, 100, 99] } : ByteArray).extract 0 (0 + 2)) = 0 by kernel_rfl]; exact step_in H [a, b] 0 _ 0 [] a rfl (by simp) (by omega) 2 (by kernel_rfl))).trans
    ((runR_go (H := H) (code := ({ data := #[105, 0, 100, 99] } : ByteArray)) (ins := [a, b]) (at_ := 2) (l := [a]) (to := 3) (l' := [a, a]) 298 1 1 (by kernel_rfl) (by decide) (by show 2 < 4; decide) (by rw [show byteN ({ data := #[105, 0, 100, 99] } : ByteArray) 2 = 100 by kernel_rfl, show numN (({ data := #[105, 0, 100, 99] } : ByteArray).extract 2 (2 + 1)) = 0 by kernel_rfl]; exact step_two H [a, b] 100 (by decide) (by decide) (by decide) _ _ 2 [a] a a (by omega) (by omega) (fun _ _ => rfl) rfl (by simp) 3 (by kernel_rfl))).trans
    ((runR_go (H := H) (code := ({ data := #[105, 0, 100, 99] } : ByteArray)) (ins := [a, b]) (at_ := 3) (l := [a, a]) (to := 4) (l' := [a ++ a]) 297 2 1 (by kernel_rfl) (by decide) (by show 3 < 4; decide) (by rw [show byteN ({ data := #[105, 0, 100, 99] } : ByteArray) 3 = 99 by kernel_rfl, show numN (({ data := #[105, 0, 100, 99] } : ByteArray).extract 3 (3 + 1)) = 0 by kernel_rfl]; exact step_bi H [a, b] 99 (by decide) rfl (by decide) _ _ 3 a a (a ++ a) (by rw [ByteArray.size_append]; omega) rfl 4 (by kernel_rfl))).trans
    (runR_end (H := H) (code := ({ data := #[105, 0, 100, 99] } : ByteArray)) (ins := [a, b]) 297 3 (at_ := 4) rfl))))
  rw [runOut_two H ({ data := #[105, 0, 100, 99] } : ByteArray) a b (by show _ ≤ 64; decide) (by omega) (by omega), h]
  rfl

end Go.Proofs.YtegappcdmaodjaaDoor
