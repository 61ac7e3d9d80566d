/- The digest of one text, in plain words: all blocks of the padded text, one behind the other, as the document has it. No program in sight. -/
import Derived.Test.YtegappcdmaodjaaDoorSfB
import Derived.Test.YtegappcdmaodjaaDoorStH
namespace Go.Proofs.YtegappcdmaodjaaDoor
open Go.RowKit

/-- A text, padded. -/
def wholeL (s : List UInt8) : List UInt8 := padR (s ++ [128]) ++ lensL (s.length : Nat) 8
theorem mixAll_fuel : ∀ (m m' : Nat) (f : Nat → Int) (l : List UInt8), l.length ≤ m → l.length ≤ m' → mixAll m f l = mixAll m' f l
  | m, m', f, l, h1, h2 => by
    by_cases h : l.length < 64
    · rw [mixAll_end m f l h, mixAll_end m' f l h]
    · obtain ⟨k, rfl⟩ : ∃ k, m = k + 1 := ⟨m - 1, by omega⟩
      obtain ⟨k', rfl⟩ : ∃ k', m' = k' + 1 := ⟨m' - 1, by omega⟩
      unfold mixAll
      rw [if_neg h, if_neg h]
      exact mixAll_fuel k k' _ _ (by simp; omega) (by simp; omega)
theorem mixAll_step (m : Nat) (f : Nat → Int) (l : List UInt8) (h : ¬ l.length < 64) : mixAll (m + 1) f l = mixAll m (mixR ⟨(l.take 64).toArray⟩ f) (l.drop 64) := by
  conv => lhs; unfold mixAll
  rw [if_neg h]
theorem take_ba (r : ByteArray) : (⟨(r.data.toList.take 64).toArray⟩ : ByteArray) = r.extract 0 64 := by
  apply ByteArray.ext
  apply Array.ext'
  simp [ByteArray.data_extract, List.extract_eq_take_drop]
theorem drop_ba (r : ByteArray) : (r.extract 64 r.size).data.toList = r.data.toList.drop 64 := by
  simp [ByteArray.data_extract, List.extract_eq_take_drop]
  exact List.take_of_length_le (by simp)
/-- What is absorbed first is mixed first. -/
theorem mixAll_absorb : ∀ (m : Nat) (f : Nat → Int) (r : ByteArray) (t : List UInt8) (k : Nat), r.size ≤ m → r.size + t.length ≤ k →
    mixAll k f (r.data.toList ++ t) = mixAll k (absorb m f r).1 ((absorb m f r).2.data.toList ++ t) ∧ (absorb m f r).2.size ≤ r.size ∧ (absorb m f r).2.size % 64 = r.size % 64
  | 0, f, r, t, k, h1, h2 => ⟨rfl, Nat.le_refl _, rfl⟩
  | m + 1, f, r, t, k, h1, h2 => by
    unfold absorb
    by_cases h : r.size < 64
    · rw [if_pos h]
      exact ⟨rfl, Nat.le_refl _, rfl⟩
    · rw [if_neg h]
      have hsz : (r.extract 64 r.size).size = r.size - 64 := by simp
      obtain ⟨i1, i2, i3⟩ := mixAll_absorb m (mixR (r.extract 0 64) f) (r.extract 64 r.size) t k (by omega) (by omega)
      refine ⟨?_, by omega, by omega⟩
      rw [← i1]
      obtain ⟨k', rfl⟩ : ∃ k', k = k' + 1 := ⟨k - 1, by omega⟩
      have hl : r.data.toList.length = r.size := by simp
      rw [mixAll_step k' f _ (by simp; omega)]
      rw [List.take_append_of_le_length (by omega), List.drop_append_of_le_length (by omega), take_ba, drop_ba]
      refine mixAll_fuel _ _ _ _ ?_ ?_
      · simp; omega
      · simp; omega
theorem remF_mod (a b : Nat) (h : a % 64 = b % 64) : remF a = remF b := by unfold remF; rw [h]
theorem of_whole (s : ByteArray) : ofB [s] = digB (mixAll (wholeL s.data.toList).length iv (wholeL s.data.toList)) := by
  have hl : s.data.toList.length = s.size := by simp
  have hq : addsR [s] = ((absorb s.size iv s).1, (absorb s.size iv s).2, ((s.size : Nat) : Int)) := by
    show addR (iv, .empty, 0) s = _
    unfold addR
    simp
  unfold ofB
  rw [hq]
  show digB (sumF (absorb s.size iv s).1 (absorb s.size iv s).2 ((s.size : Nat) : Int)) = _
  congr 1
  unfold sumF
  generalize hb : absorb s.size iv s = q
  have key := fun t k h => mixAll_absorb s.size iv s t k (Nat.le_refl _) h
  rw [hb] at key
  have hrl : q.2.data.toList.length = q.2.size := by simp
  have hm : q.2.size ≤ s.size ∧ q.2.size % 64 = s.size % 64 := ((key [] s.size (by simp)).2)
  have htail : wholeL s.data.toList = s.data.toList ++ ([128] ++ List.replicate (remF (q.2.size + 1)) 0 ++ lensL ((s.size : Nat) : Int) 8) := by
    unfold wholeL padR
    have : remF (s.data.toList ++ [128]).length = remF (q.2.size + 1) := remF_mod _ _ (by simp; omega)
    rw [this, hl]
    simp
  have htl2 : tailL q.2 ((s.size : Nat) : Int) = q.2.data.toList ++ ([128] ++ List.replicate (remF (q.2.size + 1)) 0 ++ lensL ((s.size : Nat) : Int) 8) := by
    unfold tailL padR
    have : (q.2.data.toList ++ [128]).length = q.2.size + 1 := by simp
    rw [this]
    simp
  rw [htail, htl2]
  clear htail htl2
  generalize [128] ++ List.replicate (remF (q.2.size + 1)) 0 ++ lensL ((s.size : Nat) : Int) 8 = tl
  have k1 := key tl (s.data.toList ++ tl).length (by rw [List.length_append, hl]; exact Nat.le_refl _)
  rw [k1.1]
  refine mixAll_fuel _ _ _ _ (Nat.le_refl _) ?_
  rw [List.length_append, List.length_append, hl, hrl]
  omega
end Go.Proofs.YtegappcdmaodjaaDoor
