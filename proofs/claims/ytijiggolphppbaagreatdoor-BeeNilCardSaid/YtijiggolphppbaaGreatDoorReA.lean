/- Builds as texts, in plain words: names, words of codes, lines, texts, reading and writing. No program in sight. -/
import Derived.Lib.SplitLaws
import Derived.Lib.Split
import Derived.Lib.Join
import Derived.Lib.CutLaws
namespace Go.Proofs.YtijiggolphppbaaGreatDoor
open Go

/-- A text cut at a byte. -/
def splitC (c : UInt8) : List UInt8 → List (List UInt8)
  | [] => [[]]
  | x :: r => if x = c then [] :: splitC c r else (x :: (splitC c r).headD []) :: (splitC c r).tail
def cutC (c : UInt8) : List UInt8 → List UInt8 × List UInt8 × Bool
  | [] => ([], [], false)
  | x :: r => if x = c then ([], r, true) else (x :: (cutC c r).1, (cutC c r).2.1, (cutC c r).2.2)

theorem index_cons_eq (c : UInt8) (r : List UInt8) : Lib.index (c :: r) [c] = 0 := by
  simp [Lib.index]
theorem index_cons_ne {x c : UInt8} (h : x ≠ c) (r : List UInt8) : Lib.index (x :: r) [c] = if Lib.index r [c] = -1 then -1 else Lib.index r [c] + 1 := by
  have h2 : ¬ c = x := fun e => h e.symm
  simp [Lib.index, h2]
theorem splitC_ne (c : UInt8) (l : List UInt8) : splitC c l ≠ [] := by
  cases l with
  | nil => simp [splitC]
  | cons x r => unfold splitC; split <;> simp
theorem split_eq (c : UInt8) : ∀ s : List UInt8, Lib.splitK [c] 0 (Lib.count s [c]) s = splitC c s
  | [] => by
    have : Lib.count [] [c] = 0 := by simp [Lib.count_one]
    rw [this]; rfl
  | x :: r => by
    have ih := split_eq c r
    by_cases h : x = c
    · subst h
      rw [Lib.count_cons_eq, Nat.add_comm]
      unfold Lib.splitK splitC
      rw [index_cons_eq, if_neg (by decide), if_pos rfl]
      simp [ih]
    · rw [Lib.count_cons_ne _ _ _ h]
      unfold splitC
      rw [if_neg h, ← ih]
      cases hk : Lib.count r [c] with
      | zero => simp [Lib.splitK]
      | succ k =>
        have hi : Lib.index r [c] ≠ -1 := fun e => by rw [Lib.count_miss e] at hk; omega
        have hg := Lib.index_ge r [c]
        obtain ⟨i, hi2⟩ : ∃ i : Nat, Lib.index r [c] = i := ⟨(Lib.index r [c]).toNat, by omega⟩
        have h1 : Lib.index (x :: r) [c] = ((i + 1 : Nat) : Int) := by rw [index_cons_ne h, if_neg hi, hi2]; simp
        have b1 : ¬ (((i + 1 : Nat) : Int) == -1) = true := by simp; omega
        have b2 : ¬ ((i : Int) == -1) = true := by simp
        unfold Lib.splitK
        rw [h1, hi2, if_neg b1, if_neg b2]
        simp
theorem cut_eq (c : UInt8) : ∀ s : List UInt8, Lib.cut s [c] = cutC c s
  | [] => by first | rfl | simp [Lib.cut, Lib.index, cutC]
  | x :: r => by
    have ih := cut_eq c r
    by_cases h : x = c
    · subst h
      unfold Lib.cut cutC
      rw [index_cons_eq, if_pos (by decide), if_pos rfl]
      simp
    · unfold cutC
      rw [if_neg h, ← ih]
      unfold Lib.cut
      have hg := Lib.index_ge r [c]
      by_cases hi : Lib.index r [c] = -1
      · have h1 : Lib.index (x :: r) [c] = -1 := by rw [index_cons_ne h, if_pos hi]
        rw [h1, hi]; simp
      · obtain ⟨i, hi2⟩ : ∃ i : Nat, Lib.index r [c] = i := ⟨(Lib.index r [c]).toNat, by omega⟩
        have h1 : Lib.index (x :: r) [c] = ((i + 1 : Nat) : Int) := by rw [index_cons_ne h, if_neg hi, hi2]; simp
        rw [h1, hi2, if_pos (by omega), if_pos (by omega)]
        simp

/-- Cutting and joining. -/
theorem cutC_at (c : UInt8) (l t : List UInt8) (h : c ∉ l) : cutC c (l ++ c :: t) = (l, t, true) := by
  induction l with
  | nil => simp [cutC]
  | cons x r ih =>
    have h1 : x ≠ c := fun e => h (by simp [e])
    have h2 : c ∉ r := fun e => h (by simp [e])
    simp [cutC, h1, ih h2]
theorem cutC_none (c : UInt8) (l : List UInt8) (h : c ∉ l) : cutC c l = (l, [], false) := by
  induction l with
  | nil => simp [cutC]
  | cons x r ih =>
    have h1 : x ≠ c := fun e => h (by simp [e])
    have h2 : c ∉ r := fun e => h (by simp [e])
    simp [cutC, h1, ih h2]
theorem cutC_spec (c : UInt8) (l : List UInt8) (h : (cutC c l).2.2 = true) : l = (cutC c l).1 ++ c :: (cutC c l).2.1 ∧ c ∉ (cutC c l).1 := by
  induction l with
  | nil => simp [cutC] at h
  | cons x r ih =>
    unfold cutC at h ⊢
    split at h
    · rename_i e; subst e; simp
    · rename_i e
      rw [if_neg e]
      have := ih h
      refine ⟨by simp; exact this.1, ?_⟩
      simp only [List.mem_cons, not_or]
      exact ⟨fun e2 => e e2.symm, this.2⟩
theorem cutC_lt (c : UInt8) (l : List UInt8) (h : (cutC c l).2.2 = true) : (cutC c l).2.1.length < l.length := by
  have := congrArg List.length (cutC_spec c l h).1
  simp at this
  omega
theorem splitC_none (c : UInt8) (l : List UInt8) (h : c ∉ l) : splitC c l = [l] := by
  induction l with
  | nil => rfl
  | cons x r ih =>
    have h1 : x ≠ c := fun e => h (by simp [e])
    have h2 : c ∉ r := fun e => h (by simp [e])
    simp [splitC, h1, ih h2]
theorem splitC_at (c : UInt8) (l t : List UInt8) (h : c ∉ l) : splitC c (l ++ c :: t) = l :: splitC c t := by
  induction l with
  | nil => simp [splitC]
  | cons x r ih =>
    have h1 : x ≠ c := fun e => h (by simp [e])
    have h2 : c ∉ r := fun e => h (by simp [e])
    simp [splitC, h1, ih h2]
/-- Words joined. -/
def joinC (c : UInt8) : List (List UInt8) → List UInt8
  | [] => []
  | [x] => x
  | x :: y :: r => x ++ c :: joinC c (y :: r)
theorem join_eq (c : UInt8) : ∀ ws : List (List UInt8), Lib.join ws [c] = joinC c ws
  | [] => rfl
  | [x] => Lib.join_one x [c]
  | x :: y :: r => by
    have ih := join_eq c (y :: r)
    unfold joinC
    rw [← ih]
    simp [Lib.join, List.intercalate, List.intersperse]
theorem splitC_join (c : UInt8) : ∀ ws : List (List UInt8), ws ≠ [] → (∀ w ∈ ws, c ∉ w) → splitC c (joinC c ws) = ws
  | [], h, _ => absurd rfl h
  | [x], _, h => splitC_none c x (h x (by simp))
  | x :: y :: r, _, h => by
    unfold joinC
    rw [splitC_at c x _ (h x (by simp)), splitC_join c (y :: r) (by simp) (fun w hw => h w (by simp at hw ⊢; exact .inr hw))]
theorem join_splitC (c : UInt8) : ∀ l : List UInt8, joinC c (splitC c l) = l
  | [] => rfl
  | x :: r => by
    have ih := join_splitC c r
    unfold splitC
    by_cases h : x = c
    · rw [if_pos h]
      obtain ⟨y, t, e⟩ := List.exists_cons_of_ne_nil (splitC_ne c r)
      rw [e] at ih ⊢
      unfold joinC
      rw [ih, h]; rfl
    · rw [if_neg h]
      obtain ⟨y, t, e⟩ := List.exists_cons_of_ne_nil (splitC_ne c r)
      rw [e] at ih ⊢
      cases t with
      | nil => simp [joinC] at ih ⊢; exact ih
      | cons z t => simp [joinC] at ih ⊢; exact ih
theorem joinC_mem (c d : UInt8) : ∀ ws : List (List UInt8), d ≠ c → (∀ w ∈ ws, d ∉ w) → d ∉ joinC c ws
  | [], _, _ => by simp [joinC]
  | [x], _, h => h x (by simp)
  | x :: y :: r, hd, h => by
    unfold joinC
    have ih := joinC_mem c d (y :: r) hd (fun w hw => h w (by simp at hw ⊢; exact .inr hw))
    have hx := h x (by simp)
    simp [hx, ih, hd]
end Go.Proofs.YtijiggolphppbaaGreatDoor
