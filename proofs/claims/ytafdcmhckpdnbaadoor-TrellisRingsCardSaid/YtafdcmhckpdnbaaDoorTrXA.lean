/- Builds whose actions stand each on the next one, in plain words: with the last one's input there is no order, without it there is. -/
import Derived.Test.YtafdcmhckpdnbaaDoorTrC
namespace Go.Proofs.YtafdcmhckpdnbaaDoor
open Go

def ringName (i : Nat) : Nm := [116, 97 + UInt8.ofNat i]
def ringA (n : Nat) (c : List UInt8) (i : Nat) : ActR := ⟨ringName i, [ringName ((i + 1) % n)], c⟩
def ringG (n : Nat) (c : List UInt8) : GrR := ⟨[], (List.range n).map (ringA n c)⟩
def cutA (n : Nat) (c : List UInt8) (i : Nat) : ActR := ⟨ringName i, if i + 1 = n then [] else [ringName ((i + 1) % n)], c⟩
def cutG (n : Nat) (c : List UInt8) : GrR := ⟨[], (List.range n).map (cutA n c)⟩

theorem ringName_ok : ∀ i, i < 12 → nameL (ringName i) = true := by decide
theorem ring_ok {n : Nat} (h1 : 1 ≤ n) (h12 : n ≤ 12) {c : List UInt8} (hc : c.length ≤ 64) : grOK (ringG n c) = true := by
  rw [grOK_iff]
  refine ⟨Nat.zero_le _, by simpa [ringG] using h12, by simp [ringG], fun a ha => ?_⟩
  simp only [ringG, List.mem_map, List.mem_range] at ha
  obtain ⟨i, hi, rfl⟩ := ha
  have := Nat.mod_lt (i + 1) (show 0 < n by omega)
  exact (actOK_iff _).2 ⟨ringName_ok i (by omega), by simp [ringA]; exact ringName_ok _ (by omega), by simp [ringA], hc⟩
theorem cut_ok {n : Nat} (h1 : 1 ≤ n) (h12 : n ≤ 12) {c : List UInt8} (hc : c.length ≤ 64) : grOK (cutG n c) = true := by
  rw [grOK_iff]
  refine ⟨Nat.zero_le _, by simpa [cutG] using h12, by simp [cutG], fun a ha => ?_⟩
  simp only [cutG, List.mem_map, List.mem_range] at ha
  obtain ⟨i, hi, rfl⟩ := ha
  have := Nat.mod_lt (i + 1) (show 0 < n by omega)
  refine (actOK_iff _).2 ⟨ringName_ok i (by omega), ?_, ?_, hc⟩
  · unfold cutA
    split
    · simp
    · simp; exact ringName_ok _ (by omega)
  · unfold cutA
    split <;> simp
theorem to12 {P : Nat → Prop} {n : Nat} (h1 : 1 ≤ n) (h12 : n ≤ 12) (p1 : P 1) (p2 : P 2) (p3 : P 3) (p4 : P 4) (p5 : P 5) (p6 : P 6) (p7 : P 7) (p8 : P 8) (p9 : P 9) (p10 : P 10) (p11 : P 11) (p12 : P 12) : P n := by
  rcases (by omega : n = 1 ∨ n = 2 ∨ n = 3 ∨ n = 4 ∨ n = 5 ∨ n = 6 ∨ n = 7 ∨ n = 8 ∨ n = 9 ∨ n = 10 ∨ n = 11 ∨ n = 12) with rfl | rfl | rfl | rfl | rfl | rfl | rfl | rfl | rfl | rfl | rfl | rfl <;> assumption
/-- Check, all names and codes being well formed. -/
def chk2 (g : GrR) : Nat := if dupB g = true then 21 else if missB g = true then 22 else if (orderR g).length ≠ g.acts.length then 23 else 0
theorem check_chk2 {g : GrR} (h : grOK g = true) : checkR g = chk2 g := by
  unfold checkR wovenR chk2
  rw [h]
  by_cases h1 : dupB g = true
  · simp [h1]
  · by_cases h2 : missB g = true
    · simp [h1, h2]
    · simp [h1, h2]
theorem ring_check {n : Nat} (h1 : 1 ≤ n) (h12 : n ≤ 12) {c : List UInt8} (hc : c.length ≤ 64) : checkR (ringG n c) = 23 := by
  rw [check_chk2 (ring_ok h1 h12 hc)]
  exact to12 (P := fun n => chk2 (ringG n c) = 23) h1 h12 (by kernel_rfl) (by kernel_rfl) (by kernel_rfl) (by kernel_rfl) (by kernel_rfl) (by kernel_rfl) (by kernel_rfl) (by kernel_rfl) (by kernel_rfl) (by kernel_rfl) (by kernel_rfl) (by kernel_rfl)
theorem cut_check {n : Nat} (h1 : 1 ≤ n) (h12 : n ≤ 12) {c : List UInt8} (hc : c.length ≤ 64) : checkR (cutG n c) = 0 := by
  rw [check_chk2 (cut_ok h1 h12 hc)]
  exact to12 (P := fun n => chk2 (cutG n c) = 0) h1 h12 (by kernel_rfl) (by kernel_rfl) (by kernel_rfl) (by kernel_rfl) (by kernel_rfl) (by kernel_rfl) (by kernel_rfl) (by kernel_rfl) (by kernel_rfl) (by kernel_rfl) (by kernel_rfl) (by kernel_rfl)
theorem cut_order {n : Nat} (h1 : 1 ≤ n) (h12 : n ≤ 12) (c : List UInt8) : orderR (cutG n c) = (List.range n).map (n - 1 - ·) :=
  to12 (P := fun n => orderR (cutG n c) = (List.range n).map (n - 1 - ·)) h1 h12 (by kernel_rfl) (by kernel_rfl) (by kernel_rfl) (by kernel_rfl) (by kernel_rfl) (by kernel_rfl) (by kernel_rfl) (by kernel_rfl) (by kernel_rfl) (by kernel_rfl) (by kernel_rfl) (by kernel_rfl)
theorem cut_needs {n : Nat} (h1 : 1 ≤ n) (h12 : n ≤ 12) (c : List UInt8) : placeOf (cutG n c) [116, 97] = some 0 ∧ (needsR (cutG n c) 0).length = n - 1 :=
  ⟨to12 (P := fun n => placeOf (cutG n c) [116, 97] = some 0) h1 h12 (by kernel_rfl) (by kernel_rfl) (by kernel_rfl) (by kernel_rfl) (by kernel_rfl) (by kernel_rfl) (by kernel_rfl) (by kernel_rfl) (by kernel_rfl) (by kernel_rfl) (by kernel_rfl) (by kernel_rfl),
   to12 (P := fun n => (needsR (cutG n c) 0).length = n - 1) h1 h12 (by kernel_rfl) (by kernel_rfl) (by kernel_rfl) (by kernel_rfl) (by kernel_rfl) (by kernel_rfl) (by kernel_rfl) (by kernel_rfl) (by kernel_rfl) (by kernel_rfl) (by kernel_rfl) (by kernel_rfl)⟩
end Go.Proofs.YtafdcmhckpdnbaaDoor
