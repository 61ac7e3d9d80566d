/- apiaryref07.IsName, Code walked. -/
import Derived.Test.YtbaipdhgjalgoaaDoorReQ
namespace Go.Proofs.YtbaipdhgjalgoaaDoor
open Go.RowKit

set_option maxRecDepth 100000 in
set_option maxHeartbeats 4000000 in
theorem rname_any (s : ByteArray) (hs : s.size ≤ maxLen) (w : World) : Calls Tryd.prog 18 #[.string s] w (Rets (.bool (nameL s.data.toList)) (fun w' => w = w')) := by
  have hsl : s.data.toList.length = s.size := (Lib.size_eq s).symm
  unfold maxLen at hs
  by_cases h1 : s.size < 1
  · have h1' : (s.size : Int) < 1 := by omega
    have hr : nameL s.data.toList = false := by unfold nameL; rw [hsl]; simp; omega
    rw [hr]
    clear hsl hr
    go_enter Tryd.func18, Tryd.ntmps18
    go_wp2_with fail
    go_ret
    exact ⟨rfl, rfl⟩
  · have h1' : ¬ (s.size : Int) < 1 := by omega
    have d1 : decide ((s.size : Int) < 1) = false := decide_eq_false h1'
    by_cases h8 : 8 < s.size
    · have h8' : (8 : Int) < (s.size : Int) := by omega
      have hr : nameL s.data.toList = false := by unfold nameL; rw [hsl]; simp; omega
      rw [hr]
      clear hsl hr
      go_enter Tryd.func18, Tryd.ntmps18
      go_wp2_with fail
      go_ret
      exact ⟨rfl, rfl⟩
    · have h8' : ¬ (8 : Int) < (s.size : Int) := by omega
      have d8 : decide ((8 : Int) < (s.size : Int)) = false := decide_eq_false h8'
      have hr : nameL s.data.toList = s.data.toList.all letB := by unfold nameL; rw [hsl]; simp; omega
      have HR := hid hr
      have HSL := hid hsl
      obtain ⟨R, hR⟩ : ∃ R, R = nameL s.data.toList := ⟨_, rfl⟩
      rw [← hR]
      rw [hr] at hR
      have HRR := hid hR
      clear hsl hr hR
      go_enter Tryd.func18, Tryd.ntmps18
      go_wp2_with fail
      go_loop [3] (fun i => ∃ k : Nat, k ≤ s.size ∧ i = .int .i64 k ∧ ∀ j (h : j < s.size), j < k → letB s[j] = true) (fun i => s.size - (intOf i).toNat)
      case atStart => exact ⟨0, Nat.zero_le _, rfl, fun j _ h => absurd h (Nat.not_lt_zero _)⟩
      case round =>
        obtain ⟨k, hk, rfl, hall⟩ := hrel
        have HA := hid hall
        clear hall
        by_cases hkn : k < s.size
        · have hkn' : (k : Int) < s.size := by omega
          have cls : (decide ((97 : Int) ≤ ((s[k]'hkn).toNat : Int)) = true ∧ decide (((s[k]'hkn).toNat : Int) ≤ 122) = true ∧ decide ((48 : Int) ≤ ((s[k]'hkn).toNat : Int)) = true ∧ decide (((s[k]'hkn).toNat : Int) ≤ 57) = false ∧ letB (s[k]'hkn) = true) ∨ (decide ((97 : Int) ≤ ((s[k]'hkn).toNat : Int)) = true ∧ decide (((s[k]'hkn).toNat : Int) ≤ 122) = false ∧ decide ((48 : Int) ≤ ((s[k]'hkn).toNat : Int)) = true ∧ decide (((s[k]'hkn).toNat : Int) ≤ 57) = false ∧ letB (s[k]'hkn) = false) ∨ (decide ((97 : Int) ≤ ((s[k]'hkn).toNat : Int)) = false ∧ decide (((s[k]'hkn).toNat : Int) ≤ 122) = true ∧ decide ((48 : Int) ≤ ((s[k]'hkn).toNat : Int)) = true ∧ decide (((s[k]'hkn).toNat : Int) ≤ 57) = true ∧ letB (s[k]'hkn) = true) ∨ (decide ((97 : Int) ≤ ((s[k]'hkn).toNat : Int)) = false ∧ decide (((s[k]'hkn).toNat : Int) ≤ 122) = true ∧ decide ((48 : Int) ≤ ((s[k]'hkn).toNat : Int)) = true ∧ decide (((s[k]'hkn).toNat : Int) ≤ 57) = false ∧ letB (s[k]'hkn) = false) ∨ (decide ((97 : Int) ≤ ((s[k]'hkn).toNat : Int)) = false ∧ decide (((s[k]'hkn).toNat : Int) ≤ 122) = true ∧ decide ((48 : Int) ≤ ((s[k]'hkn).toNat : Int)) = false ∧ decide (((s[k]'hkn).toNat : Int) ≤ 57) = true ∧ letB (s[k]'hkn) = false) := by
            unfold letB
            simp only [decide_eq_true_eq, decide_eq_false_iff_not, Bool.or_eq_true, Bool.or_eq_false_iff, Bool.and_eq_true, Bool.and_eq_false_iff]
            omega
          rcases cls with ⟨e97, e122, e48, e57, hB⟩ | ⟨e97, e122, e48, e57, hB⟩ | ⟨e97, e122, e48, e57, hB⟩ | ⟨e97, e122, e48, e57, hB⟩ | ⟨e97, e122, e48, e57, hB⟩
          all_goals have HB := hid hB
          all_goals clear hB
          all_goals go_wp2_with fail
          all_goals first
            | (go_ret
               refine ⟨?_, rfl⟩
               have : R = false := by
                 rw [HRR.out, Bool.eq_false_iff]
                 intro h
                 have h2 := List.all_eq_true.1 h (s[k]'hkn) (by rw [ByteArray.getElem_eq_getElem_data, ← Array.getElem_toList]; exact List.getElem_mem _)
                 rw [HB.out] at h2
                 exact Bool.false_ne_true h2
               rw [this] <;> rfl)
            | skip
          all_goals go_round
          all_goals first
            | (refine ⟨k + 1, by omega, by go_num, fun j hj hjk => ?_⟩
               by_cases e : j = k
               · subst e; exact HB.out
               · exact HA.out j hj (by omega))
            | (simp [intOf]; omega)
        · obtain rfl : k = s.size := by omega
          go_wp2_with fail
          go_ret
          refine ⟨?_, rfl⟩
          have : R = true := by
            rw [HRR.out, List.all_eq_true]
            intro x hx
            obtain ⟨j, hj, e⟩ := List.mem_iff_getElem.1 hx
            have hj' : j < s.size := by rw [← HSL.out]; exact hj
            have h2 := HA.out j hj' hj'
            have e2 : s[j] = x := by rw [← e]; simp [ByteArray.getElem_eq_getElem_data]
            rw [← e2]; exact h2
          rw [this] <;> rfl
end Go.Proofs.YtbaipdhgjalgoaaDoor
