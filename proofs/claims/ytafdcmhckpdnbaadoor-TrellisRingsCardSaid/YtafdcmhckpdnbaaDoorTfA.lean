/- apiaryref07.IsName, apiaryref01.Same walked. -/
import Derived.Test.YtafdcmhckpdnbaaDoorReI
namespace Go.Proofs.YtafdcmhckpdnbaaDoor
open Go.RowKit

theorem beq_dec (a b : List UInt8) : (a == b) = decide (a = b) := by by_cases h : a = b <;> simp [h]
def Ans (P : Prop) (w : World) (e : Ending) (w' : World) : Prop := ∃ B : Bool, e = .returned (.bool B) ∧ (B = true ↔ P) ∧ Chg (fun _ => False) w w'
theorem bs_eq (a b : List UInt8) : ((bs a).toList == (bs b).toList) = decide (a = b) := by
  rw [Lib.toList_data, Lib.toList_data, bs_data, bs_data]
  exact beq_dec a b


set_option maxRecDepth 100000 in
set_option maxHeartbeats 4000000 in
theorem rname_any (s : ByteArray) (hs : s.size ≤ maxLen) (w : World) : Calls Tryd.prog 48 #[.string s] w (Rets (.bool (nameL s.data.toList)) (fun w' => w = w')) := by
  have hsl : s.data.toList.length = s.size := (Lib.size_eq s).symm
  unfold maxLen at hs
  by_cases h1 : s.size < 1
  · have h1' : (s.size : Int) < 1 := by omega
    have hr : nameL s.data.toList = false := by unfold nameL; rw [hsl]; simp; omega
    rw [hr]
    clear hsl hr
    go_enter Tryd.func48, Tryd.ntmps48
    go_wp2_with fail
    go_ret
    exact ⟨rfl, rfl⟩
  · have h1' : ¬ (s.size : Int) < 1 := by omega
    have d1 : decide ((s.size : Int) < 1) = false := decide_eq_false h1'
    by_cases h8 : 8 < s.size
    · have h8' : (8 : Int) < (s.size : Int) := by omega
      have hr : nameL s.data.toList = false := by unfold nameL; rw [hsl]; simp; omega
      rw [hr]
      clear hsl hr
      go_enter Tryd.func48, Tryd.ntmps48
      go_wp2_with fail
      go_ret
      exact ⟨rfl, rfl⟩
    · have h8' : ¬ (8 : Int) < (s.size : Int) := by omega
      have d8 : decide ((8 : Int) < (s.size : Int)) = false := decide_eq_false h8'
      have hr : nameL s.data.toList = s.data.toList.all letB := by unfold nameL; rw [hsl]; simp; omega
      have HR := hid hr
      have HSL := hid hsl
      obtain ⟨R, hR⟩ : ∃ R, R = nameL s.data.toList := ⟨_, rfl⟩
      rw [← hR]
      rw [hr] at hR
      have HRR := hid hR
      clear hsl hr hR
      go_enter Tryd.func48, Tryd.ntmps48
      go_wp2_with fail
      go_loop [3] (fun i => ∃ k : Nat, k ≤ s.size ∧ i = .int .i64 k ∧ ∀ j (h : j < s.size), j < k → letB s[j] = true) (fun i => s.size - (intOf i).toNat)
      case atStart => exact ⟨0, Nat.zero_le _, rfl, fun j _ h => absurd h (Nat.not_lt_zero _)⟩
      case round =>
        obtain ⟨k, hk, rfl, hall⟩ := hrel
        have HA := hid hall
        clear hall
        by_cases hkn : k < s.size
        · have hkn' : (k : Int) < s.size := by omega
          have cls : (decide ((97 : Int) ≤ ((s[k]'hkn).toNat : Int)) = true ∧ decide (((s[k]'hkn).toNat : Int) ≤ 122) = true ∧ decide ((48 : Int) ≤ ((s[k]'hkn).toNat : Int)) = true ∧ decide (((s[k]'hkn).toNat : Int) ≤ 57) = false ∧ letB (s[k]'hkn) = true) ∨ (decide ((97 : Int) ≤ ((s[k]'hkn).toNat : Int)) = true ∧ decide (((s[k]'hkn).toNat : Int) ≤ 122) = false ∧ decide ((48 : Int) ≤ ((s[k]'hkn).toNat : Int)) = true ∧ decide (((s[k]'hkn).toNat : Int) ≤ 57) = false ∧ letB (s[k]'hkn) = false) ∨ (decide ((97 : Int) ≤ ((s[k]'hkn).toNat : Int)) = false ∧ decide (((s[k]'hkn).toNat : Int) ≤ 122) = true ∧ decide ((48 : Int) ≤ ((s[k]'hkn).toNat : Int)) = true ∧ decide (((s[k]'hkn).toNat : Int) ≤ 57) = true ∧ letB (s[k]'hkn) = true) ∨ (decide ((97 : Int) ≤ ((s[k]'hkn).toNat : Int)) = false ∧ decide (((s[k]'hkn).toNat : Int) ≤ 122) = true ∧ decide ((48 : Int) ≤ ((s[k]'hkn).toNat : Int)) = true ∧ decide (((s[k]'hkn).toNat : Int) ≤ 57) = false ∧ letB (s[k]'hkn) = false) ∨ (decide ((97 : Int) ≤ ((s[k]'hkn).toNat : Int)) = false ∧ decide (((s[k]'hkn).toNat : Int) ≤ 122) = true ∧ decide ((48 : Int) ≤ ((s[k]'hkn).toNat : Int)) = false ∧ decide (((s[k]'hkn).toNat : Int) ≤ 57) = true ∧ letB (s[k]'hkn) = false) := by
            unfold letB
            simp only [decide_eq_true_eq, decide_eq_false_iff_not, Bool.or_eq_true, Bool.or_eq_false_iff, Bool.and_eq_true, Bool.and_eq_false_iff]
            omega
          rcases cls with ⟨e97, e122, e48, e57, hB⟩ | ⟨e97, e122, e48, e57, hB⟩ | ⟨e97, e122, e48, e57, hB⟩ | ⟨e97, e122, e48, e57, hB⟩ | ⟨e97, e122, e48, e57, hB⟩
          all_goals have HB := hid hB
          all_goals clear hB
          all_goals go_wp2_with fail
          all_goals first
            | (go_ret
               refine ⟨?_, rfl⟩
               have : R = false := by
                 rw [HRR.out, Bool.eq_false_iff]
                 intro h
                 have h2 := List.all_eq_true.1 h (s[k]'hkn) (by rw [ByteArray.getElem_eq_getElem_data, ← Array.getElem_toList]; exact List.getElem_mem _)
                 rw [HB.out] at h2
                 exact Bool.false_ne_true h2
               rw [this] <;> rfl)
            | skip
          all_goals go_round
          all_goals first
            | (refine ⟨k + 1, by omega, by go_num, fun j hj hjk => ?_⟩
               by_cases e : j = k
               · subst e; exact HB.out
               · exact HA.out j hj (by omega))
            | (simp [intOf]; omega)
        · obtain rfl : k = s.size := by omega
          go_wp2_with fail
          go_ret
          refine ⟨?_, rfl⟩
          have : R = true := by
            rw [HRR.out, List.all_eq_true]
            intro x hx
            obtain ⟨j, hj, e⟩ := List.mem_iff_getElem.1 hx
            have hj' : j < s.size := by rw [← HSL.out]; exact hj
            have h2 := HA.out j hj' hj'
            have e2 : s[j] = x := by rw [← e]; simp [ByteArray.getElem_eq_getElem_data]
            rw [← e2]; exact h2
          rw [this] <;> rfl

set_option maxRecDepth 100000 in
set_option maxHeartbeats 2000000 in
theorem rsameS_any (v u : Value) (ss ts : List (List UInt8)) (w : World) (hv : NamesAt w v ss) (hu : NamesAt w u ts) :
    Calls Tryd.prog 16 #[v, u] w (Ans (ss = ts) w) := by
  have hl1 := hv.len
  have hl2 := hu.len
  have hm1 := hv.le
  unfold maxLen at hm1
  have HV := hid hv
  have HU := hid hu
  clear hv hu
  by_cases hl : ss.length = ts.length
  · have hl' : (ss.length : Int) = ts.length := by omega
    rw [← hl] at hl2
    go_enter Tryd.func16, Tryd.ntmps16
    go_wp2_with fail
    go_loopw [5] (fun i wr => ∃ k : Nat, k ≤ ss.length ∧ i = .int .i64 k ∧ Chg (fun _ => False) w wr ∧ ss.take k = ts.take k) (fun i _ => ss.length - (intOf i).toNat)
    case atStart => exact ⟨0, Nat.zero_le _, rfl, Chg.refl _ _, rfl⟩
    case round =>
      obtain ⟨k, hk, rfl, hch, htk⟩ := hrel
      have HC := hid hch
      have HT := hid htk
      have S1 := HV.out.chg hch (fun _ _ h => h)
      have S2 := HU.out.chg hch (fun _ _ h => h)
      clear hch htk
      by_cases hkn : k < ss.length
      · have hkn' : (k : Int) < ss.length := by omega
        obtain ⟨ad, hix, hadc, hadb⟩ := S1.ix k hkn
        obtain ⟨ad2, hix2, hadc2, hadb2⟩ := S2.ix k (by omega)
        clear S1 S2
        by_cases he : ss[k] = ts[k]'(by omega)
        · rw [← he] at hadc2
          have hst : ss.take (k + 1) = ts.take (k + 1) := by rw [List.take_succ_eq_append_getElem hkn, List.take_succ_eq_append_getElem (by omega), HT.out, he]
          have HST := hid hst
          clear hst he
          generalize bs ss[k] = x at *
          go_wp2_with fail
          go_quiet (fail)
          go_wp2_with fail
          go_roundw
          case rel => exact ⟨k + 1, by omega, by go_num, HC.out.drewN _, HST.out⟩
          case measure => simp [intOf]; omega
        · have hne := bs_eq ss[k] (ts[k]'(by omega))
          rw [decide_eq_false he] at hne
          have HE := hid he
          clear he
          generalize bs ss[k] = x at *
          generalize bs (ts[k]'(by omega)) = y at *
          go_wp2_with fail
          go_quiet (fail)
          go_wp2_with fail
          go_ret
          refine ⟨false, rfl, ⟨fun h => (Bool.false_ne_true h).elim, fun h => ?_⟩, HC.out.drewN _⟩
          subst h
          exact absurd rfl HE.out
      · obtain rfl : k = ss.length := by omega
        clear S1 S2
        go_wp2_with fail
        go_ret
        refine ⟨true, rfl, ⟨fun _ => ?_, fun _ => rfl⟩, HC.out⟩
        have := HT.out
        rw [List.take_length, hl, List.take_length] at this
        exact this
  · have hl' : ¬ (ss.length : Int) = ts.length := by omega
    go_enter Tryd.func16, Tryd.ntmps16
    go_wp2_with fail
    go_ret
    exact ⟨false, rfl, ⟨fun h => (Bool.false_ne_true h).elim, fun h => absurd (congrArg List.length h) hl⟩, Chg.refl _ _⟩

end Go.Proofs.YtafdcmhckpdnbaaDoor
