/- Texts of the proof, one behind the other: apiaryref07.IsName, apiaryref01.Same walked; apiaryref07.Code walked. -/
import Derived.Test.YthglfmacjoecgaaGreatDoorMg09
namespace Go.Proofs.YthglfmacjoecgaaGreatDoor
open Go.RowKit

theorem beq_dec (a b : List UInt8) : (a == b) = decide (a = b) := by by_cases h : a = b <;> simp [h]
def Ans (P : Prop) (w : World) (e : Ending) (w' : World) : Prop := ∃ B : Bool, e = .returned (.bool B) ∧ (B = true ↔ P) ∧ Chg (fun _ => False) w w'
theorem bs_eq (a b : List UInt8) : ((bs a).toList == (bs b).toList) = decide (a = b) := by
  rw [Lib.toList_data, Lib.toList_data, bs_data, bs_data]
  exact beq_dec a b


set_option maxRecDepth 100000 in
set_option maxHeartbeats 4000000 in
theorem rname_any (s : ByteArray) (hs : s.size ≤ maxLen) (w : World) : Calls Tryz.prog 159 #[.string s] w (Rets (.bool (nameL s.data.toList)) (fun w' => w = w')) := by
  have hsl : s.data.toList.length = s.size := (Lib.size_eq s).symm
  unfold maxLen at hs
  by_cases h1 : s.size < 1
  · have h1' : (s.size : Int) < 1 := by omega
    have hr : nameL s.data.toList = false := by unfold nameL; rw [hsl]; simp; omega
    rw [hr]
    clear hsl hr
    go_enter Tryz.func159, Tryz.ntmps159
    go_wp2_with fail
    go_ret
    exact ⟨rfl, rfl⟩
  · have h1' : ¬ (s.size : Int) < 1 := by omega
    have d1 : decide ((s.size : Int) < 1) = false := decide_eq_false h1'
    by_cases h8 : 8 < s.size
    · have h8' : (8 : Int) < (s.size : Int) := by omega
      have hr : nameL s.data.toList = false := by unfold nameL; rw [hsl]; simp; omega
      rw [hr]
      clear hsl hr
      go_enter Tryz.func159, Tryz.ntmps159
      go_wp2_with fail
      go_ret
      exact ⟨rfl, rfl⟩
    · have h8' : ¬ (8 : Int) < (s.size : Int) := by omega
      have d8 : decide ((8 : Int) < (s.size : Int)) = false := decide_eq_false h8'
      have hr : nameL s.data.toList = s.data.toList.all letB := by unfold nameL; rw [hsl]; simp; omega
      have HR := hid hr
      have HSL := hid hsl
      obtain ⟨R, hR⟩ : ∃ R, R = nameL s.data.toList := ⟨_, rfl⟩
      rw [← hR]
      rw [hr] at hR
      have HRR := hid hR
      clear hsl hr hR
      go_enter Tryz.func159, Tryz.ntmps159
      go_wp2_with fail
      go_loop [3] (fun i => ∃ k : Nat, k ≤ s.size ∧ i = .int .i64 k ∧ ∀ j (h : j < s.size), j < k → letB s[j] = true) (fun i => s.size - (intOf i).toNat)
      case atStart => exact ⟨0, Nat.zero_le _, rfl, fun j _ h => absurd h (Nat.not_lt_zero _)⟩
      case round =>
        obtain ⟨k, hk, rfl, hall⟩ := hrel
        have HA := hid hall
        clear hall
        by_cases hkn : k < s.size
        · have hkn' : (k : Int) < s.size := by omega
          have cls : (decide ((97 : Int) ≤ ((s[k]'hkn).toNat : Int)) = true ∧ decide (((s[k]'hkn).toNat : Int) ≤ 122) = true ∧ decide ((48 : Int) ≤ ((s[k]'hkn).toNat : Int)) = true ∧ decide (((s[k]'hkn).toNat : Int) ≤ 57) = false ∧ letB (s[k]'hkn) = true) ∨ (decide ((97 : Int) ≤ ((s[k]'hkn).toNat : Int)) = true ∧ decide (((s[k]'hkn).toNat : Int) ≤ 122) = false ∧ decide ((48 : Int) ≤ ((s[k]'hkn).toNat : Int)) = true ∧ decide (((s[k]'hkn).toNat : Int) ≤ 57) = false ∧ letB (s[k]'hkn) = false) ∨ (decide ((97 : Int) ≤ ((s[k]'hkn).toNat : Int)) = false ∧ decide (((s[k]'hkn).toNat : Int) ≤ 122) = true ∧ decide ((48 : Int) ≤ ((s[k]'hkn).toNat : Int)) = true ∧ decide (((s[k]'hkn).toNat : Int) ≤ 57) = true ∧ letB (s[k]'hkn) = true) ∨ (decide ((97 : Int) ≤ ((s[k]'hkn).toNat : Int)) = false ∧ decide (((s[k]'hkn).toNat : Int) ≤ 122) = true ∧ decide ((48 : Int) ≤ ((s[k]'hkn).toNat : Int)) = true ∧ decide (((s[k]'hkn).toNat : Int) ≤ 57) = false ∧ letB (s[k]'hkn) = false) ∨ (decide ((97 : Int) ≤ ((s[k]'hkn).toNat : Int)) = false ∧ decide (((s[k]'hkn).toNat : Int) ≤ 122) = true ∧ decide ((48 : Int) ≤ ((s[k]'hkn).toNat : Int)) = false ∧ decide (((s[k]'hkn).toNat : Int) ≤ 57) = true ∧ letB (s[k]'hkn) = false) := by
            unfold letB
            simp only [decide_eq_true_eq, decide_eq_false_iff_not, Bool.or_eq_true, Bool.or_eq_false_iff, Bool.and_eq_true, Bool.and_eq_false_iff]
            omega
          rcases cls with ⟨e97, e122, e48, e57, hB⟩ | ⟨e97, e122, e48, e57, hB⟩ | ⟨e97, e122, e48, e57, hB⟩ | ⟨e97, e122, e48, e57, hB⟩ | ⟨e97, e122, e48, e57, hB⟩
          all_goals have HB := hid hB
          all_goals clear hB
          all_goals go_wp2_with fail
          all_goals first
            | (go_ret
               refine ⟨?_, rfl⟩
               have : R = false := by
                 rw [HRR.out, Bool.eq_false_iff]
                 intro h
                 have h2 := List.all_eq_true.1 h (s[k]'hkn) (by rw [ByteArray.getElem_eq_getElem_data, ← Array.getElem_toList]; exact List.getElem_mem _)
                 rw [HB.out] at h2
                 exact Bool.false_ne_true h2
               rw [this] <;> rfl)
            | skip
          all_goals go_round
          all_goals first
            | (refine ⟨k + 1, by omega, by go_num, fun j hj hjk => ?_⟩
               by_cases e : j = k
               · subst e; exact HB.out
               · exact HA.out j hj (by omega))
            | (simp [intOf]; omega)
        · obtain rfl : k = s.size := by omega
          go_wp2_with fail
          go_ret
          refine ⟨?_, rfl⟩
          have : R = true := by
            rw [HRR.out, List.all_eq_true]
            intro x hx
            obtain ⟨j, hj, e⟩ := List.mem_iff_getElem.1 hx
            have hj' : j < s.size := by rw [← HSL.out]; exact hj
            have h2 := HA.out j hj' hj'
            have e2 : s[j] = x := by rw [← e]; simp [ByteArray.getElem_eq_getElem_data]
            rw [← e2]; exact h2
          rw [this] <;> rfl

end Go.Proofs.YthglfmacjoecgaaGreatDoor
namespace Go.Proofs.YthglfmacjoecgaaGreatDoor
open Go.RowKit

theorem u8_div (x : UInt8) : IntKind.u8.wrap ((x.toNat : Int) / 16) = (x.toNat : Int) / 16 := by
  have key : ∀ n : Fin 256, IntKind.u8.wrap ((n.1 : Int) / 16) = (n.1 : Int) / 16 := by decide +kernel
  exact key ⟨x.toNat, x.toNat_lt⟩
theorem u8_mod (x : UInt8) : (x.toNat : Int).tmod 16 = (x.toNat : Int) % 16 := Int.tmod_eq_emod_of_nonneg (by omega)

set_option maxRecDepth 100000 in
set_option maxHeartbeats 2000000 in
theorem rword_any (c : List UInt8) (hc : c.length ≤ 64) (w : World) : Calls Tryz.prog 140 #[.string (bs c)] w (Rets (.string (bs (wordL c))) (Chg (fun _ => False) w)) := by
  have hsz := bs_size c
  by_cases h0 : c = []
  · subst h0
    have e0 : (bs []).toList.isEmpty = true := by rw [ba_isEmpty]; rfl
    go_enter Tryz.func140, Tryz.ntmps140
    go_wp2
    go_ret
    exact ⟨rfl, Chg.refl _ _⟩
  · have hp : 0 < c.length := List.length_pos_iff.2 h0
    have e0 : (bs c).toList.isEmpty = false := by rw [ba_isEmpty, hsz]; simp; omega
    have hwl : wordL c = hex2 c := by unfold wordL; rw [if_neg h0]; rfl
    have hcc : ∀ k (h : k < c.length), (bs c)[k]'(by rw [hsz]; exact h) = c[k] := fun k h => by simp [bs, ByteArray.getElem_eq_getElem_data]
    have hown0 := owns_new w [] 5 1 0 rfl (by unfold maxLen; omega)
    have hc0 : Chg (fun _ => False) w (w.alloc (.cells #[] 5)) := (Chg.refl _ w).alloc _
    have hs0 : w.heap.size ≤ w.heap.size := Nat.le_refl _
    rw [hwl]
    have HCC : Hid (∃ hz : (bs c).size = c.length, ∀ k (h : k < c.length), (bs c)[k]'(by rw [hz]; exact h) = c[k]) := ⟨hsz, hcc⟩
    have HO := hid hown0
    have HC0 := hid hc0
    clear hwl h0 hcc hown0 hc0
    generalize bs c = sc at *
    go_enter Tryz.func140, Tryz.ntmps140
    go_wp2_with fail
    go_loopw [3, 4] (fun ov iv wr => ∃ k : Nat, k ≤ c.length ∧ iv = .int .i64 k ∧ wr.ownsRow 0 5 1 ov (2 * k) ((hex2 (c.take k)).map encB) ∧ (∀ b, ov.ownBlock = some b → w.heap.size ≤ b) ∧ Chg (fun k => w.heap.size ≤ k) w wr) (fun _ iv _ => c.length - (intOf iv).toNat)
    case atStart => exact ⟨0, Nat.zero_le _, rfl, by simpa [hex2] using HO.out, by simp [Value.ownBlock], (HC0.out).mono (fun _ _ h => h.elim)⟩
    case round =>
      obtain ⟨k, hk, rfl, hown, hov, hw⟩ := hrel
      have HW := hid hw
      have HV := hid hov
      clear hw hov
      by_cases hkn : k < c.length
      · have hkn' : (k : Int) < c.length := by omega
        obtain ⟨hz, hcc⟩ := HCC.out
        have hx := hcc k hkn
        have hx8 := c[k].toNat_lt
        rw [← hx] at hx8
        have q1 : (0 : Int) ≤ ((sc[k]'(by omega)).toNat : Int) / 16 := by omega
        have q2 : ((sc[k]'(by omega)).toNat : Int) / 16 < 16 := by omega
        have q3 : (0 : Int) ≤ ((sc[k]'(by omega)).toNat : Int) % 16 := by omega
        have q4 : ((sc[k]'(by omega)).toNat : Int) % 16 < 16 := by omega
        have w1 := u8_div (sc[k]'(by omega))
        have w2 := u8_mod (sc[k]'(by omega))
        have HX := hid hx
        clear hx hcc
        go_wp2_with fail
        go_region_law (refine step_append_new rfl _ _ 125 rfl elU8 hown rfl _ 2 2 rfl rfl rfl (by unfold maxLen; omega) (by omega) (by decide) ?_; intro g1 cap1 w2 hown1 hchg hg1)
        all_goals go_wp2_with fail
        all_goals go_roundw
        all_goals first
          | (simp [intOf]; omega)
          | (refine ⟨k + 1, by omega, by go_num, ?_, ?_, HW.out.trans hchg ?_⟩
             · have e1 : (2 * (k + 1)) = 2 * k + 2 := by omega
               rw [e1, hex2_take c k hkn, List.map_append, ← HX.out]
               rw [dig_at _ q1 q2, dig_at _ q3 q4] at hown1
               exact hown1
             · intro b hb
               simp [Value.ownBlock] at hb
               subst hb
               rcases hg1 with h | h
               · exact HV.out _ h
               · exact Nat.le_trans HW.out.size h
             · intro i hi h
               exact HV.out _ h)
      · obtain rfl : k = c.length := by omega
        have hcv := conv_own wr u3 (hex2 c) (by rw [hex2_len]; simpa using hown) wr (Chg.refl _ _)
        go_wp2_with fail
        go_ret
        exact ⟨rfl, HW.out.mono (fun i hi h => by have : w.heap.size ≤ i := h; omega)⟩
end Go.Proofs.YthglfmacjoecgaaGreatDoor
