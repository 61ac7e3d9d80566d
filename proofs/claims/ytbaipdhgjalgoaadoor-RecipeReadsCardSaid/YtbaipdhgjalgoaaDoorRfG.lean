/- apiaryref07.digit, code walked. -/
import Derived.Test.YtbaipdhgjalgoaaDoorRfF
namespace Go.Proofs.YtbaipdhgjalgoaaDoor
open Go.RowKit

theorem digV_neg (x : UInt8) (h : digV x < 0) : digV x = -1 := by
  have key : ∀ k : Fin 256, digV (UInt8.ofNat k.1) < 0 → digV (UInt8.ofNat k.1) = -1 := by decide +kernel
  have := key ⟨x.toNat, x.toNat_lt⟩
  simp only [UInt8.ofNat_toNat] at this
  exact this h
theorem dig_nat (k : Nat) (h : k < 16) (hb : k < ({ data := #[48, 49, 50, 51, 52, 53, 54, 55, 56, 57, 97, 98, 99, 100, 101, 102] } : ByteArray).size) : ({ data := #[48, 49, 50, 51, 52, 53, 54, 55, 56, 57, 97, 98, 99, 100, 101, 102] } : ByteArray)[k]'hb = hexd k := by
  have key : ∀ k : Fin 16, ({ data := #[48, 49, 50, 51, 52, 53, 54, 55, 56, 57, 97, 98, 99, 100, 101, 102] } : ByteArray)[k.1]'k.2 = hexd k.1 := by decide +kernel
  exact key ⟨k, h⟩

set_option maxRecDepth 100000 in
set_option maxHeartbeats 1000000 in
theorem rdigit_any (c : UInt8) (w : World) : Calls Tryd.prog 55 #[.int .u8 c.toNat] w (Rets (.int .i64 (digV c)) (fun w' => w = w')) := by
  obtain ⟨R, hR⟩ : ∃ R, R = digV c := ⟨_, rfl⟩
  rw [← hR]
  have HR := hid hR
  clear hR
  go_enter Tryd.func55, Tryd.ntmps55
  go_wp2_with fail
  go_loop [3] (fun i => ∃ k : Nat, k ≤ 16 ∧ i = .int .i64 k ∧ ∀ j, j < k → hexd j ≠ c) (fun i => 16 - (intOf i).toNat)
  case atStart => exact ⟨0, Nat.zero_le _, rfl, fun j h => absurd h (Nat.not_lt_zero _)⟩
  case round =>
    obtain ⟨k, hk, rfl, hall⟩ := hrel
    have HA := hid hall
    clear hall
    by_cases hkn : k < 16
    · have hkn' : (k : Int) < 16 := by omega
      have hy := dig_nat k hkn hkn
      by_cases he : hexd k = c
      · have hy2 : ((({ data := #[48, 49, 50, 51, 52, 53, 54, 55, 56, 57, 97, 98, 99, 100, 101, 102] } : ByteArray)[k]'hkn).toNat : Int) = c.toNat := by rw [hy, he]
        have HE := hid he
        clear hy he
        go_wp2_with fail
        go_ret
        refine ⟨?_, rfl⟩
        rw [HR.out, ← HE.out, hexd_digV k hkn] <;> rfl
      · have hy2 : ¬ ((({ data := #[48, 49, 50, 51, 52, 53, 54, 55, 56, 57, 97, 98, 99, 100, 101, 102] } : ByteArray)[k]'hkn).toNat : Int) = c.toNat := by
          rw [hy]; intro e; exact he (UInt8.toNat_inj.1 (by omega))
        have HE := hid he
        clear hy he
        go_wp2_with fail
        go_round
        case rel =>
          refine ⟨k + 1, by omega, by go_num, fun j hj => ?_⟩
          by_cases e : j = k
          · subst e; exact HE.out
          · exact HA.out j (by omega)
        case measure => simp [intOf]; omega
    · obtain rfl : k = 16 := by omega
      go_wp2_with fail
      go_ret
      refine ⟨?_, rfl⟩
      have : digV c < 0 := by
        by_cases h : digV c < 0
        · exact h
        · obtain ⟨h1, h2⟩ := digV_hexd c h
          exact absurd h1 (HA.out _ h2)
      rw [HR.out, digV_neg c this] <;> rfl

theorem owns_nil8 (w : World) : (w.alloc (.cells #[] 5)).ownsRow 0 5 1 (.slice (some ⟨w.heap.size, 0, none⟩) 0 0) 0 [] := owns_new w [] 5 1 0 rfl (by unfold maxLen; omega)

set_option maxRecDepth 100000 in
set_option maxHeartbeats 2000000 in
theorem rcode_any (c : List UInt8) (hc : c.length ≤ maxLen) (w : World) : Calls Tryd.prog 38 #[.string (bs c)] w (Rets (.tuple #[.string (bs ((codeL c).getD [])), .bool (codeL c).isSome]) (Chg (fun _ => False) w)) := by
  have hsz := bs_size c
  unfold maxLen at hc
  by_cases h45 : c = [45]
  · subst h45
    have : codeL [45] = some [] := by unfold codeL; rw [if_pos rfl]
    rw [this]
    show Calls Tryd.prog 38 #[.string { data := #[45] }] w _
    clear hsz
    go_enter Tryd.func38, Tryd.ntmps38
    go_wp2
    go_ret2
    exact ⟨rfl, Chg.refl _ _⟩
  · have e45 : ((bs c).toList == [45]) = false := by
      rw [Lib.toList_data, bs_data]
      simpa using h45
    by_cases hbad : c = [] ∨ c.length % 2 ≠ 0 ∨ 128 < c.length
    · have hr : codeL c = none := by unfold codeL; rw [if_neg h45, if_pos hbad]
      rw [hr]
      clear hr
      by_cases h0 : c = []
      · subst h0
        have e0 : (bs []).toList.isEmpty = true := by rw [ba_isEmpty]; rfl
        go_enter Tryd.func38, Tryd.ntmps38
        go_wp2
        go_ret2
        exact ⟨rfl, Chg.refl _ _⟩
      · have e0 : (bs c).toList.isEmpty = false := by rw [ba_isEmpty, hsz]; simpa using h0
        by_cases h2 : c.length % 2 = 0
        · have h128 : (128 : Int) < (c.length : Int) := by rcases hbad with h | h | h <;> first | exact absurd h h0 | exact absurd h2 h | omega
          have h2' : ((c.length : Int) % 2) = 0 := by omega
          go_enter Tryd.func38, Tryd.ntmps38
          go_wp2
          go_ret2
          exact ⟨rfl, Chg.refl _ _⟩
        · have h2' : ¬ ((c.length : Int) % 2) = 0 := by omega
          go_enter Tryd.func38, Tryd.ntmps38
          go_wp2
          go_ret2
          exact ⟨rfl, Chg.refl _ _⟩
    · have hc64 : codeL c = unhex c := by unfold codeL; rw [if_neg h45, if_neg hbad]
      simp only [not_or, Decidable.not_not, Nat.not_lt] at hbad
      obtain ⟨h0, h2, h128⟩ := hbad
      have e0 : (bs c).toList.isEmpty = false := by rw [ba_isEmpty, hsz]; simpa using h0
      have h128' : ¬ (128 : Int) < (c.length : Int) := by omega
      have h2' : ((c.length : Int) % 2) = 0 := by omega
      rw [hc64]
      have hget : ∀ i (h : i < c.length) (h' : i < (bs c).size), (bs c)[i]'h' = c[i] := fun i h h' => by first | rfl | (simp [bs, ByteArray.getElem_eq_getElem_data]; done) | (show (bs c).data[i] = c[i]; simp [bs])
      have HG := hid hget
      have HO := hid (owns_nil8 w)
      have HC0 := hid (((Chg.refl (fun k => w.heap.size ≤ k) w).alloc (.cells #[] 5)))
      clear hc64 h45 hget
      go_enter Tryd.func38, Tryd.ntmps38
      go_wp2_with fail
      go_loopw [4, 5, 6, 7] (fun ov iv _ _ wr => ∃ (i : Nat) (pre : List UInt8), i ≤ c.length ∧ 2 * pre.length = i ∧ iv = .int .i64 (i : Nat) ∧ unhex c = (unhex (c.drop i)).map (pre ++ ·) ∧ wr.ownsRow 0 5 1 ov pre.length (pre.map encB) ∧ (∀ b, ov.ownBlock = some b → w.heap.size ≤ b) ∧ Chg (fun k => w.heap.size ≤ k) w wr) (fun _ iv _ _ _ => c.length - (intOf iv).toNat)
      case atStart => exact ⟨0, [], Nat.zero_le _, rfl, rfl, by simp, HO.out, by simp [Value.ownBlock], HC0.out⟩
      case round =>
        obtain ⟨i, pre, hk, hpl, rfl, hun, hown, hov, hw⟩ := hrel
        have HW := hid hw
        have HV := hid hov
        have HU := hid hun
        clear hw hov hun
        by_cases hkn : i < c.length
        · have hkn' : (i : Int) < c.length := by omega
          have hkn2 : (i : Int) + 1 < c.length := by omega
          have k1 : i + 1 < c.length := by omega
          have hw1 : IntKind.i64.wrap ((i : Int) + 1) = (i : Int) + 1 := by rw [IntKind.wrap_i64]; omega
          obtain ⟨x, hx⟩ : ∃ x, (bs c)[i]'(by omega) = x := ⟨_, rfl⟩
          obtain ⟨y, hy⟩ : ∃ y, (bs c)[i + 1]'(by omega) = y := ⟨_, rfl⟩
          have hd : c.drop i = x :: y :: c.drop (i + 2) := by
            rw [List.drop_eq_getElem_cons (by omega), List.drop_eq_getElem_cons (by omega : i + 1 < c.length), ← hx, ← hy, HG.out _ (by omega), HG.out _ (by omega)]
            rfl
          have hu2 := HU.out
          rw [hd, unhex_cons] at hu2
          have HU2 := hid hu2
          clear hu2 hd HU
          by_cases hneg : (digV x) < 0 ∨ (digV y) < 0
          · have hno : unhex c = none := by
              have := HU2.out
              rw [if_pos hneg] at this
              exact this
            have HN := hid hno
            clear HU2 hno
            by_cases hx0 : (digV x) < 0
            · go_wp2_with (go_at_call 55; refine (rdigit_any _ _).mono ?_; rintro e w9 ⟨rfl, rfl⟩)
              go_ret2
              exact ⟨by rw [HN.out] <;> rfl, HW.out.mono (fun i hi h => by have : w.heap.size ≤ i := h; omega)⟩
            · have hy0 : (digV y) < 0 := hneg.resolve_left hx0
              go_wp2_with (go_at_call 55; refine (rdigit_any _ _).mono ?_; rintro e w9 ⟨rfl, rfl⟩)
              go_ret2
              exact ⟨by rw [HN.out] <;> rfl, HW.out.mono (fun i hi h => by have : w.heap.size ≤ i := h; omega)⟩
          · have hx0 : ¬ (digV x) < 0 := fun h => hneg (.inl h)
            have hy0 : ¬ (digV y) < 0 := fun h => hneg (.inr h)
            have HN : Hid (unhex c = ((unhex (c.drop (i + 2))).map (UInt8.ofNat (16 * (digV x).toNat + (digV y).toNat) :: ·)).map (pre ++ ·)) := by
              have := HU2.out
              rw [if_neg hneg] at this
              exact this
            have b1 := (digV_hexd x hx0).2
            have b2 := (digV_hexd y hy0).2
            have w1 : IntKind.i64.wrap (16 * (digV x)) = 16 * (digV x) := by rw [IntKind.wrap_i64]; omega
            have w2 : IntKind.i64.wrap (16 * (digV x) + (digV y)) = 16 * (digV x) + (digV y) := by rw [IntKind.wrap_i64]; omega
            have hv : 16 * (digV x) + (digV y) = ((UInt8.ofNat (16 * (digV x).toNat + (digV y).toNat)).toNat : Int) := by
              rw [UInt8.toNat_ofNat']; omega
            have HVV := hid hv
            clear HU2 hv hneg
            go_wp2_with (first | (go_at_call 55; refine (rdigit_any _ _).mono ?_; rintro e w9 ⟨rfl, rfl⟩) | (refine wpList_append_new rfl _ _ 36 rfl elU8 hown rfl _ 1 1 rfl rfl rfl (by unfold maxLen; omega) (by omega) (by decide) ?_; intro g1 cap1 w2 hown1 hchg hg1))
            go_roundw
            case rel =>
              refine ⟨i + 2, pre ++ [UInt8.ofNat (16 * (digV x).toNat + (digV y).toNat)], by omega, by simp; omega, by go_num, ?_, ?_, ?_, HW.out.trans hchg ?_⟩
              · rw [HN.out, Option.map_map]
                congr 1
                funext z
                simp
              · rw [HVV.out] at hown1
                simpa [encB] using hown1
              · intro b hb
                simp [Value.ownBlock] at hb
                subst hb
                rcases hg1 with h | h
                · exact HV.out _ h
                · exact Nat.le_trans HW.out.size h
              · intro i hi h
                exact HV.out _ h
            case measure => simp [intOf]; omega
        · obtain rfl : i = c.length := by omega
          have hun : unhex c = some pre := by
            rw [HU.out, List.drop_length]
            simp [unhex]
          have hcv := conv_own wr u4 pre hown wr (Chg.refl _ _)
          have HN := hid hun
          clear hun HU
          go_wp2_with fail
          go_ret2
          exact ⟨by rw [HN.out] <;> rfl, HW.out.mono (fun i hi h => by have : w.heap.size ≤ i := h; omega)⟩
end Go.Proofs.YtbaipdhgjalgoaaDoor
