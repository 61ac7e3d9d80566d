/- recipe.code walked. -/
import Derived.Test.YtbaipdhgjalgoaaDoorReF
import Derived.Deep.QuietTactic
import Derived.BigQuiet
namespace Go.Proofs.YtbaipdhgjalgoaaDoor
open Go.RowKit

theorem ib_any (c : UInt8) (w : World) : Calls Tryd.prog 72 #[.string { data := #[48, 49, 50, 51, 52, 53, 54, 55, 56, 57, 97, 98, 99, 100, 101, 102] }, .int .u8 c.toNat] w (Rets (.int .i64 (digV c)) (fun w' => w = w')) := by
  refine Calls.mono (Tryd.strings_IndexByte digitsS c.toNat w) ?_
  rintro e w' ⟨rfl, rfl⟩
  exact ⟨by simp [digV, digitsS, digitsL], rfl⟩
theorem quietR {P : Program} {f : FuncId} {args : Array Value} {w : World} {n : Nat} {v : Value}
    (h : Calls P f args (w.drewN n) (Rets v (fun w' => w.drewN n = w'))) : Calls P f args (w.drewN n) fun e w'' => e = .returned v ∧ ∃ m, w'' = w.drewN m :=
  h.mono fun _ _ ⟨he, hm⟩ => ⟨he, n, hm.symm⟩
theorem unhex_cons (x y : UInt8) (r : List UInt8) : unhex (x :: y :: r) = if digV x < 0 ∨ digV y < 0 then none else (unhex r).map (UInt8.ofNat (16 * (digV x).toNat + (digV y).toNat) :: ·) := by rw [unhex]

set_option maxRecDepth 100000 in
set_option maxHeartbeats 1000000 in
theorem code_any (c : List UInt8) (hc : c.length ≤ maxLen) (w : World) : Calls Tryd.prog 54 #[.string (bs c)] w (Rets (.tuple #[.string (bs ((codeL c).getD [])), .bool (codeL c).isSome]) (Chg (fun _ => False) w)) := by
  have hsz := bs_size c
  unfold maxLen at hc
  by_cases h45 : c = [45]
  · subst h45
    have : codeL [45] = some [] := by unfold codeL; rw [if_pos rfl]
    rw [this]
    show Calls Tryd.prog 54 #[.string { data := #[45] }] w _
    clear hsz
    go_enter Tryd.func54, Tryd.ntmps54
    go_wp2
    go_ret2
    exact ⟨rfl, Chg.refl _ _⟩
  · have e45 : ((bs c).toList == [45]) = false := by
      rw [Lib.toList_data, bs_data]
      simpa using h45
    by_cases hbad : c = [] ∨ c.length % 2 ≠ 0 ∨ 128 < c.length
    · have hr : codeL c = none := by unfold codeL; rw [if_neg h45, if_pos hbad]
      rw [hr]
      clear hr
      by_cases h0 : c = []
      · subst h0
        have e0 : (bs []).toList.isEmpty = true := by rw [ba_isEmpty]; rfl
        go_enter Tryd.func54, Tryd.ntmps54
        go_wp2
        go_ret2
        exact ⟨rfl, Chg.refl _ _⟩
      · have e0 : (bs c).toList.isEmpty = false := by rw [ba_isEmpty, hsz]; simpa using h0
        by_cases h2 : c.length % 2 = 0
        · have h128 : (128 : Int) < (c.length : Int) := by rcases hbad with h | h | h <;> first | exact absurd h h0 | exact absurd h2 h | omega
          have h2' : ((c.length : Int) % 2) = 0 := by omega
          go_enter Tryd.func54, Tryd.ntmps54
          go_wp2
          go_ret2
          exact ⟨rfl, Chg.refl _ _⟩
        · have h2' : ¬ ((c.length : Int) % 2) = 0 := by omega
          go_enter Tryd.func54, Tryd.ntmps54
          go_wp2
          go_ret2
          exact ⟨rfl, Chg.refl _ _⟩
    · have hc64 : codeL c = unhex c := by unfold codeL; rw [if_neg h45, if_neg hbad]
      simp only [not_or, Decidable.not_not, Nat.not_lt] at hbad
      obtain ⟨h0, h2, h128⟩ := hbad
      have e0 : (bs c).toList.isEmpty = false := by rw [ba_isEmpty, hsz]; simpa using h0
      have h128' : ¬ (128 : Int) < (c.length : Int) := by omega
      have h2' : ((c.length : Int) % 2) = 0 := by omega
      rw [hc64]
      have hget : ∀ i (h : i < c.length) (h' : i < (bs c).size), (bs c)[i]'h' = c[i] := fun i h h' => by first | rfl | (simp [bs, ByteArray.getElem_eq_getElem_data]; done) | (show (bs c).data[i] = c[i]; simp [bs])
      have HG := hid hget
      clear hc64 h45 hget
      go_enter Tryd.func54, Tryd.ntmps54
      go_wp2_with fail
      go_loopw [4, 5, 6, 7] (fun ov iv _ _ wr => ∃ (i : Nat) (pre : List UInt8), i ≤ c.length ∧ 2 * pre.length = i ∧ iv = .int .i64 (i : Nat) ∧ unhex c = (unhex (c.drop i)).map (pre ++ ·) ∧ wr.ownsRow 0 5 1 ov pre.length (pre.map encB) ∧ (∀ b, ov.ownBlock = some b → w.heap.size ≤ b) ∧ Chg (fun k => w.heap.size ≤ k) w wr) (fun _ iv _ _ _ => c.length - (intOf iv).toNat)
      case atStart => exact ⟨0, [], Nat.zero_le _, rfl, rfl, by simp, by simpa using World.ownsRow_nil _ _ _ _, by simp [Value.ownBlock], Chg.refl _ _⟩
      case round =>
        obtain ⟨i, pre, hk, hpl, rfl, hun, hown, hov, hw⟩ := hrel
        have HW := hid hw
        have HV := hid hov
        have HU := hid hun
        clear hw hov hun
        by_cases hkn : i < c.length
        · have hkn' : (i : Int) < c.length := by omega
          have hkn2 : (i : Int) + 1 < c.length := by omega
          have k1 : i + 1 < c.length := by omega
          have hw1 : IntKind.i64.wrap ((i : Int) + 1) = (i : Int) + 1 := by rw [IntKind.wrap_i64]; omega
          obtain ⟨x, hx⟩ : ∃ x, (bs c)[i]'(by omega) = x := ⟨_, rfl⟩
          obtain ⟨y, hy⟩ : ∃ y, (bs c)[i + 1]'(by omega) = y := ⟨_, rfl⟩
          have hd : c.drop i = x :: y :: c.drop (i + 2) := by
            rw [List.drop_eq_getElem_cons (by omega), List.drop_eq_getElem_cons (by omega : i + 1 < c.length), ← hx, ← hy, HG.out _ (by omega), HG.out _ (by omega)]
            rfl
          have hu2 := HU.out
          rw [hd, unhex_cons] at hu2
          have HU2 := hid hu2
          clear hu2 hd HU
          obtain ⟨dx, hdx⟩ : ∃ dx, dx = digV x := ⟨_, rfl⟩
          obtain ⟨dy, hdy⟩ : ∃ dy, dy = digV y := ⟨_, rfl⟩
          have hbx := ib_any x
          have hby := ib_any y
          rw [← hdx] at hbx
          rw [← hdy] at hby
          have HDX := hid hdx
          have HDY := hid hdy
          clear hdx hdy
          go_wp2_with fail
          go_quiet (first | (go_at_call 72; first | exact quietR (hbx _) | exact quietR (hby _)))
          by_cases hneg : dx < 0 ∨ dy < 0
          · have hno : unhex c = none := by
              have := HU2.out
              rw [← HDX.out, ← HDY.out, if_pos hneg] at this
              exact this
            have HN := hid hno
            clear HU2 hno
            by_cases hx0 : dx < 0
            · go_wp2_with fail
              go_ret2
              exact ⟨by rw [HN.out] <;> rfl, Chg.mono (F := fun k => w.heap.size ≤ k) (by first | exact HW.out | exact HW.out.drewN _) (fun i hi h => by omega)⟩
            · have hy0 : dy < 0 := hneg.resolve_left hx0
              go_wp2_with fail
              go_ret2
              exact ⟨by rw [HN.out] <;> rfl, Chg.mono (F := fun k => w.heap.size ≤ k) (by first | exact HW.out | exact HW.out.drewN _) (fun i hi h => by omega)⟩
          · have hx0 : ¬ dx < 0 := fun h => hneg (.inl h)
            have hy0 : ¬ dy < 0 := fun h => hneg (.inr h)
            have hownN : ∀ n, (wr.drewN n).ownsRow 0 5 1 u4 pre.length (pre.map encB) := fun n => hown
            have HN : Hid (unhex c = ((unhex (c.drop (i + 2))).map (UInt8.ofNat (16 * dx.toNat + dy.toNat) :: ·)).map (pre ++ ·)) := by
              have := HU2.out
              rw [← HDX.out, ← HDY.out, if_neg hneg] at this
              exact this
            have hv : (bits .or .i64 (wrap64 (dx * 16)) dy) % 256 = ((UInt8.ofNat (16 * dx.toNat + dy.toNat)).toNat : Int) := by
              have b1 := (digV_hexd x (by rw [← HDX.out]; exact hx0)).2
              have b2 := (digV_hexd y (by rw [← HDY.out]; exact hy0)).2
              rw [← HDX.out] at b1
              rw [← HDY.out] at b2
              have key : ∀ a b : Fin 16, (bits .or .i64 (wrap64 ((a.1 : Int) * 16)) (b.1 : Int)) % 256 = ((UInt8.ofNat (16 * a.1 + b.1)).toNat : Int) := by decide +kernel
              have := key ⟨dx.toNat, b1⟩ ⟨dy.toNat, b2⟩
              have e1 : ((dx.toNat : Nat) : Int) = dx := by omega
              have e2 : ((dy.toNat : Nat) : Int) = dy := by omega
              simp only at this
              rw [e1, e2] at this
              exact this
            have HVV := hid hv
            clear HU2 hv
            go_wp2_with (refine wpList_append_new rfl _ _ 36 rfl elU8 (hownN _) rfl _ 1 1 rfl rfl rfl (by unfold maxLen; omega) (by omega) (by decide) ?_; intro g1 cap1 w2 hown1 hchg hg1)
            go_roundw
            case rel =>
              refine ⟨i + 2, pre ++ [UInt8.ofNat (16 * dx.toNat + dy.toNat)], by omega, by simp; omega, by go_num, ?_, ?_, ?_, (HW.out.drewN _).trans hchg ?_⟩
              · rw [HN.out, Option.map_map]
                congr 1
                funext z
                simp
              · rw [HVV.out] at hown1
                simpa [encB] using hown1
              · intro b hb
                simp [Value.ownBlock] at hb
                subst hb
                rcases hg1 with h | h
                · exact HV.out _ h
                · exact Nat.le_trans HW.out.size h
              · intro i hi h
                exact HV.out _ h
            case measure => simp [intOf]; omega
        · obtain rfl : i = c.length := by omega
          have hun : unhex c = some pre := by
            rw [HU.out, List.drop_length]
            simp [unhex]
          have hcv := conv_own wr u4 pre hown wr (Chg.refl _ _)
          have HN := hid hun
          clear hun HU
          go_wp2_with fail
          go_ret2
          exact ⟨by rw [HN.out] <;> rfl, Chg.mono (F := fun k => w.heap.size ≤ k) (by first | exact HW.out | exact HW.out.drewN _) (fun i hi h => by omega)⟩
end Go.Proofs.YtbaipdhgjalgoaaDoor
