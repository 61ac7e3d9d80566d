/- mill.Steps walked: stepsG. -/
import Derived.Test.YtegappcdmaodjaaDoorMiA
import Derived.Test.YtegappcdmaodjaaDoorMiB
namespace Go.Proofs.YtegappcdmaodjaaDoor
open Go.RowKit

/-- A code's steps from a place on; none: there is none at a place. -/
def stepsG (code : ByteArray) : Nat → Nat → Option (List ByteArray)
  | 0, at_ => if code.size ≤ at_ then some [] else none
  | f + 1, at_ => if code.size ≤ at_ then some [] else if widN code at_ = 0 then none else (stepsG code f (at_ + widN code at_)).map (code.extract at_ (at_ + widN code at_) :: ·)
theorem stepsG_end (code : ByteArray) (f at_ : Nat) (h : code.size ≤ at_) : stepsG code f at_ = some [] := by
  cases f <;> simp [stepsG, h]
theorem widN_le (code : ByteArray) (i : Nat) : i + widN code i ≤ code.size ∨ widN code i = 0 := by
  unfold widN
  split
  · split <;> omega
  · omega
theorem wid_rest (code : ByteArray) (i : Nat) (h : i < code.size) : widN (code.extract i code.size) 0 = widN code i := by
  have hs : (code.extract i code.size).size = code.size - i := by simp
  have g : ∀ k (hk : k < (code.extract i code.size).size), (code.extract i code.size)[k] = code[i + k]'(by rw [hs] at hk; omega) := fun k hk => by simp [ByteArray.getElem_extract]
  unfold widN
  rw [dif_pos (by omega), dif_pos h]
  have e : wid0 (code.extract i code.size) 0 (by omega) = wid0 code i h := by
    unfold wid0
    simp only [g]
    have e0 : (code[i + 0]'(by omega)) = code[i] := rfl
    simp only [Nat.add_zero, Nat.zero_add]
    by_cases h2 : i + 1 < code.size
    · have h3 : 1 < (code.extract i code.size).size := by omega
      simp only [h2, h3, and_true]
    · have h3 : ¬ 1 < (code.extract i code.size).size := by omega
      simp only [h2, h3, and_false, dite_false]
  rw [e, hs]
  simp

def sizeV : Value → Nat
  | .string s => s.size
  | _ => 0
theorem ba_isEmpty (s : ByteArray) : s.toList.isEmpty = decide (s.size = 0) := by
  have e : (s.toList == (ByteArray.mk #[]).toList) = decide (s = ByteArray.mk #[]) := by rw [← beq_toListBytes, ba_eq]
  have e2 : (ByteArray.mk #[]).toList = [] := by unfold ByteArray.toList ByteArray.toList.loop; simp [ByteArray.size]
  have e3 : s.size = 0 ↔ s = ByteArray.mk #[] := ⟨fun h => ByteArray.ext (Array.eq_empty_of_size_eq_zero h), fun h => by rw [h]; rfl⟩
  rw [e2] at e
  have e4 : s.toList.isEmpty = (s.toList == []) := by cases s.toList <;> rfl
  rw [e4, e]
  by_cases h : s.size = 0
  · rw [decide_eq_true h, decide_eq_true (e3.1 h)]
  · rw [decide_eq_false h, decide_eq_false (fun hh => h (e3.2 hh))]
/-- What Steps answers. -/
def stepsOut (code : ByteArray) : Option (List ByteArray) := stepsG code 64 0

set_option maxRecDepth 100000 in
set_option maxHeartbeats 1000000 in
theorem steps_any (code : ByteArray) (hs : code.size ≤ maxLen) (w : World) :
    Calls Tryd.prog 13 #[.string code] w (fun e w' => Chg (fun _ => False) w w' ∧
      ((64 < code.size ∧ e = .returned (.tuple #[.slice none 0 0, .int .i64 4])) ∨
       (code.size ≤ 64 ∧ stepsOut code = none ∧ e = .returned (.tuple #[.slice none 0 0, .int .i64 32])) ∨
       (code.size ≤ 64 ∧ ∃ l, stepsOut code = some l ∧ ∃ v, e = .returned (.tuple #[v, .int .i64 0]) ∧ w'.ownsRow 0 9 1 v l.length (l.map Value.string) ∧ ∀ k, v.ownBlock = some k → w.heap.size ≤ k))) := by
  unfold maxLen at hs
  by_cases h64 : 64 < code.size
  · have h64' : (64 : Int) < code.size := by omega
    go_enter Tryd.func13, Tryd.ntmps13
    go_wp2
    go_ret2
    exact ⟨Chg.refl _ w, .inl ⟨h64, rfl⟩⟩
  · have h64' : (code.size : Int) ≤ 64 := by omega
    go_enter Tryd.func13, Tryd.ntmps13
    go_wp2_with fail
    go_loopw [0, 4] (fun cv ov wr => ∃ at_ l, at_ ≤ code.size ∧ cv = .string (code.extract at_ code.size) ∧ l.length ≤ at_ ∧ stepsOut code = (stepsG code (64 - l.length) at_).map (l ++ ·) ∧
      wr.ownsRow 0 9 1 ov l.length (l.map Value.string) ∧ (∀ k, ov.ownBlock = some k → w.heap.size ≤ k) ∧ Chg (fun _ => False) w wr) (fun cv _ _ => sizeV cv)
    case atStart => exact ⟨0, [], Nat.zero_le _, by simp [ByteArray.extract_zero_size], Nat.zero_le _, by simp [stepsOut], World.ownsRow_nil _ _ _ _, by simp [Value.ownBlock], Chg.refl _ w⟩
    case round =>
      obtain ⟨at_, l, hat, rfl, hll, hout, hown, hov, hch⟩ := hrel
      have hcs : (code.extract at_ code.size).size = code.size - at_ := by simp
      have HO := hid hout
      have HC := hid hch
      have HV := hid hov
      clear hout hch hov
      by_cases hend : at_ = code.size
      · have hE : (code.extract at_ code.size).toList.isEmpty = true := by rw [ba_isEmpty, hcs]; simp; omega
        go_wp2_with fail
        go_ret2
        refine ⟨HC.out, .inr (.inr ⟨by omega, l, ?_, _, rfl, hown, HV.out⟩)⟩
        rw [HO.out, stepsG_end _ _ _ (by omega)]
        simp
      · have hE : (code.extract at_ code.size).toList.isEmpty = false := by rw [ba_isEmpty, hcs]; simp; omega
        have hw := wid_rest code at_ (by omega)
        have hwa : ∀ w : World, Calls Tryd.prog 20 #[.string (code.extract at_ code.size), .int .i64 0] w (Rets (.int .i64 (widN code at_)) (fun w' => w = w')) := fun w => by
          have := width_any (code.extract at_ code.size) 0 w (by omega) (by unfold maxLen; omega)
          rw [hw] at this
          exact this
        have hG : ∀ F, stepsG code (F + 1) at_ = if widN code at_ = 0 then none else (stepsG code F (at_ + widN code at_)).map (code.extract at_ (at_ + widN code at_) :: ·) := fun F => by rw [stepsG, if_neg (by omega)]
        have hF : 64 - l.length = (64 - (l.length + 1)) + 1 := by omega
        by_cases hz : widN code at_ = 0
        · have hz' : (widN code at_ : Int) = 0 := by omega
          have hnone : stepsOut code = none := by rw [HO.out, hF, hG, if_pos hz]; rfl
          clear hw hG hF HO
          go_wp2_with (go_at_call 20; refine (hwa _).mono ?_; rintro e w' ⟨rfl, rfl⟩)
          go_ret2
          exact ⟨HC.out, .inr (.inl ⟨by omega, hnone, rfl⟩)⟩
        · have hz' : ¬ (widN code at_ : Int) = 0 := by omega
          have hle : widN code at_ ≤ code.size - at_ := by rcases widN_le code at_ with h | h <;> omega
          have hsome : stepsOut code = (stepsG code (64 - (l.length + 1)) (at_ + widN code at_)).map ((l ++ [code.extract at_ (at_ + widN code at_)]) ++ ·) := by
            rw [HO.out, hF, hG, if_neg hz, Option.map_map]
            congr 1
            funext x
            simp
          have HS := hid hsome
          clear hw hG hF HO hsome
          go_wp2_with (go_at_call 20; refine (hwa _).mono ?_; rintro e w' ⟨rfl, rfl⟩)
          go_region_law (refine step_append_new rfl _ _ 22 rfl elStr hown rfl _ 1 1 rfl rfl rfl (by unfold maxLen; omega) (by omega) (by decide) ?_; intro g1 cap w1 hown1 hchg hg1)
          all_goals go_frame
          all_goals go_roundw
          case rel =>
            have e1 : (code.extract at_ code.size).extract (widN code at_) (code.size - at_) = code.extract (at_ + widN code at_) code.size := by
              rw [ByteArray.extract_extract]; congr 1; omega
            have e2 : (code.extract at_ code.size).extract 0 (widN code at_) = code.extract at_ (at_ + widN code at_) := by
              rw [ByteArray.extract_extract]; congr 1; omega
            (repeat apply Exists.intro)
            refine ⟨⟨at_ + widN code at_, l ++ [code.extract at_ (at_ + widN code at_)], by omega, by rw [e1], by simp; omega, by rw [HS.out]; simp, ?_, ?_, HC.out.trans hchg ?_⟩, rfl⟩
            · rw [e2] at hown1
              simpa using hown1
            · intro k hk
              simp [Value.ownBlock] at hk
              subst hk
              rcases hg1 with h | h
              · exact HV.out _ h
              · exact Nat.le_trans HC.out.size h
            · intro i hi h
              exact absurd (HV.out _ h) (by omega)
          case measure => simp [sizeV]; omega
end Go.Proofs.YtegappcdmaodjaaDoor
