/- A code behind a jump over junk: the pure law; the law MillStands walked. -/
import Derived.Test.YtegappcdmaodjaaDoorMiU
import Derived.Test.YtegappcdmaodjaaDoorMiX
import Derived.Lib.SlBytesRow
namespace Go.Proofs.YtegappcdmaodjaaDoor
open Go.RowKit

theorem ext_shift (pre code : ByteArray) (i j : Nat) : (pre ++ code).extract (pre.size + i) (pre.size + j) = code.extract i j := by
  apply ByteArray.ext
  simp [ByteArray.data_extract, Array.extract_append]
theorem wid_shift (pre code : ByteArray) (at_ : Nat) (h : at_ < code.size) : widN (pre ++ code) (pre.size + at_) = widN code at_ := by
  have h1 := wid_rest (pre ++ code) (pre.size + at_) (by rw [ByteArray.size_append]; omega)
  have h2 := wid_rest code at_ h
  rw [ByteArray.size_append, ext_shift] at h1
  rw [← h1, h2]
theorem byteN_shift (pre code : ByteArray) (at_ : Nat) (h : at_ < code.size) : byteN (pre ++ code) (pre.size + at_) = byteN code at_ := by
  rw [byteN_eq (by rw [ByteArray.size_append]; omega), byteN_eq h]
  rw [ByteArray.getElem_append_right (by omega)]
  simp
/-- A step that is no jump: where it stands plays no part. -/
theorem stepR_at (H : ByteArray → ByteArray) (ins : List ByteArray) (c : UInt8) (hc : c ≠ 106 ∧ c ≠ 103) (n : Nat) (s : ByteArray) (a b : Nat) (l : List ByteArray) :
    (stepR H ins c n s a l).1 = (stepR H ins c n s b l).1 ∧ (stepR H ins c n s a l).2.2 = (stepR H ins c n s b l).2.2 ∧ ((stepR H ins c n s a l).1 = 0 → (stepR H ins c n s a l).2.1 = a + s.size) := by
  unfold stepR
  split
  · exact ⟨rfl, rfl, fun h => by simp at h⟩
  split
  · exact ⟨rfl, rfl, fun h => by simp at h⟩
  · refine ⟨rfl, rfl, fun _ => ?_⟩
    show goesR c n (a + s.size) _ = _
    unfold goesR
    rw [if_neg hc.2, if_neg hc.1]

theorem runR_shift (H : ByteArray → ByteArray) (ins : List ByteArray) (pre code : ByteArray) (_ : 0 < pre.size) : ∀ (rest : List ByteArray) (F at_ f f' n : Nat) (l : List ByteArray), at_ ≤ code.size → stepsG code F at_ = some rest → (∀ x ∈ rest, ∀ (h : 0 < x.size), x[0] ≠ 106 ∧ x[0] ≠ 103) → rest.length ≤ f → rest.length ≤ f' →
    (runR H (pre ++ code) ins f' (pre.size + at_) (n + 1) l).1 = (runR H code ins f at_ n l).1 ∧ (runR H (pre ++ code) ins f' (pre.size + at_) (n + 1) l).2 = (runR H code ins f at_ n l).2 + 1 := by
  intro rest
  induction rest with
  | nil =>
    intro F at_ f f' n l hat hG _ _ _
    have hend : at_ = code.size := by
      cases F with
      | zero => unfold stepsG at hG; split at hG
                · omega
                · cases hG
      | succ F =>
        unfold stepsG at hG
        split at hG
        · omega
        split at hG
        · cases hG
        · obtain ⟨l', _, h⟩ := Option.map_eq_some_iff.1 hG
          cases h
    rw [runR_end f n hend, runR_end f' (n + 1) (by rw [ByteArray.size_append]; omega)]
    exact ⟨rfl, rfl⟩
  | cons s rest ih =>
    intro F at_ f f' n l hat hG hJ hf hf'
    simp only [List.length_cons] at hf hf'
    obtain ⟨f0, rfl⟩ : ∃ f0, f = f0 + 1 := ⟨f - 1, by omega⟩
    obtain ⟨f1, rfl⟩ : ∃ f1, f' = f1 + 1 := ⟨f' - 1, by omega⟩
    cases F with
    | zero => unfold stepsG at hG; split at hG <;> cases hG
    | succ F =>
      unfold stepsG at hG
      split at hG
      · cases hG
      rename_i hlt0
      split at hG
      · cases hG
      rename_i hz
      obtain ⟨l', hG2, h⟩ := Option.map_eq_some_iff.1 hG
      obtain ⟨rfl, rfl⟩ : code.extract at_ (at_ + widN code at_) = s ∧ l' = rest := by
        have := List.cons.inj h; exact ⟨this.1, this.2⟩
      have hlt : at_ < code.size := by omega
      have hle := (widN_le code at_).resolve_right hz
      have hss : (code.extract at_ (at_ + widN code at_)).size = widN code at_ := by simp; omega
      have hw := wid_shift pre code at_ hlt
      have hs' : (pre ++ code).extract (pre.size + at_) (pre.size + at_ + widN (pre ++ code) (pre.size + at_)) = code.extract at_ (at_ + widN code at_) := by
        rw [hw, Nat.add_assoc, ext_shift]
      have hb := byteN_shift pre code at_ hlt
      have hbc : byteN code at_ = (code.extract at_ (at_ + widN code at_))[0]'(by omega) := by
        rw [byteN_eq hlt]; simp [ByteArray.getElem_extract]
      have hj := hJ _ (List.mem_cons_self ..) (by omega)
      rw [← hbc] at hj
      rw [runR_step f0 n (by omega) (by omega) rfl rfl, runR_step f1 (n + 1) (by rw [ByteArray.size_append]; omega) (by rw [ByteArray.size_append, hw]; omega) rfl rfl, hs', hb]
      obtain ⟨e1, e2, e3⟩ := stepR_at H ins (byteN code at_) hj (numN (code.extract at_ (at_ + widN code at_))) (code.extract at_ (at_ + widN code at_)) at_ (pre.size + at_) l
      obtain ⟨_, _, e4⟩ := stepR_at H ins (byteN code at_) hj (numN (code.extract at_ (at_ + widN code at_))) (code.extract at_ (at_ + widN code at_)) (pre.size + at_) at_ l
      rw [← e1, ← e2]
      by_cases hq : (stepR H ins (byteN code at_) (numN (code.extract at_ (at_ + widN code at_))) (code.extract at_ (at_ + widN code at_)) at_ l).1 = 0
      · rw [if_pos hq, if_pos hq, e3 hq, e4 (e1 ▸ hq), hss, Nat.add_assoc]
        exact ih F _ f0 f1 (n + 1) _ (by omega) hG2 (fun x hx => hJ x (List.mem_cons_of_mem _ hx)) (by omega) (by omega)
      · rw [if_neg hq, if_neg hq]
        exact ⟨rfl, rfl⟩

/-- The jump, the junk. -/
def preJ (junk : ByteArray) : ByteArray := ({ data := #[103] } : ByteArray) ++ { data := #[UInt8.ofNat (2 + junk.size)] } ++ junk
theorem preJ_size (junk : ByteArray) : (preJ junk).size = 2 + junk.size := by
  unfold preJ
  rw [ByteArray.size_append, ByteArray.size_append]
  rfl
theorem preJ_first (H : ByteArray → ByteArray) (ins : List ByteArray) (junk code : ByteArray) (hj : junk.size ≤ 30) : runR H (preJ junk ++ code) ins 300 0 0 [] = runR H (preJ junk ++ code) ins 299 ((preJ junk).size + 0) 1 [] := by
  have hsz : (preJ junk ++ code).size = 2 + junk.size + code.size := by rw [ByteArray.size_append, preJ_size]
  have g0 : (preJ junk ++ code)[0]'(by omega) = 103 := by
    unfold preJ
    rw [ByteArray.getElem_append_left (by rw [ByteArray.size_append, ByteArray.size_append]; show 0 < 1 + 1 + junk.size; omega), ByteArray.getElem_append_left (by rw [ByteArray.size_append]; show 0 < 1 + 1; decide), ByteArray.getElem_append_left (by show 0 < 1; decide)]
    rfl
  have g1 : (preJ junk ++ code)[1]'(by omega) = UInt8.ofNat (2 + junk.size) := by
    unfold preJ
    rw [ByteArray.getElem_append_left (by rw [ByteArray.size_append, ByteArray.size_append]; show 1 < 1 + 1 + junk.size; omega), ByteArray.getElem_append_left (by rw [ByteArray.size_append]; show 1 < 1 + 1; decide), ByteArray.getElem_append_right (by show 1 ≤ 1; decide)]
    rfl
  have hw : widN (preJ junk ++ code) 0 = 2 := by
    have p1 : ¬ plainB ((preJ junk ++ code)[0]'(by omega)) = true := by rw [g0]; decide +kernel
    have p2 : numB ((preJ junk ++ code)[0]'(by omega)) = true := by rw [g0]; decide +kernel
    have hw0 : wid0 (preJ junk ++ code) 0 (by omega) = 2 := by unfold wid0; rw [if_neg p1, if_pos p2]
    unfold widN
    rw [dif_pos (by omega), hw0, if_neg (by omega)]
  have hx : ((preJ junk ++ code).extract 0 2).size = 2 := by rw [ByteArray.size_extract]; omega
  have hn : numN ((preJ junk ++ code).extract 0 2) = 2 + junk.size := by
    unfold numN
    rw [dif_pos (by omega)]
    have : ((preJ junk ++ code).extract 0 2)[1]'(by omega) = UInt8.ofNat (2 + junk.size) := by rw [← g1]; simp [ByteArray.getElem_extract]
    rw [this, UInt8.toNat_ofNat']
    omega
  rw [show (300 : Nat) = 299 + 1 from rfl, runR_step 299 0 (by omega) (by rw [hw]; omega) rfl rfl, hw, byteN_eq (by omega), g0, Nat.zero_add, hn, preJ_size]
  rfl

theorem stands_pure (H : ByteArray → ByteArray) (ins : List ByteArray) (junk code : ByteArray) (hj : junk.size ≤ 30) (hc : code.size + junk.size ≤ 62) (l : List ByteArray) (hl : stepsR code = (l, 0)) (hJ : ∀ x ∈ l, ∀ (h : 0 < x.size), x[0] ≠ 106 ∧ x[0] ≠ 103) :
    (((runOut H code ins).1.1 = 4 ∧ (runOut H (preJ junk ++ code) ins).1.1 = 4) ∨ ((runOut H code ins).1.1 ≠ 4 ∧ (runOut H (preJ junk ++ code) ins).1 = (runOut H code ins).1 ∧ (runOut H (preJ junk ++ code) ins).2 = (runOut H code ins).2 + 1)) := by
  have hsz : (preJ junk ++ code).size = 2 + junk.size + code.size := by rw [ByteArray.size_append, preJ_size]
  by_cases hb : 4 < ins.length ∨ ∃ s ∈ ins, 512 < s.size
  · left
    unfold runOut
    rw [if_pos (.inr hb), if_pos (.inr hb)]
    exact ⟨rfl, rfl⟩
  · right
    have h1 : runOut H code ins = runR H code ins 300 0 0 [] := by unfold runOut; rw [if_neg (by rintro (h | h); omega; exact hb h)]
    have h2 : runOut H (preJ junk ++ code) ins = runR H (preJ junk ++ code) ins 300 0 0 [] := by unfold runOut; rw [if_neg (by rintro (h | h); omega; exact hb h)]
    have hF := runR_facts H code (by omega) ins 300 0 0 [] rfl (by decide) (by simp)
    have hG : stepsG code 64 0 = some l := by
      unfold stepsR at hl
      split at hl
      · cases hl
      split at hl
      · cases hl
      · rename_i l' h; cases hl; exact h
    have hlen := stepsG_len _ _ _ _ hG
    have := runR_shift H ins (preJ junk) code (by rw [preJ_size]; omega) l 64 0 300 299 0 [] (Nat.zero_le _) hG hJ (by omega) (by omega)
    rw [h1, h2, preJ_first H ins junk code hj]
    refine ⟨fun h4 => ?_, this.1, this.2⟩
    have hno : ∀ (f at_ n : Nat) (l : List ByteArray), (runR H code ins f at_ n l).1.1 ≠ 4 := by
      intro f
      induction f with
      | zero =>
        intro at_ n l
        by_cases he : at_ = code.size
        · rw [runR_end _ _ he]; unfold endR; split <;> simp
        · by_cases ho : code.size < at_ ∨ widN code at_ = 0
          · rw [runR_op _ _ he ho]; simp
          · rw [runR_fuel _ he ho]; simp
      | succ f ih =>
        intro at_ n l
        by_cases he : at_ = code.size
        · rw [runR_end _ _ he]; unfold endR; split <;> simp
        · by_cases ho : code.size < at_ ∨ widN code at_ = 0
          · rw [runR_op _ _ he ho]; simp
          · rw [runR_step f n he ho rfl rfl]
            split
            · exact ih _ _ _
            · rcases stepR_codes H ins (byteN code at_) (numN (code.extract at_ (at_ + widN code at_))) (code.extract at_ (at_ + widN code at_)) at_ l with h | h | h | h <;> simp [h]
    exact hno _ _ _ _ h4
end Go.Proofs.YtegappcdmaodjaaDoor
