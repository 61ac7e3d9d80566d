/- The laws MillSteps and MillJoins walked. -/
import Derived.Test.YtegappcdmaodjaaDoorMiW
namespace Go.Proofs.YtegappcdmaodjaaDoor
open Go.RowKit

/-- What Steps answers: its row, its code. -/
def stepsR (code : ByteArray) : List ByteArray × Nat := if 64 < code.size then ([], 4) else match stepsOut code with | none => ([], 32) | some l => (l, 0)
theorem stepsG_len (code : ByteArray) (f : Nat) : ∀ (at_ : Nat) (l : List ByteArray), stepsG code f at_ = some l → l.length ≤ f := by
  induction f with
  | zero => intro at_ l h; unfold stepsG at h; split at h
            · cases h; exact Nat.le_refl _
            · cases h
  | succ f ih =>
    intro at_ l h
    unfold stepsG at h
    split at h
    · cases h; exact Nat.zero_le _
    split at h
    · cases h
    · obtain ⟨l', h1, rfl⟩ := Option.map_eq_some_iff.1 h
      have := ih _ _ h1
      simp; omega
theorem stepsR_len (code : ByteArray) : (stepsR code).1.length ≤ 64 := by
  unfold stepsR
  split
  · exact Nat.zero_le _
  · split
    · exact Nat.zero_le _
    · rename_i l h; exact stepsG_len _ _ _ _ h

def StepsTo (q : List ByteArray × Nat) (w : World) : Ending → World → Prop := fun e w' => ∃ v, e = .returned (.tuple #[v, .int .i64 q.2]) ∧ w'.ownsRow 0 9 1 v q.1.length (q.1.map Value.string) ∧ Chg (fun _ => False) w w'
theorem stepsTo_of {code : ByteArray} {w w' : World} {e : Ending} (h : Chg (fun _ => False) w w' ∧
      ((64 < code.size ∧ e = .returned (.tuple #[.slice none 0 0, .int .i64 4])) ∨
       (code.size ≤ 64 ∧ stepsOut code = none ∧ e = .returned (.tuple #[.slice none 0 0, .int .i64 32])) ∨
       (code.size ≤ 64 ∧ ∃ l, stepsOut code = some l ∧ ∃ v, e = .returned (.tuple #[v, .int .i64 0]) ∧ w'.ownsRow 0 9 1 v l.length (l.map Value.string) ∧ ∀ k, v.ownBlock = some k → w.heap.size ≤ k))) : StepsTo (stepsR code) w e w' := by
  obtain ⟨hc, h | h | h⟩ := h
  · have : stepsR code = ([], 4) := by unfold stepsR; rw [if_pos h.1]
    rw [this]
    exact ⟨_, h.2, World.ownsRow_nil _ _ _ _, hc⟩
  · have : stepsR code = ([], 32) := by unfold stepsR; rw [if_neg (by omega), h.2.1]
    rw [this]
    exact ⟨_, h.2.2, World.ownsRow_nil _ _ _ _, hc⟩
  · obtain ⟨h1, l, h2, v, h3, h4, _⟩ := h
    have : stepsR code = (l, 0) := by unfold stepsR; rw [if_neg (by omega), h2]
    rw [this]
    exact ⟨v, h3, h4, hc⟩
theorem steps_to (code : ByteArray) (hs : code.size ≤ maxLen) (w : World) : Calls Tryd.prog 13 #[.string code] w (StepsTo (stepsR code) w) := (steps_any code hs w).mono fun _ _ h => stepsTo_of h
theorem rsteps_to (code : ByteArray) (hs : code.size ≤ maxLen) (w : World) : Calls Tryd.prog 14 #[.string code] w (StepsTo (stepsR code) w) := (rsteps_any code hs w).mono fun _ _ h => stepsTo_of h

set_option maxRecDepth 100000 in
set_option maxHeartbeats 1000000 in
theorem millSteps_any (code : ByteArray) (hs : code.size ≤ maxLen) (w : World) (hT : TabsOK w.heap.size w) : Calls Tryd.prog 4 #[.string code] w (Rets (.bool true) (Chg (fun _ => False) w)) := by
  have ha := awake_any w hT
  have h1 := steps_to code hs
  have h2 := rsteps_to code hs
  have hlen := stepsR_len code
  unfold StepsTo at h1 h2
  generalize stepsR code = q at h1 h2 hlen
  go_enter Tryd.func4, Tryd.ntmps4
  go_wp2_with (first | (go_at_call 10; refine ha.mono ?_; rintro e w1 ⟨rfl, hch1⟩) | (go_at_call 13; refine (h1 _).mono ?_; rintro e w2 ⟨v1, rfl, ho1, hch2⟩) | (go_at_call 14; refine (h2 _).mono ?_; rintro e w3 ⟨v2, rfl, ho2, hch3⟩) | (go_at_call 15; refine (same_lists _ _ _ _ _ (hch3.owns ho1 (fun _ _ h => h)) ho2 (by omega) (by omega)).mono ?_; rintro e w4 ⟨rfl, hch4⟩))
  go_ret
  exact ⟨rfl, ((hch1.trans hch2 (fun _ _ h => h)).trans hch3 (fun _ _ h => h)).trans hch4 (fun _ _ h => h)⟩

/-- Texts one behind the other. -/
def joinL : List ByteArray → ByteArray
  | [] => { data := #[] }
  | a :: l => a ++ joinL l
theorem ba_append_assoc (a b c : ByteArray) : a ++ b ++ c = a ++ (b ++ c) := ByteArray.append_assoc
theorem ba_append_empty (a : ByteArray) : a ++ ({ data := #[] } : ByteArray) = a := ByteArray.ext (by simp)
theorem joinL_append (a b : List ByteArray) : joinL (a ++ b) = joinL a ++ joinL b := by
  induction a with
  | nil => exact (ByteArray.ext (by simp [joinL]))
  | cons x a ih => simp only [List.cons_append, joinL, ih, ba_append_assoc]
theorem stepsG_join (code : ByteArray) (f : Nat) : ∀ (at_ : Nat) (l : List ByteArray), stepsG code f at_ = some l → joinL l = code.extract at_ code.size ∧ ∀ x ∈ l, x.size ≠ 0 := by
  have nil : ∀ at_, code.size ≤ at_ → joinL [] = code.extract at_ code.size := fun at_ h => by
    refine (ByteArray.ext ?_)
    have : (code.extract at_ code.size).size = 0 := by simp; omega
    exact (Array.eq_empty_of_size_eq_zero this).symm
  induction f with
  | zero =>
    intro at_ l h
    unfold stepsG at h
    split at h
    · rename_i h1; cases h; exact ⟨nil _ h1, by simp⟩
    · cases h
  | succ f ih =>
    intro at_ l h
    unfold stepsG at h
    split at h
    · rename_i h1; cases h; exact ⟨nil _ h1, by simp⟩
    split at h
    · cases h
    · rename_i h1 h2
      obtain ⟨l', h3, rfl⟩ := Option.map_eq_some_iff.1 h
      obtain ⟨h4, h5⟩ := ih _ _ h3
      have hle := (widN_le code at_).resolve_right h2
      refine ⟨?_, ?_⟩
      · show code.extract at_ (at_ + widN code at_) ++ joinL l' = _
        rw [h4, ByteArray.extract_append_extract]
        congr 1 <;> omega
      · intro x hx
        rcases List.mem_cons.1 hx with rfl | hx
        · simp; omega
        · exact h5 x hx
theorem stepsR_le {code : ByteArray} {l : List ByteArray} (h : stepsR code = (l, 0)) : code.size ≤ 64 := by
  unfold stepsR at h
  split at h
  · cases h
  · omega
theorem stepsR_ok {code : ByteArray} {l : List ByteArray} (h : stepsR code = (l, 0)) : joinL l = code ∧ ∀ x ∈ l, x.size ≠ 0 := by
  unfold stepsR at h
  split at h
  · cases h
  split at h
  · cases h
  · rename_i l' h1
    obtain rfl : l' = l := by cases h; rfl
    have := stepsG_join code 64 0 l' h1
    rw [ByteArray.extract_zero_size] at this
    exact this
theorem stepsR_no {code : ByteArray} {q : List ByteArray × Nat} (h : stepsR code = q) (h2 : q.2 ≠ 0) : q.1 = [] ∧ (q.2 = 32 ∨ q.2 = 4 ∧ 64 < code.size) := by
  subst h
  unfold stepsR at h2 ⊢
  split
  · rename_i h; exact ⟨rfl, .inr ⟨rfl, h⟩⟩
  split
  · exact ⟨rfl, .inl rfl⟩
  · rename_i h1 l h; rw [if_neg (by assumption), h] at h2; exact absurd rfl h2
theorem joinL_take (l : List ByteArray) (k : Nat) (h : k < l.length) : joinL (l.take (k + 1)) = joinL (l.take k) ++ l[k] := by
  rw [List.take_succ_eq_append_getElem h, joinL_append]
  simp only [joinL, ba_append_empty]

set_option maxRecDepth 100000 in
set_option maxHeartbeats 2000000 in
theorem millJoins_any (code : ByteArray) (hs : code.size ≤ maxLen) (w : World) (hT : TabsOK w.heap.size w) : Calls Tryd.prog 8 #[.string code] w (Rets (.bool true) (Chg (fun _ => False) w)) := by
  have ha := awake_any w hT
  have h1 := steps_to code hs
  have hlen := stepsR_len code
  unfold StepsTo at h1
  have HQ := hid (show stepsR code = stepsR code from rfl)
  unfold maxLen at hs
  rcases hq : stepsR code with ⟨l, c⟩
  rw [hq] at h1 hlen
  clear HQ
  by_cases h0 : c = 0
  · subst h0
    obtain ⟨hj, hne⟩ := stepsR_ok hq
    have hcl := stepsR_le hq
    have HJ := hid hj
    have HN := hid hne
    clear hj hne hq
    go_enter Tryd.func8, Tryd.ntmps8
    go_wp2_with (first | (go_at_call 10; refine ha.mono ?_; rintro e w1 ⟨rfl, hch1⟩) | (go_at_call 13; refine (h1 _).mono ?_; rintro e w2 ⟨v1, rfl, ho1, hch2⟩; have hlenV := fun W ty => run_len_own (P := Tryd.prog) Tryd.underlying22 ho1 W ty))
    go_loopw [5, 6] (fun s i wr => ∃ k : Nat, k ≤ l.length ∧ i = .int .i64 k ∧ s = .string (joinL (l.take k)) ∧ Chg (fun _ => False) w2 wr) (fun _ i _ => l.length - (intOf i).toNat)
    case atStart => exact ⟨0, Nat.zero_le _, rfl, rfl, Chg.refl _ _⟩
    case round =>
      obtain ⟨k, hk, rfl, rfl, hch⟩ := hrel
      have HC := hid hch
      clear hch
      by_cases hkn : k < l.length
      · have hkn' : (k : Int) < l.length := by omega
        obtain ⟨g1, cap1, rfl, hc1, hg1⟩ := owns_some ho1 (by omega)
        have k1 : wr.cell? ⟨g1, k, none⟩ = some (.string l[k]) := HC.out.cell (p := ⟨g1, k, none⟩) (by have := ho1.cellAt k (by simpa using hkn); simpa [List.getElem?_eq_getElem hkn] using this) (fun h => h)
        have hjs : (joinL (l.take k)).size + l[k].size ≤ 64 := by
          have h1 : joinL (l.take (k + 1)) ++ joinL (l.drop (k + 1)) = code := by rw [← joinL_append, List.take_append_drop]; exact HJ.out
          have h2 := congrArg ByteArray.size h1
          rw [joinL_take l k hkn, ByteArray.size_append, ByteArray.size_append] at h2
          omega
        have hE : l[k].toList.isEmpty = false := by rw [ba_isEmpty]; exact decide_eq_false (HN.out _ (List.getElem_mem hkn))
        go_wp2_with fail
        go_roundw
        case rel => exact ⟨k + 1, by omega, by go_num, by rw [joinL_take l k hkn], HC.out⟩
        case measure => simp [intOf]; omega
      · obtain rfl : k = l.length := by omega
        go_wp2_with fail
        have e : ((joinL l).toList == code.toList) = true := by rw [HJ.out]; simp
        rw [e]
        go_ret
        exact ⟨rfl, (hch1.trans hch2 (fun _ _ h => h)).trans HC.out (fun _ _ h => h)⟩
  · obtain ⟨hl0, hcc⟩ := stepsR_no hq h0
    simp only at hl0 hcc
    subst hl0
    have hc0 : ((c : Int) == 0) = false := by simp; omega
    rcases hcc with rfl | ⟨rfl, h64⟩
    · go_enter Tryd.func8, Tryd.ntmps8
      go_wp2_with (first | (go_at_call 10; refine ha.mono ?_; rintro e w1 ⟨rfl, hch1⟩) | (go_at_call 13; refine (h1 _).mono ?_; rintro e w2 ⟨v1, rfl, ho1, hch2⟩; have hlenV := fun W ty => run_len_own (P := Tryd.prog) Tryd.underlying22 ho1 W ty))
      go_ret
      exact ⟨rfl, hch1.trans hch2 (fun _ _ h => h)⟩
    · have h64' : decide ((64 : Int) < (code.size : Int)) = true := by simp; omega
      go_enter Tryd.func8, Tryd.ntmps8
      go_wp2_with (first | (go_at_call 10; refine ha.mono ?_; rintro e w1 ⟨rfl, hch1⟩) | (go_at_call 13; refine (h1 _).mono ?_; rintro e w2 ⟨v1, rfl, ho1, hch2⟩; have hlenV := fun W ty => run_len_own (P := Tryd.prog) Tryd.underlying22 ho1 W ty))
      go_ret
      exact ⟨rfl, hch1.trans hch2 (fun _ _ h => h)⟩
end Go.Proofs.YtegappcdmaodjaaDoor
