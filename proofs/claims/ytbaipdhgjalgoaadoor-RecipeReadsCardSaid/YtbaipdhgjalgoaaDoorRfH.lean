/- apiaryref07.words walked: a line's words. -/
import Derived.Test.YtbaipdhgjalgoaaDoorRfG
namespace Go.Proofs.YtbaipdhgjalgoaaDoor
open Go.RowKit

/-- How far the words of t are made out: pre are done, the next begins at f, i is looked at next. -/
def WSt (t : List UInt8) (i f : Nat) (pre : List (List UInt8)) : Prop :=
  (i ≤ t.length ∧ f ≤ i ∧ splitC 32 t = pre ++ splitC 32 (t.drop f) ∧ (32 : UInt8) ∉ (t.drop f).take (i - f)) ∨ (i = t.length + 1 ∧ pre = splitC 32 t)
theorem WSt.start (t : List UInt8) : WSt t 0 0 [] := .inl ⟨Nat.zero_le _, Nat.le_refl _, by simp, by simp⟩
theorem WSt.f_le {t : List UInt8} {i f : Nat} {pre : List (List UInt8)} (h : WSt t i f pre) (hi : i ≤ t.length) : f ≤ i := by
  rcases h with h | h
  · exact h.2.1
  · omega
theorem WSt.len {t : List UInt8} {i f : Nat} {pre : List (List UInt8)} (h : WSt t i f pre) : pre.length ≤ t.length + 1 := by
  have hl := splitC_len 32 t
  rcases h with h | h
  · have := congrArg List.length h.2.2.1
    rw [List.length_append] at this
    omega
  · rw [h.2]; exact hl
theorem WSt.skip {t : List UInt8} {i f : Nat} {pre : List (List UInt8)} (h : WSt t i f pre) (hi : i < t.length) (hx : t[i] ≠ 32) : WSt t (i + 1) f pre := by
  rcases h with ⟨h1, h2, h3, h4⟩ | h
  · refine .inl ⟨hi, by omega, h3, ?_⟩
    have e : i + 1 - f = (i - f) + 1 := by omega
    have hlt : i - f < (t.drop f).length := by simp; omega
    rw [e, List.take_succ_eq_append_getElem hlt]
    intro hm
    rcases List.mem_append.1 hm with hm | hm
    · exact h4 hm
    · have h5 := List.mem_singleton.1 hm
      rw [List.getElem_drop] at h5
      have e2 : f + (i - f) = i := by omega
      simp only [e2] at h5
      exact hx h5.symm
  · omega
theorem WSt.cut {t : List UInt8} {i f : Nat} {pre : List (List UInt8)} (h : WSt t i f pre) (hi : i < t.length) (hx : t[i] = 32) : WSt t (i + 1) (i + 1) (pre ++ [(t.drop f).take (i - f)]) := by
  rcases h with ⟨h1, h2, h3, h4⟩ | h
  · refine .inl ⟨hi, Nat.le_refl _, ?_, by simp⟩
    have hd : t.drop f = (t.drop f).take (i - f) ++ 32 :: t.drop (i + 1) := by
      have e : t.drop i = 32 :: t.drop (i + 1) := by rw [List.drop_eq_getElem_cons hi, hx]
      have e2 : (t.drop f).drop (i - f) = t.drop i := by rw [List.drop_drop]; congr 1; omega
      rw [← e, ← e2, List.take_append_drop]
    rw [h3, List.append_assoc]
    congr 1
    conv => lhs; rw [hd]
    rw [splitC_at 32 _ _ h4]
    rfl
  · omega
theorem WSt.last {t : List UInt8} {f : Nat} {pre : List (List UInt8)} (h : WSt t t.length f pre) (g : Nat) : WSt t (t.length + 1) g (pre ++ [(t.drop f).take (t.length - f)]) := by
  rcases h with ⟨h1, h2, h3, h4⟩ | h
  · refine .inr ⟨rfl, ?_⟩
    have e : (t.drop f).take (t.length - f) = t.drop f := List.take_of_length_le (by simp)
    rw [e] at h4 ⊢
    rw [h3, splitC_none 32 _ h4]
  · omega
theorem WSt.done {t : List UInt8} {f : Nat} {pre : List (List UInt8)} (h : WSt t (t.length + 1) f pre) : pre = splitC 32 t := by
  rcases h with h | h
  · omega
  · exact h.2
theorem extract_bs (t : List UInt8) (f i : Nat) : (bs t).extract f i = bs ((t.drop f).take (i - f)) := by
  have : ((bs t).extract f i).data.toList = (t.drop f).take (i - f) := by
    simp [bs, ByteArray.data_extract, List.extract_eq_take_drop]
  rw [← this, bs_list]

/-- A slice of the call's own that holds the words. -/
def WordsPost (w : World) (ws : List (List UInt8)) (e : Ending) (w' : World) : Prop :=
  ∃ g c, e = .returned (.slice (some ⟨g, 0, none⟩) ws.length c) ∧ ws.length ≤ c ∧ w.heap.size ≤ g ∧ g < w'.heap.size ∧ (∀ i (h : i < ws.length), w'.cell? ⟨g, i, none⟩ = some (.string (bs ws[i]))) ∧ Chg (fun _ => False) w w'

set_option maxRecDepth 100000 in
set_option maxHeartbeats 2000000 in
theorem rwords_any (t : List UInt8) (ht : t.length ≤ 8192) (w : World) : Calls Tryd.prog 21 #[.string (bs t)] w (WordsPost w (splitC 32 t)) := by
  have hsz := bs_size t
  have hget : ∀ i (h : i < t.length) (h' : i < (bs t).size), (bs t)[i]'h' = t[i] := fun i h h' => rfl
  have hex := fun f i => extract_bs t f i
  have hown0 : (w.alloc (.cells #[] 9)).ownsRow 0 9 1 (.slice (some ⟨w.heap.size, 0, none⟩) 0 0) 0 [] := owns_new w [] 9 1 0 rfl (by unfold maxLen; omega)
  have HO := hid hown0
  have HC0 := hid ((Chg.refl (fun k => w.heap.size ≤ k) w).alloc (.cells #[] 9))
  have HG := hid hget
  have HEX := hid hex
  clear hget hown0 hex
  go_enter Tryd.func21, Tryd.ntmps21
  go_wp2_with fail
  go_loopw [3, 4, 5] (fun ov fv iv wr => ∃ (i f : Nat) (pre : List (List UInt8)), i ≤ t.length + 1 ∧ iv = .int .i64 (i : Nat) ∧ fv = .int .i64 (f : Nat) ∧ WSt t i f pre ∧ wr.ownsRow 0 9 1 ov pre.length (pre.map strV) ∧ (∀ b, ov.ownBlock = some b → w.heap.size ≤ b) ∧ Chg (fun k => w.heap.size ≤ k) w wr) (fun _ _ iv _ => t.length + 1 - (intOf iv).toNat)
  case atStart => exact ⟨0, 0, [], by omega, rfl, rfl, WSt.start t, HO.out, by simp [Value.ownBlock], HC0.out⟩
  case round =>
    obtain ⟨i, f, pre, hk, rfl, rfl, hst, hown, hov, hw⟩ := hrel
    have hpl := hst.len
    have HW := hid hw
    have HV := hid hov
    have HS := hid hst
    clear hw hov
    by_cases hkn : i < t.length
    · have hkn' : (i : Int) ≤ t.length := by omega
      have hne : ¬ (i : Int) = t.length := by omega
      have hfi := hst.f_le (Nat.le_of_lt hkn)
      obtain ⟨x, hx⟩ : ∃ x, (bs t)[i]'(by omega) = x := ⟨_, rfl⟩
      have hx2 : t[i] = x := by rw [← hx, HG.out _ hkn] <;> rfl
      by_cases hx32 : x = 32
      · have hst2 := hst.cut hkn (hx2.trans hx32)
        have b1 : ((i : Int) == (t.length : Int)) = false := by simpa using hne
        have b2 : ((x.toNat : Int) == 32) = true := by rw [hx32]; rfl
        have q1 : (f : Int) ≤ i := by omega
        have q2 : (i : Int) ≤ (t.length : Int) := by omega
        have HS2 := hid hst2
        have HEQ := hid (HEX.out f i)
        clear hx2 hst hst2 hx32
        go_wp2_with (refine wpList_append_new rfl _ _ 23 rfl elStr hown rfl _ 1 1 rfl rfl rfl (by unfold maxLen; omega) (by omega) (by decide) ?_; intro g1 cap1 w2 hown1 hchg hg1)
        go_roundw
        case rel =>
          refine ⟨i + 1, i + 1, pre ++ [(t.drop f).take (i - f)], by omega, by go_num, by go_num, HS2.out, ?_, ?_, HW.out.trans hchg ?_⟩
          · have e : pre.map strV ++ [strV ((t.drop f).take (i - f))] = (pre ++ [(t.drop f).take (i - f)]).map strV := by simp
            rw [← e, List.length_append]
            unfold strV at *
            rw [← HEQ.out]
            exact hown1
          · intro b hb
            simp [Value.ownBlock] at hb
            subst hb
            rcases hg1 with h | h
            · exact HV.out _ h
            · exact Nat.le_trans HW.out.size h
          · intro i hi h
            exact HV.out _ h
        case measure => simp [intOf] <;> omega
      · have hst2 := hst.skip hkn (by rw [hx2]; exact hx32)
        have hxy : ¬ (x.toNat : Int) = 32 := by
          intro e; exact hx32 (UInt8.toNat_inj.1 (by show x.toNat = 32; omega))
        have b1 : ((i : Int) == (t.length : Int)) = false := by simpa using hne
        have b2 : ((x.toNat : Int) == 32) = false := by simpa using hxy
        have HS2 := hid hst2
        clear hx2 hst hst2 hx32
        go_wp2_with fail
        go_roundw
        case rel => exact ⟨i + 1, f, pre, by omega, by go_num, by go_num, HS2.out, hown, HV.out, HW.out⟩
        case measure => simp [intOf] <;> omega
    · by_cases hke : i = t.length
      · subst hke
        have hfi := hst.f_le (Nat.le_refl _)
        have hst2 := hst.last (t.length + 1)
        have q1 : (f : Int) ≤ (t.length : Int) := by omega
        have HS2 := hid hst2
        have HEQ := hid (HEX.out f t.length)
        clear hst hst2
        go_wp2_with (refine wpList_append_new rfl _ _ 23 rfl elStr hown rfl _ 1 1 rfl rfl rfl (by unfold maxLen; omega) (by omega) (by decide) ?_; intro g1 cap1 w2 hown1 hchg hg1)
        go_roundw
        case rel =>
          refine ⟨t.length + 1, t.length + 1, pre ++ [(t.drop f).take (t.length - f)], by omega, by go_num, by go_num, HS2.out, ?_, ?_, HW.out.trans hchg ?_⟩
          · have e : pre.map strV ++ [strV ((t.drop f).take (t.length - f))] = (pre ++ [(t.drop f).take (t.length - f)]).map strV := by simp
            rw [← e, List.length_append]
            unfold strV at *
            rw [← HEQ.out]
            exact hown1
          · intro b hb
            simp [Value.ownBlock] at hb
            subst hb
            rcases hg1 with h | h
            · exact HV.out _ h
            · exact Nat.le_trans HW.out.size h
          · intro i hi h
            exact HV.out _ h
        case measure => simp [intOf] <;> omega
      · obtain rfl : i = t.length + 1 := by omega
        have hpre := HS.out.done
        subst hpre
        obtain ⟨g, cap, hu3⟩ : ∃ g cap, u3 = .slice (some ⟨g, 0, none⟩) (splitC 32 t).length cap := by
          rcases hown.2 with ⟨_, h2⟩ | ⟨g, cap, cur, h2, _⟩
          · exact absurd (List.length_eq_zero_iff.1 h2) (splitC_ne 32 t)
          · exact ⟨g, cap, h2⟩
        subst hu3
        have hf : ¬ ((t.length : Int) + 1) ≤ t.length := by omega
        have HOW := hid hown
        clear hst hown
        go_wp2_with fail
        go_ret
        obtain ⟨cur, hh1, hh2, _⟩ := ownsRow_heap HOW.out
        refine ⟨g, cap, rfl, hh2, HV.out g rfl, heap_lt hh1, fun i hi => ?_, HW.out.mono (fun i hi h => by have : w.heap.size ≤ i := h; omega)⟩
        have := HOW.out.cellAt i (by simpa using hi)
        rw [this]
        simp [strV, hi]
end Go.Proofs.YtbaipdhgjalgoaaDoor
