/- apiaryref08.insert walked. -/
import Derived.Test.YtafdcmhckpdnbaaDoorTfE
import Derived.Test.YtafdcmhckpdnbaaDoorTrZ
namespace Go.Proofs.YtafdcmhckpdnbaaDoor
open Go.RowKit

def insStep (s : Nm) (st : List Nm × Bool) (x : Nm) : List Nm × Bool :=
  (if x = s then (if st.2 = false ∧ s ≤ x then st.1 ++ [s] else st.1) else (if st.2 = false ∧ s ≤ x then st.1 ++ [s] else st.1) ++ [x], st.2 || decide (s ≤ x))
def insF (s : Nm) (l : List Nm) : List Nm × Bool := l.foldl (insStep s) ([], false)
theorem insF_snoc (s : Nm) (l : List Nm) (x : Nm) : insF s (l ++ [x]) = insStep s (insF s l) x := by unfold insF; rw [List.foldl_append]; rfl
theorem insF_true (s : Nm) : ∀ (l o : List Nm), l.foldl (insStep s) (o, true) = (o ++ l.filter (fun y => y != s), true)
  | [], o => by simp
  | x :: l, o => by
    rw [List.foldl_cons]
    by_cases h : x = s
    · have : insStep s (o, true) x = (o, true) := by unfold insStep; simp [h]
      rw [this, insF_true s l o]
      simp [h]
    · have : insStep s (o, true) x = (o ++ [x], true) := by unfold insStep; simp [h]
      rw [this, insF_true s l (o ++ [x])]
      simp [h]
theorem insF_false (s : Nm) : ∀ (l o : List Nm), (if (l.foldl (insStep s) (o, false)).2 = true then (l.foldl (insStep s) (o, false)).1 else (l.foldl (insStep s) (o, false)).1 ++ [s]) = o ++ insL s l
  | [], o => by simp [insL]
  | x :: l, o => by
    rw [List.foldl_cons]
    by_cases hs : s ≤ x
    · have e : insStep s (o, false) x = (o ++ [s] ++ (if x = s then [] else [x]), true) := by
        unfold insStep
        by_cases h : x = s
        · subst h; simp
        · simp [h, hs]
      rw [e, insF_true]
      rw [if_pos rfl]
      unfold insL
      rw [if_pos hs, List.filter_cons]
      by_cases h : x = s
      · simp [h]
      · simp [h]
    · have hne : x ≠ s := fun h => hs (by rw [h]; exact List.le_refl _)
      have e : insStep s (o, false) x = (o ++ [x], false) := by unfold insStep; simp [hne, hs]
      rw [e, insF_false s l (o ++ [x])]
      conv => rhs; unfold insL
      rw [if_neg hs]
      simp
theorem insF_end (s : Nm) (l : List Nm) : (if (insF s l).2 = true then (insF s l).1 else (insF s l).1 ++ [s]) = insL s l := by
  have := insF_false s l []
  rw [List.nil_append] at this
  exact this
theorem insF_len (s : Nm) : ∀ (l : List Nm) (st : List Nm × Bool), (l.foldl (insStep s) st).1.length ≤ st.1.length + 2 * l.length
  | [], st => by simp
  | x :: l, st => by
    rw [List.foldl_cons]
    have h := insF_len s l (insStep s st x)
    have h2 : (insStep s st x).1.length ≤ st.1.length + 2 := by
      unfold insStep
      split <;> split <;> simp
    simp
    omega
theorem leq_bs (a b : Nm) : (Op.bytesLess (bs a).toList (bs b).toList || (bs a).toList == (bs b).toList) = decide (a ≤ b) := by
  rw [Lib.toList_data, Lib.toList_data, bs_data, bs_data, bytesLess_eq]
  by_cases h : a < b
  · simp [h, List.le_of_lt h]
  · by_cases e : a = b
    · subst e; simp
    · have : ¬ a ≤ b := fun hle => h (nm_lt_of_le_ne hle e)
      simp [h, e, this]

def InsPost (w : World) (l : List Nm) (e : Ending) (w' : World) : Prop := ∃ v', e = .returned v' ∧ QRow w' 9 v' (l.map nmV) ∧ Chg (fun _ => False) w w' ∧ ∀ k, v'.ownBlock = some k → w.heap.size ≤ k
set_option maxRecDepth 100000 in
set_option maxHeartbeats 2000000 in
theorem insert_any (l : List Nm) (s : Nm) (v : Value) (w : World) (hl : NamesAt w v l) (h100 : l.length ≤ 100) (hs8 : s.length ≤ 1000) (hl8 : ∀ x ∈ l, x.length ≤ 1000) :
    Calls Tryd.prog 45 #[v, .string (bs s)] w (InsPost w (insL s l)) := by
  have hlen := hl.len
  have H := hid hl
  have H8 := hid hl8
  have HS8 := hid hs8
  clear hl hl8 hs8
  go_enter Tryd.func45, Tryd.ntmps45
  go_wp2_with fail
  go_loopw [5, 6, 7] (fun o dn i wr => ∃ (k : Nat) (x : Value), x = o ∧ k ≤ l.length ∧ i = .int .i64 k ∧ dn = .bool (insF s (l.take k)).2 ∧ QRow wr 9 x ((insF s (l.take k)).1.map nmV) ∧ (∀ q, x.ownBlock = some q → w.heap.size ≤ q) ∧ Chg (fun _ => False) w wr) (fun _ _ i _ => l.length - (intOf i).toNat)
  case atStart => exact ⟨0, _, rfl, Nat.zero_le _, rfl, rfl, QRow.empty w, (fun q h => by simp [Value.ownBlock] at h; omega), al_chg w _⟩
  case round =>
    obtain ⟨k, v5, hv, hk, rfl, rfl, hq, hbl, hch⟩ := hrel
    subst hv
    have HQ := hid hq
    have HBL := hid hbl
    have HC := hid hch
    have hfl := insF_len s (l.take k) ([], false)
    have htl : (l.take k).length ≤ 100 := by simp; omega
    have HFL : Hid ((insF s (l.take k)).1.length ≤ 200) := hid (by unfold insF; simp at hfl; simp at htl; omega)
    clear hq hbl hch hfl htl
    by_cases hkn : k < l.length
    · have hkn' : (k : Int) < l.length := by omega
      obtain ⟨ad, hix, hadc0, hadb0⟩ := H.out.ix k hkn
      have hadc := HC.out.cell hadc0 (fun h => h)
      clear hadc0
      have HB0 := hid hadb0
      clear hadb0
      have hst : insF s (l.take (k + 1)) = insStep s (insF s (l.take k)) l[k] := by rw [List.take_succ_eq_append_getElem hkn, insF_snoc]
      have HST := hid hst
      have HX8 := hid (H8.out _ (List.getElem_mem hkn))
      clear hst
      generalize insF s (l.take k) = st at *
      obtain ⟨o, dn⟩ := st
      generalize l[k] = x at *
      have hle := leq_bs s x
      have hxs := bs_eq x s
      have HFR : Hid (∀ (W : World) (y : Nm), y.length ≤ 1000 → StrsAt (W.alloc (.cells #[.string (bs y)] 9)) (.slice (some ⟨W.heap.size, 0, none⟩) 1 1) [bs y]) :=
        hid (fun W y hy => names_new W [y] 1 rfl (by decide) (fun t ht => by simp at ht; subst ht; exact hy))
      cases dn with
      | true =>
        by_cases he : x = s
        · have HI : Hid (insStep s (o, true) x = (o, true)) := hid (by unfold insStep; simp [he])
          go_wp2_with fail
          go_roundw
          case rel => exact ⟨k + 1, _, rfl, by omega, by go_num, by rw [HST.out, HI.out], by rw [HST.out, HI.out]; exact HQ.out, HBL.out, HC.out⟩
          case measure => simp [intOf]; omega
        · rw [decide_eq_false he] at hxs
          have HI : Hid (insStep s (o, true) x = (o ++ [x], true)) := hid (by unfold insStep; simp [he])
          have HN := hid (HFR.out wr x HX8.out)
          have HQ8 := hid (HQ.out.chg (al_chg wr (.cells #[.string (bs x)] 9)) (fun _ _ h => h))
          go_wp2_with (at_builtin; refine wpList_append_q rfl _ _ 22 rfl elStr HQ8.out rfl rfl HN.out (by have := HFL.out; unfold maxLen; simp at *; omega) (by have := HFL.out; simp at *; omega) ?_; intro v8 w8 hq8 hc8 hb8)
          go_roundw
          case rel =>
            refine ⟨k + 1, _, rfl, by omega, by go_num, by rw [HST.out, HI.out], by rw [HST.out, HI.out, List.map_append]; exact hq8, fun q hq => ?_, (HC.out.trans (al_chg wr _) (fun _ _ h => h)).trans hc8 (fun q hq h => absurd (HBL.out q h) (by omega))⟩
            rcases hb8 q hq with h | h
            · exact HBL.out q h
            · have := HC.out.size; simp at h; omega
          case measure => simp [intOf]; omega
      | false =>
        by_cases hs : s ≤ x
        · rw [decide_eq_true hs] at hle
          have HN := hid (HFR.out wr s HS8.out)
          have HQ8 := hid (HQ.out.chg (al_chg wr (.cells #[.string (bs s)] 9)) (fun _ _ h => h))
          by_cases he : x = s
          · have HI : Hid (insStep s (o, false) x = (o ++ [s], true)) := hid (by unfold insStep; simp [he])
            rw [decide_eq_true he] at hxs
            go_wp2_with (at_builtin; refine wpList_append_q rfl _ _ 22 rfl elStr HQ8.out rfl rfl HN.out (by have := HFL.out; unfold maxLen; simp at *; omega) (by have := HFL.out; simp at *; omega) ?_; intro v8 w8 hq8 hc8 hb8; have hadc8 := hc8.cell ((al_chg wr (.cells #[.string (bs s)] 9)).cell hadc (fun h => h)) (fun h => by have h1 := HBL.out _ h; have h2 := HB0.out; omega); have HN9 := hid (HFR.out w8 x HX8.out); have HQ9 := hid (QRow.chg hq8 (al_chg w8 (.cells #[.string (bs x)] 9)) (fun _ _ h => h)))
            go_roundw
            case rel =>
              refine ⟨k + 1, _, rfl, by omega, by go_num, by rw [HST.out, HI.out], by rw [HST.out, HI.out, List.map_append]; exact hq8, fun q hq => ?_, (HC.out.trans (al_chg wr _) (fun _ _ h => h)).trans hc8 (fun q hq h => absurd (HBL.out q h) (by omega))⟩
              rcases hb8 q hq with h | h
              · exact HBL.out q h
              · have := HC.out.size; simp at h; omega
            case measure => simp [intOf]; omega
          · have HI : Hid (insStep s (o, false) x = (o ++ [s] ++ [x], true)) := hid (by unfold insStep; simp [he, hs])
            rw [decide_eq_false he] at hxs
            go_wp2_with (first | (at_builtin; refine wpList_append_q rfl _ _ 22 rfl elStr HQ8.out rfl rfl HN.out (by have := HFL.out; unfold maxLen; simp at *; omega) (by have := HFL.out; simp at *; omega) ?_; intro v8 w8 hq8 hc8 hb8; have hadc8 := hc8.cell ((al_chg wr (.cells #[.string (bs s)] 9)).cell hadc (fun h => h)) (fun h => by have h1 := HBL.out _ h; have h2 := HB0.out; omega); have HN9 := hid (HFR.out w8 x HX8.out); have HQ9 := hid (QRow.chg hq8 (al_chg w8 (.cells #[.string (bs x)] 9)) (fun _ _ h => h))) | (at_builtin; refine wpList_append_q rfl _ _ 22 rfl elStr HQ9.out rfl rfl HN9.out (by have := HFL.out; unfold maxLen; simp at *; omega) (by have := HFL.out; simp at *; omega) ?_; intro v9 w9 hq9 hc9 hb9))
            have hC8 := (HC.out.trans (al_chg wr (.cells #[.string (bs s)] 9)) (fun _ _ h => h)).trans hc8 (fun q hq h => absurd (HBL.out q h) (by omega))
            have hB8 : ∀ q, v8.ownBlock = some q → w.heap.size ≤ q := fun q hq => by
              rcases hb8 q hq with h | h
              · exact HBL.out q h
              · have := HC.out.size; simp at h; omega
            go_roundw
            case rel =>
              refine ⟨k + 1, _, rfl, by omega, by go_num, by rw [HST.out, HI.out], by rw [HST.out, HI.out, List.map_append, List.map_append]; exact hq9, fun q hq => ?_, (hC8.trans (al_chg w8 _) (fun _ _ h => h)).trans hc9 (fun q hq h => absurd (hB8 q h) (by omega))⟩
              rcases hb9 q hq with h | h
              · exact hB8 q h
              · have := hC8.size; simp at h; omega
            case measure => simp [intOf]; omega
        · rw [decide_eq_false hs] at hle
          have he : ¬ x = s := fun h => hs (by rw [h]; exact List.le_refl _)
          rw [decide_eq_false he] at hxs
          have HI : Hid (insStep s (o, false) x = (o ++ [x], false)) := hid (by unfold insStep; simp [he, hs])
          have HN := hid (HFR.out wr x HX8.out)
          have HQ8 := hid (HQ.out.chg (al_chg wr (.cells #[.string (bs x)] 9)) (fun _ _ h => h))
          go_wp2_with (at_builtin; refine wpList_append_q rfl _ _ 22 rfl elStr HQ8.out rfl rfl HN.out (by have := HFL.out; unfold maxLen; simp at *; omega) (by have := HFL.out; simp at *; omega) ?_; intro v8 w8 hq8 hc8 hb8)
          go_roundw
          case rel =>
            refine ⟨k + 1, _, rfl, by omega, by go_num, by rw [HST.out, HI.out], by rw [HST.out, HI.out, List.map_append]; exact hq8, fun q hq => ?_, (HC.out.trans (al_chg wr _) (fun _ _ h => h)).trans hc8 (fun q hq h => absurd (HBL.out q h) (by omega))⟩
            rcases hb8 q hq with h | h
            · exact HBL.out q h
            · have := HC.out.size; simp at h; omega
          case measure => simp [intOf]; omega
    · obtain rfl : k = l.length := by omega
      have hend := insF_end s l
      rw [List.take_length] at *
      generalize insF s l = st at *
      obtain ⟨o, dn⟩ := st
      have HEND := hid hend
      clear hend
      cases dn with
      | true =>
        go_wp2_with fail
        go_ret
        exact ⟨v5, rfl, by have := HEND.out; simp at this; rw [← this]; exact HQ.out, HC.out, HBL.out⟩
      | false =>
        have hnew := names_new wr [s] 1 rfl (by decide) (fun t ht => by simp at ht; subst ht; exact HS8.out)
        have HNEW : Hid (StrsAt (wr.alloc (.cells #[.string (bs s)] 9)) (.slice (some ⟨wr.heap.size, 0, none⟩) 1 1) [bs s]) := hid hnew
        have HQ8 := hid (HQ.out.chg (al_chg wr (.cells #[.string (bs s)] 9)) (fun _ _ h => h))
        clear hnew
        go_wp2_with (at_builtin; refine wpList_append_q rfl _ _ 22 rfl elStr HQ8.out rfl rfl HNEW.out (by have := HFL.out; unfold maxLen; simp at *; omega) (by have := HFL.out; simp at *; omega) ?_; intro v8 w8 hq8 hc8 hb8)
        go_ret
        refine ⟨v8, rfl, ?_, (HC.out.trans (al_chg wr _) (fun _ _ h => h)).trans hc8 (fun q hq h => absurd (HBL.out q h) (by omega)), fun q hq => ?_⟩
        · have := HEND.out
          simp at this
          rw [← this, List.map_append]
          exact hq8
        · rcases hb8 q hq with h | h
          · exact HBL.out q h
          · have := HC.out.size; simp at h; omega
end Go.Proofs.YtafdcmhckpdnbaaDoor
