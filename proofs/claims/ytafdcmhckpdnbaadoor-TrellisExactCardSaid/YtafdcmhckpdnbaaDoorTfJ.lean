/- apiaryref08.Order, Needs, Dirty walked. -/
import Derived.Test.YtafdcmhckpdnbaaDoorTfI
namespace Go.Proofs.YtafdcmhckpdnbaaDoor
open Go.RowKit

set_option maxRecDepth 100000 in
set_option maxHeartbeats 2000000 in
theorem rorderL_any (g : GrR) (v : Value) (w : World) (hg : GrAt w v g) : Calls Tryd.prog 15 #[v] w (IntsPost w (ordR g)) := by
  obtain ⟨oa, c, ob, d, iv, rfl, hs, ha⟩ := hg.form
  have hC1 : Chg (fun _ => False) w (w.alloc (.cells #[.slice oa g.srcs.length c, .slice ob g.acts.length d] 25)) := (Chg.refl _ w).alloc _
  have HGB := hid (heap_alloc_new' w (.cells #[.slice oa g.srcs.length c, .slice ob g.acts.length d] 25))
  have HG := hid (hg.chg hC1 (fun _ _ h => h))
  have HC1 := hid hC1
  clear hg hs ha hC1
  go_enter Tryd.func15, Tryd.ntmps15
  go_wp2_with fail
  refine (rcheck_any g _ _ HG.out).mono ?_
  rintro e w2 ⟨rfl, hc2⟩
  have a0 := cell_of (hc2.obj HGB.out (fun h => h)) 0
  have a1 := cell_of (hc2.obj HGB.out (fun h => h)) 1
  simp at a0 a1
  have C2 := hid hc2
  clear hc2
  by_cases hz : checkR g = 0
  · rw [hz]
    have hr : ordR g = orderR g := by unfold ordR; rw [if_pos hz]
    have HW := hid (can_iff.1 hz).w
    have HR := hid hr
    clear hz hr
    go_wp2_with fail
    refine (rorder_any g HW.out _ _ (HG.out.chg C2.out (fun _ _ h => h))).mono ?_
    rintro e w3 ⟨hc3, v3, rfl, hown3⟩
    go_wp2_with fail
    go_ret
    refine ⟨(HC1.out.trans C2.out (fun _ _ h => h)).trans hc3 (fun _ _ h => h), v3, rfl, ?_⟩
    rw [HR.out]; exact hown3
  · have hr : ordR g = [] := by unfold ordR; rw [if_neg hz]
    have hne : ((checkR g : Int) == 0) = false := by simp; omega
    have hne2 : ¬ (checkR g : Int) = 0 := by omega
    have HR := hid hr
    clear hz hr
    generalize checkR g = n at *
    go_wp2_with fail
    go_ret
    refine ⟨HC1.out.trans C2.out (fun _ _ h => h), _, rfl, ?_⟩
    rw [HR.out]; exact World.ownsRow_nil _ _ _ _

/-- It returns these names. -/
def NamesPost (w : World) (l : List Nm) (e : Ending) (w' : World) : Prop := Chg (fun _ => False) w w' ∧ ∃ v, e = .returned v ∧ NamesAt w' v l
theorem names_nil (w : World) : NamesAt w (.slice none 0 0) [] := ⟨.inl ⟨rfl, rfl⟩, Nat.zero_le _, by simp⟩

set_option maxRecDepth 100000 in
set_option maxHeartbeats 2000000 in
theorem rneedsL_any (g : GrR) (s : Nm) (v : Value) (w : World) (hg : GrAt w v g) : Calls Tryd.prog 18 #[v, .string (bs s)] w (NamesPost w (needsOf g s)) := by
  obtain ⟨oa, c, ob, d, iv, rfl, hs, ha⟩ := hg.form
  have hC1 : Chg (fun _ => False) w (w.alloc (.cells #[.slice oa g.srcs.length c, .slice ob g.acts.length d] 25)) := (Chg.refl _ w).alloc _
  have HGB := hid (heap_alloc_new' w (.cells #[.slice oa g.srcs.length c, .slice ob g.acts.length d] 25))
  have HG := hid (hg.chg hC1 (fun _ _ h => h))
  have HC1 := hid hC1
  clear hg hs ha hC1
  go_enter Tryd.func18, Tryd.ntmps18
  go_wp2_with fail
  refine (rcheck_any g _ _ HG.out).mono ?_
  rintro e w2 ⟨rfl, hc2⟩
  have a0 := cell_of (hc2.obj HGB.out (fun h => h)) 0
  have a1 := cell_of (hc2.obj HGB.out (fun h => h)) 1
  simp at a0 a1
  have C2 := hid hc2
  clear hc2
  by_cases hz : checkR g = 0
  · rw [hz]
    have hcan := can_iff.1 hz
    have HCAN := hid hcan
    have hsm := needsOf_small hcan s
    have HSM := hid hsm
    have hr : needsOf g s = match placeOf g s with | some i => needsR g i | none => [] := by unfold needsOf; rw [if_pos hz]; rfl
    have HR := hid hr
    clear hz hr hcan hsm
    go_wp2_with fail
    refine (rat_any g s _ _ (HG.out.chg C2.out (fun _ _ h => h))).mono ?_
    rintro e w3 ⟨rfl, hc3⟩
    have a0 := cell_of ((C2.out.trans hc3 (fun _ _ h => h)).obj HGB.out (fun h => h)) 0
    have a1 := cell_of ((C2.out.trans hc3 (fun _ _ h => h)).obj HGB.out (fun h => h)) 1
    simp at a0 a1
    have C3 := hid (C2.out.trans hc3 (fun _ _ h => h))
    clear hc3 C2
    cases hp : placeOf g s with
    | none =>
      have hr2 : needsOf g s = [] := by rw [HR.out, hp]
      have hpz : placeZ g s = -1 := by unfold placeZ; rw [hp]
      have HR2 := hid hr2
      rw [hpz]
      clear hp hr2 hpz
      go_wp2_with fail
      go_ret
      refine ⟨HC1.out.trans C3.out (fun _ _ h => h), _, rfl, ?_⟩
      rw [HR2.out]; exact names_nil _
    | some i =>
      have hi := (placeOf_some hp).1
      have hr2 : needsOf g s = needsR g i := by rw [HR.out, hp]
      have hpz : placeZ g s = (i : Int) := by unfold placeZ; rw [hp]
      have HI := hid hi
      have hi0 : ¬ (i : Int) < 0 := by omega
      have HR2 := hid hr2
      rw [hpz]
      clear hp hr2 hpz hi
      go_wp2_with fail
      refine (rneeds_any g i HI.out HCAN.out _ _ (HG.out.chg C3.out (fun _ _ h => h))).mono ?_
      rintro e w4 ⟨v4, rfl, hq4, hc4, _⟩
      go_wp2_with fail
      go_ret
      refine ⟨(HC1.out.trans C3.out (fun _ _ h => h)).trans hc4 (fun _ _ h => h), v4, rfl, ?_⟩
      rw [HR2.out]
      refine hq4.names (fun t ht => ?_)
      have := HSM.out.2 t (by rw [HR2.out]; exact ht)
      omega
  · have hr : needsOf g s = [] := by unfold needsOf; rw [if_neg hz]
    have hne : ((checkR g : Int) == 0) = false := by simp; omega
    have hne2 : ¬ (checkR g : Int) = 0 := by omega
    have HR := hid hr
    clear hz hr
    generalize checkR g = n at *
    go_wp2_with fail
    go_ret
    refine ⟨HC1.out.trans C2.out (fun _ _ h => h), _, rfl, ?_⟩
    rw [HR.out]; exact names_nil _

theorem rany_take (n names : List Nm) (B : Bool) (q : Nat) (h : q < n.length) : (B || (n.take (q + 1)).any names.contains) = ((B || (n.take q).any names.contains) || names.contains n[q]) := by
  rw [List.take_succ_eq_append_getElem h, List.any_append]
  simp [Bool.or_assoc]
theorem rdirtyB_words (g : GrR) (names : List Nm) (i : Nat) : (names.contains (nameAt g i) || (needsR g i).any names.contains) = dirtyB g names i := by
  rw [Bool.eq_iff_iff, dirtyB_iff]
  simp [List.any_eq_true]

set_option maxRecDepth 100000 in
set_option maxHeartbeats 4000000 in
theorem rdirtyL_any (g : GrR) (names : List Nm) (v nv : Value) (w : World) (hg : GrAt w v g) (hns : NamesAt w nv names) : Calls Tryd.prog 20 #[v, nv] w (IntsPost w (dirtyOf g names)) := by
  obtain ⟨oa, c, ob, d, iv, rfl, hs, ha⟩ := hg.form
  have hC1 : Chg (fun _ => False) w (w.alloc (.cells #[.slice oa g.srcs.length c, .slice ob g.acts.length d] 25)) := (Chg.refl _ w).alloc _
  have HGB := hid (heap_alloc_new' w (.cells #[.slice oa g.srcs.length c, .slice ob g.acts.length d] 25))
  have HG := hid (hg.chg hC1 (fun _ _ h => h))
  have HA := hid (ha.chg hC1 (fun _ _ h => h))
  have HNS := hid (hns.chg hC1 (fun _ _ h => h))
  have HC1 := hid hC1
  have hmx := ha.rows.le
  unfold maxLen at hmx
  have hlen := ha.len
  have hsz : (w.alloc (.cells #[.slice oa g.srcs.length c, .slice ob g.acts.length d] 25)).heap.size = w.heap.size + 1 := by simp
  have he0 := owns_empty (w.alloc (.cells #[.slice oa g.srcs.length c, .slice ob g.acts.length d] 25)) 3
  rw [hsz] at he0
  have HE := hid he0
  have HSZ := hid hsz
  clear hg hs ha hC1 hns he0 hsz
  go_enter Tryd.func20, Tryd.ntmps20
  go_wp2_with fail
  generalize w.alloc (.cells #[.slice oa g.srcs.length c, .slice ob g.acts.length d] 25) = W1 at *
  generalize w.heap.size = gb at *
  have hA1 : Chg (fun _ => False) W1 (W1.alloc (.cells #[] 3)) := al_chg _ _
  refine (rcheck_any g _ _ (HG.out.chg hA1 (fun _ _ h => h))).mono ?_
  rintro e w2 ⟨rfl, hc2⟩
  have C2 := hid (hA1.trans hc2 (fun _ _ h => h))
  have HOW := hid (hc2.owns HE.out (fun _ _ h => h))
  have a0 := cell_of (C2.out.obj HGB.out (fun h => h)) 0
  have a1 := cell_of (C2.out.obj HGB.out (fun h => h)) 1
  simp at a0 a1
  clear hc2 hA1 HE
  by_cases hz : checkR g = 0
  · rw [hz]
    have hcan := can_iff.1 hz
    have HCAN := hid hcan
    have hn12 := hcan.w.acts12
    have hr : dirtyOf g names = dirtyR g names := by unfold dirtyOf; rw [if_pos hz]
    have HR := hid hr
    clear hz hr hcan
    go_wp2_with fail
    go_loopw [5, 6] (fun o i wr => ∃ (k : Nat) (x : Value), x = o ∧ k ≤ g.acts.length ∧ i = .int .i64 k ∧ Chg (fun _ => False) W1 wr ∧ wr.ownsRow 0 3 1 x ((List.range k).filter (dirtyB g names)).length (((List.range k).filter (dirtyB g names)).map natV) ∧ (∀ q, x.ownBlock = some q → gb + 1 ≤ q)) (fun _ i _ => g.acts.length - (intOf i).toNat)
    case atStart => exact ⟨0, _, rfl, Nat.zero_le _, rfl, C2.out, HOW.out, (fun q h => by simp [Value.ownBlock] at h; omega)⟩
    case round =>
      obtain ⟨k, v5, hv, hk, rfl, hch, hown, hbl⟩ := hrel
      subst hv
      have HC := hid hch
      have HOWN := hid hown
      have HBL := hid hbl
      clear hown hbl hch a0 a1
      have a0 := cell_of (HC.out.obj HGB.out (fun h => h)) 0
      have a1 := cell_of (HC.out.obj HGB.out (fun h => h)) 1
      simp at a0 a1
      by_cases hkn : k < g.acts.length
      · have hkn' : (k : Int) < g.acts.length := by omega
        obtain ⟨bb, oo, hix, hlt, e0, e1, e2, hnsk, hw1, hw2⟩ := (HA.out.chg HC.out (fun _ _ h => h)).at k hkn
        have HKN := hid hkn
        have HDB : Hid ((names.contains g.acts[k].name || (needsR g k).any names.contains) = dirtyB g names k) := hid (by rw [← rdirtyB_words, nameAt_lt g k hkn]; rfl)
        have hfl : ((List.range k).filter (dirtyB g names)).length ≤ k := by
          have := List.length_filter_le (dirtyB g names) (List.range k)
          simpa using this
        have HFL := hid hfl
        have HSN := hid (range_snoc g names k)
        have hsm : (needsR g k).length ≤ 20 ∧ ∀ s ∈ needsR g k, s.length ≤ 8 := by
          have h1 := needsOf_small HCAN.out (nameAt g k)
          rw [needsOf_at HCAN.out hkn] at h1
          exact h1
        have HSM := hid hsm
        have hln := hsm.1
        obtain ⟨b0, hb0⟩ : ∃ b0, names.contains g.acts[k].name = b0 := ⟨_, rfl⟩
        have HB0 := hid hb0
        rw [hb0] at HDB
        clear hnsk hw1 hw2 hb0 hfl hsm e1 e2
        go_wp2_with (go_at_call 25; refine (has_any nv names g.acts[k].name _ (HNS.out.chg HC.out (fun _ _ h => h))).mono ?_; rw [HB0.out]; rintro e w3 ⟨rfl, rfl⟩)
        refine (rneeds_any g k HKN.out HCAN.out _ _ (HG.out.chg HC.out (fun _ _ h => h))).mono ?_
        rintro e w8 ⟨v8, rfl, hq8, hc8, hb8⟩
        have hn8 : NamesAt w8 v8 (needsR g k) := hq8.names (fun s hs => by have := HSM.out.2 s hs; omega)
        have HN8 := hid hn8
        have HC8 := hid (HC.out.trans hc8 (fun _ _ h => h))
        have hown8 := hc8.owns HOWN.out (fun _ _ h => h)
        have HOW8 := hid hown8
        obtain ⟨o8, c8, rfl⟩ := hn8.form
        have hlen8 := hn8.len
        generalize needsR g k = nl at *
        clear hq8 hc8 hb8 hn8 hown8
        go_wp2_with fail
        go_loopw [7, 9] (fun is q wx => ∃ q' : Nat, q' ≤ nl.length ∧ q = .int .i64 q' ∧ is = .bool (b0 || (nl.take q').any names.contains) ∧ Chg (fun _ => False) w8 wx) (fun _ q _ => nl.length - (intOf q).toNat)
        case atStart => exact ⟨0, Nat.zero_le _, rfl, by simp, Chg.refl _ _⟩
        case round =>
          obtain ⟨q, hq, rfl, rfl, hcx⟩ := hrel
          have HCX := hid hcx
          clear hcx
          by_cases hqn : q < nl.length
          · have hqn' : (q : Int) < nl.length := by omega
            obtain ⟨ad, hix2, hadc, hadb⟩ := (HN8.out.chg HCX.out (fun _ _ h => h)).ix q hqn
            have HST := hid (rany_take nl names b0 q hqn)
            generalize (b0 || (nl.take q).any names.contains) = bq at *
            obtain ⟨b1, hb1⟩ : ∃ b1, names.contains nl[q] = b1 := ⟨_, rfl⟩
            have HB1 := hid hb1
            rw [hb1] at HST
            clear hb1
            cases bq with
            | true =>
              go_wp2_with fail
              go_roundw
              case rel => exact ⟨q + 1, by omega, by go_num, by rw [HST.out]; rfl, HCX.out⟩
              case measure => simp [intOf]; omega
            | false =>
              go_wp2_with (go_at_call 25; refine (has_any nv names nl[q] _ (HNS.out.chg (HC8.out.trans HCX.out (fun _ _ h => h)) (fun _ _ h => h))).mono ?_; rw [HB1.out]; rintro e w3 ⟨rfl, rfl⟩)
              go_roundw
              case rel => exact ⟨q + 1, by omega, by go_num, by rw [HST.out]; rfl, HCX.out⟩
              case measure => simp [intOf]; omega
          · obtain rfl : q = nl.length := by omega
            rw [List.take_length, HDB.out]
            have HC9 := hid (HC8.out.trans HCX.out (fun _ _ h => h))
            have HOW9 := hid (HCX.out.owns HOW8.out (fun _ _ h => h))
            generalize ((List.range k).filter (dirtyB g names)) = fl at *
            generalize dirtyB g names k = B at HSN HDB ⊢
            cases B with
            | false =>
              go_wp2_with fail
              go_roundw
              case rel => exact ⟨k + 1, v5, rfl, by omega, by go_num, HC9.out, (by rw [HSN.out]; simpa using HOW9.out), HBL.out⟩
              case measure => simp [intOf]; omega
            | true =>
              go_wp2_with (refine wpList_append_new rfl _ _ 31 rfl elInt HOW9.out rfl _ 1 1 rfl rfl rfl (by have := HFL.out; unfold maxLen; omega) (by have := HFL.out; omega) (by decide) ?_; intro g6 cap6 w6 hown6 hch6 hg6)
              go_roundw
              case rel =>
                refine ⟨k + 1, _, rfl, by omega, by go_num, HC9.out.trans hch6 (fun q hq h => absurd (HBL.out q h) (by have := HSZ.out; omega)), ?_, fun q hq => ?_⟩
                · rw [HSN.out]
                  simpa using hown6
                · simp [Value.ownBlock] at hq
                  subst hq
                  rcases hg6 with h | h
                  · exact HBL.out _ h
                  · have := HC9.out.size; have := HSZ.out; omega
              case measure => simp [intOf]; omega
      · obtain rfl : k = g.acts.length := by omega
        go_wp2_with fail
        go_ret
        refine ⟨HC1.out.trans HC.out (fun _ _ h => h), v5, rfl, ?_⟩
        rw [HR.out]; exact HOWN.out
  · have hr : dirtyOf g names = [] := by unfold dirtyOf; rw [if_neg hz]
    have hne : ((checkR g : Int) == 0) = false := by simp; omega
    have hne2 : ¬ (checkR g : Int) = 0 := by omega
    have HR := hid hr
    clear hz hr
    generalize checkR g = n at *
    go_wp2_with fail
    go_ret
    refine ⟨HC1.out.trans C2.out (fun _ _ h => h), _, rfl, ?_⟩
    rw [HR.out]; exact HOW.out
end Go.Proofs.YtafdcmhckpdnbaaDoor
