/- apiaryref07.good walked. -/
import Derived.Test.YtafdcmhckpdnbaaDoorTfB
namespace Go.Proofs.YtafdcmhckpdnbaaDoor
open Go.RowKit

theorem rname_bs (l : List UInt8) (hl : l.length ≤ maxLen) (B : Bool) (hB : nameL l = B) (W : World) : Calls Tryd.prog 48 #[.string (bs l)] W (Rets (.bool B) (fun w' => W = w')) := by
  have := rname_any (bs l) (by rw [bs_size]; exact hl) W
  rw [bs_data, hB] at this
  exact this

set_option maxRecDepth 100000 in
set_option maxHeartbeats 4000000 in
theorem rgood_any (g : GrR) (v : Value) (w : World) (hg : GrAt w v g) : Calls Tryd.prog 36 #[v] w (Rets (.bool (grOK g)) (Chg (fun _ => False) w)) := by
  obtain ⟨oa, c, ob, d, iv, rfl, hs, ha⟩ := hg.form
  have hms := hs.le
  have hma := ha.rows.le
  unfold maxLen at hms hma
  have hC1 : Chg (fun _ => False) w (w.alloc (.cells #[.slice oa g.srcs.length c, .slice ob g.acts.length d] 25)) := (Chg.refl _ w).alloc _
  have k1 := heap_alloc_new' w (.cells #[.slice oa g.srcs.length c, .slice ob g.acts.length d] 25)
  have HC1 := hid hC1
  have HK := hid k1
  have HS := hid hs
  have HA := hid ha
  obtain ⟨R, hR⟩ : ∃ R, R = grOK g := ⟨_, rfl⟩
  rw [← hR]
  have HF : Hid (¬ (g.srcs.length ≤ 8 ∧ g.acts.length ≤ 12 ∧ (∀ s ∈ g.srcs, nameL s = true) ∧ (∀ a ∈ g.acts, actOK a = true)) → R = false) := fun h => by
    rw [hR, Bool.eq_false_iff]; exact fun e => h ((grOK_iff g).1 e)
  have HT : Hid (g.srcs.length ≤ 8 ∧ g.acts.length ≤ 12 ∧ (∀ s ∈ g.srcs, nameL s = true) ∧ (∀ a ∈ g.acts, actOK a = true) → R = true) := fun h => by
    rw [hR]; exact (grOK_iff g).2 h
  clear hg hs ha hC1 k1 hR
  by_cases h40 : g.srcs.length ≤ 8
  · have h40' : ¬ (8 : Int) < (g.srcs.length : Int) := by omega
    have d40 : decide ((8 : Int) < (g.srcs.length : Int)) = false := decide_eq_false h40'
    by_cases h41 : g.acts.length ≤ 12
    · have h41' : ¬ (12 : Int) < (g.acts.length : Int) := by omega
      have d41 : decide ((12 : Int) < (g.acts.length : Int)) = false := decide_eq_false h41'
      go_enter Tryd.func36, Tryd.ntmps36
      go_wp2_with fail
      generalize w.alloc (.cells #[.slice oa g.srcs.length c, .slice ob g.acts.length d] 25) = W1 at *
      have c0 := cell_of HK.out 0
      have c1 := cell_of HK.out 1
      simp at c0 c1
      go_loopw [3] (fun i wr => ∃ k : Nat, k ≤ g.srcs.length ∧ i = .int .i64 k ∧ wr = W1 ∧ ∀ s ∈ g.srcs.take k, nameL s = true) (fun i _ => g.srcs.length - (intOf i).toNat)
      case atStart => exact ⟨0, Nat.zero_le _, rfl, rfl, by simp⟩
      case round =>
        obtain ⟨k, hk, rfl, rfl, hall⟩ := hrel
        have HL := hid hall
        clear hall
        by_cases hkn : k < g.srcs.length
        · have hkn' : (k : Int) < g.srcs.length := by omega
          obtain ⟨ad, hix, hadc, hadb⟩ := (HS.out.chg HC1.out (fun _ _ h => h)).ix k hkn
          have hwd := (HS.out.chg HC1.out (fun _ _ h => h)).wide _ (List.getElem_mem hkn)
          obtain ⟨B, hB⟩ : ∃ B, nameL g.srcs[k] = B := ⟨_, rfl⟩
          have hn := rname_bs _ hwd B hB
          have HB := hid hB
          have hmem := List.getElem_mem hkn
          have HM := hid hmem
          have htk : ∀ s ∈ g.srcs.take (k + 1), s ∈ g.srcs.take k ∨ s = g.srcs[k] := fun s hs => by
            rw [List.take_succ_eq_append_getElem hkn, List.mem_append] at hs
            rcases hs with h | h
            · exact .inl h
            · exact .inr (List.mem_singleton.1 h)
          have HTK := hid htk
          clear hB hmem htk hwd
          generalize bs g.srcs[k] = x at *
          cases B
          · go_wp2_with (go_at_call 48; refine (hn _).mono ?_; rintro e w9 ⟨rfl, rfl⟩)
            go_ret
            refine ⟨?_, HC1.out⟩
            rw [HF.out (fun h => Bool.false_ne_true (HB.out.symm.trans (h.2.2.1 _ HM.out)))] <;> rfl
          · go_wp2_with (go_at_call 48; refine (hn _).mono ?_; rintro e w9 ⟨rfl, rfl⟩)
            go_roundw
            case rel =>
              refine ⟨k + 1, by omega, by go_num, (by first | rfl | trivial), fun s hs => ?_⟩
              rcases HTK.out s hs with h | h
              · exact HL.out s h
              · rw [h]; exact HB.out
            case measure => simp [intOf]; omega
        · obtain rfl : k = g.srcs.length := by omega
          have hsa : ∀ s ∈ g.srcs, nameL s = true := by have := HL.out; rwa [List.take_length] at this
          have HSA := hid hsa
          clear hsa
          go_wp2_with fail
          obtain ⟨wo, hwo⟩ : ∃ wo, wo = wr := ⟨_, rfl⟩
          rw [← hwo] at HC1 HK c0 c1 ⊢
          clear hwo
          go_loopw [4] (fun i wr => ∃ k : Nat, k ≤ g.acts.length ∧ i = .int .i64 k ∧ Chg (fun _ => False) wo wr ∧ ∀ s ∈ g.acts.take k, actOK s = true) (fun i _ => g.acts.length - (intOf i).toNat)
          case atStart => exact ⟨0, Nat.zero_le _, rfl, Chg.refl _ _, by simp⟩
          case round =>
            obtain ⟨k, hk, rfl, hch, hall⟩ := hrel
            have HAA := hid hall
            have e0 := hch.cell c0 (fun h => h)
            have e1 := hch.cell c1 (fun h => h)
            have HCH := hid hch
            have HW := hid (HC1.out.trans hch (fun _ _ h => h))
            clear hch hall
            by_cases hkn : k < g.acts.length
            · have hkn' : (k : Int) < g.acts.length := by omega
              obtain ⟨bb, oo, hix, hlt, p0, p1, p2, hns, hw1, hw2⟩ := (HA.out.chg HW.out (fun _ _ h => h)).at k hkn
              obtain ⟨oi, ci, hiv⟩ := hns.form
              rw [hiv] at p1 hns
              have hli := hns.le
              unfold maxLen at hw2 hli
              have hz2 := bs_size g.acts[k].code
              obtain ⟨B, hB⟩ : ∃ B, nameL g.acts[k].name = B := ⟨_, rfl⟩
              have hn := rname_bs _ hw1 B hB
              have HB := hid hB
              have hmem := List.getElem_mem hkn
              have HNO : Hid (¬ (nameL g.acts[k].name = true ∧ (∀ s ∈ g.acts[k].ins, nameL s = true) ∧ g.acts[k].ins.length ≤ 4 ∧ (bs g.acts[k].code).size ≤ 64) → R = false) := fun h => by
                refine HF.out (fun h2 => h ?_)
                have := (actOK_iff _).1 (h2.2.2.2 _ hmem)
                rw [hz2]; exact this
              have HYES : Hid (nameL g.acts[k].name = true → (∀ s ∈ g.acts[k].ins, nameL s = true) → g.acts[k].ins.length ≤ 4 → (bs g.acts[k].code).size ≤ 64 → ∀ s ∈ g.acts.take (k + 1), actOK s = true) := fun h1 h2 h3 h4 s hs => by
                rw [List.take_succ_eq_append_getElem hkn, List.mem_append] at hs
                rcases hs with h | h
                · exact HAA.out s h
                · rw [List.mem_singleton.1 h]
                  exact (actOK_iff _).2 ⟨h1, h2, h3, by rwa [← hz2]⟩
              rw [← hz2] at hw2
              clear hz2 hiv hw1 hB hmem
              have HNS := hid hns
              clear hns
              generalize bs g.acts[k].name = x1 at *
              generalize bs g.acts[k].code = x2 at *
              generalize g.acts[k].name = nm at *
              generalize g.acts[k].ins = ins at *
              cases B
              · go_wp2_with (go_at_call 48; refine (hn _).mono ?_; rintro e w9 ⟨rfl, rfl⟩)
                go_ret
                refine ⟨?_, HW.out.alloc _⟩
                rw [HNO.out (fun h => Bool.false_ne_true (HB.out.symm.trans h.1))] <;> rfl
              · by_cases t2 : (4 : Int) < (ins.length : Int)
                · go_wp2_with (go_at_call 48; refine (hn _).mono ?_; rintro e w9 ⟨rfl, rfl⟩)
                  go_ret
                  refine ⟨?_, HW.out.alloc _⟩
                  rw [HNO.out (fun h => by have := h.2.2.1; omega)] <;> rfl
                · have d2 : decide ((4 : Int) < (ins.length : Int)) = false := decide_eq_false t2
                  by_cases t3 : (64 : Int) < (x2.size : Int)
                  · go_wp2_with (go_at_call 48; refine (hn _).mono ?_; rintro e w9 ⟨rfl, rfl⟩)
                    go_ret
                    refine ⟨?_, HW.out.alloc _⟩
                    rw [HNO.out (fun h => by have := h.2.2.2; omega)] <;> rfl
                  · have d3 : decide ((64 : Int) < (x2.size : Int)) = false := decide_eq_false t3
                    have hwa : Chg (fun _ => False) wr (wr.alloc (.cells #[.string x1, .slice oi ins.length ci, .string x2] 41)) := (Chg.refl _ wr).alloc _
                    have kA := heap_alloc_new' wr (.cells #[.string x1, .slice oi ins.length ci, .string x2] 41)
                    have HN3 := hid (HNS.out.chg hwa (fun _ _ h => h))
                    have HWA := hid hwa
                    have HKA := hid kA
                    clear hwa kA
                    go_wp2_with (go_at_call 48; refine (hn _).mono ?_; rintro e w9 ⟨rfl, rfl⟩)
                    generalize wr.alloc (.cells #[.string x1, .slice oi ins.length ci, .string x2] 41) = wa at *
                    obtain ⟨A6, hA6⟩ : ∃ A6, A6 = wr.heap.size := ⟨_, rfl⟩
                    rw [← hA6] at HKA ⊢
                    clear hA6 hn
                    have r1 : wa.cell? ⟨A6, 1, none⟩ = some (.slice oi ins.length ci) := (cell_of HKA.out 1).trans rfl
                    go_loopw [6] (fun i wb => ∃ q : Nat, q ≤ ins.length ∧ i = .int .i64 q ∧ wb = wa ∧ ∀ s ∈ ins.take q, nameL s = true) (fun i _ => ins.length - (intOf i).toNat)
                    case atStart => exact ⟨0, Nat.zero_le _, rfl, rfl, by simp⟩
                    case round =>
                      obtain ⟨q, hq, rfl, rfl, hqa⟩ := hrel
                      have HQA := hid hqa
                      clear hqa
                      by_cases hqn : q < ins.length
                      · have hqn' : (q : Int) < ins.length := by omega
                        obtain ⟨ad3, hix3, hadc3, hadb3⟩ := HN3.out.ix q hqn
                        have hwd3 := HN3.out.wide _ (List.getElem_mem hqn)
                        obtain ⟨B, hB⟩ : ∃ B, nameL ins[q] = B := ⟨_, rfl⟩
                        have hn := rname_bs _ hwd3 B hB
                        have HB3 := hid hB
                        have hmem := List.getElem_mem hqn
                        have HM := hid hmem
                        have htk : ∀ s ∈ ins.take (q + 1), s ∈ ins.take q ∨ s = ins[q] := fun s hs => by
                          rw [List.take_succ_eq_append_getElem hqn, List.mem_append] at hs
                          rcases hs with h | h
                          · exact .inl h
                          · exact .inr (List.mem_singleton.1 h)
                        have HTK := hid htk
                        clear hB hmem htk hwd3
                        generalize bs ins[q] = x3 at *
                        cases B
                        · go_wp2_with (go_at_call 48; refine (hn _).mono ?_; rintro e w9 ⟨rfl, rfl⟩)
                          go_ret
                          refine ⟨?_, HW.out.trans HWA.out (fun _ _ h => h)⟩
                          rw [HNO.out (fun h => Bool.false_ne_true (HB3.out.symm.trans (h.2.1 _ HM.out)))] <;> rfl
                        · go_wp2_with (go_at_call 48; refine (hn _).mono ?_; rintro e w9 ⟨rfl, rfl⟩)
                          go_roundw
                          case rel =>
                            refine ⟨q + 1, by omega, by go_num, (by first | rfl | trivial), fun s hs => ?_⟩
                            rcases HTK.out s hs with h | h
                            · exact HQA.out s h
                            · rw [h]; exact HB3.out
                          case measure => simp [intOf]; omega
                      · obtain rfl : q = ins.length := by omega
                        have hsa2 : ∀ s ∈ ins, nameL s = true := by have := HQA.out; rwa [List.take_length] at this
                        have HS2 := hid hsa2
                        clear hsa2
                        go_wp2_with fail
                        go_roundw
                        case rel => exact ⟨k + 1, by omega, by go_num, HCH.out.trans HWA.out (fun _ _ h => h), HYES.out HB.out HS2.out (by omega) (by omega)⟩
                        case measure => simp [intOf]; omega
            · obtain rfl : k = g.acts.length := by omega
              go_wp2_with fail
              go_ret
              refine ⟨?_, HW.out⟩
              rw [HT.out ⟨h40, h41, HSA.out, by have := HAA.out; rwa [List.take_length] at this⟩] <;> rfl
    · have h41' : (12 : Int) < (g.acts.length : Int) := by omega
      go_enter Tryd.func36, Tryd.ntmps36
      go_wp2_with fail
      go_ret
      refine ⟨?_, HC1.out⟩
      rw [HF.out (fun h => by have := h.2.1; omega)] <;> rfl
  · have h40' : (8 : Int) < (g.srcs.length : Int) := by omega
    go_enter Tryd.func36, Tryd.ntmps36
    go_wp2_with fail
    go_ret
    refine ⟨?_, HC1.out⟩
    rw [HF.out (fun h => by have := h.1; omega)] <;> rfl
end Go.Proofs.YtafdcmhckpdnbaaDoor
