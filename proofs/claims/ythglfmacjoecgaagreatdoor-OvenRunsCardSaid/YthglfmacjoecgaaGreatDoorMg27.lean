/- Texts of the proof, one behind the other: apiaryref07.good walked; apiaryref07.Print walked. -/
import Derived.Test.YthglfmacjoecgaaGreatDoorMg26
namespace Go.Proofs.YthglfmacjoecgaaGreatDoor
open Go.RowKit

theorem rname_bs (l : List UInt8) (hl : l.length ≤ maxLen) (B : Bool) (hB : nameL l = B) (W : World) : Calls Tryz.prog 159 #[.string (bs l)] W (Rets (.bool B) (fun w' => W = w')) := by
  have := rname_any (bs l) (by rw [bs_size]; exact hl) W
  rw [bs_data, hB] at this
  exact this

set_option maxRecDepth 100000 in
set_option maxHeartbeats 4000000 in
theorem rgood_any (g : GrR) (v : Value) (w : World) (hg : GrAt w v g) : Calls Tryz.prog 139 #[v] w (Rets (.bool (grOK g)) (Chg (fun _ => False) w)) := by
  obtain ⟨oa, c, ob, d, iv, rfl, hs, ha⟩ := hg.form
  have hms := hs.le
  have hma := ha.rows.le
  unfold maxLen at hms hma
  have hC1 : Chg (fun _ => False) w (w.alloc (.cells #[.slice oa g.srcs.length c, .slice ob g.acts.length d] 25)) := (Chg.refl _ w).alloc _
  have k1 := heap_alloc_new' w (.cells #[.slice oa g.srcs.length c, .slice ob g.acts.length d] 25)
  have HC1 := hid hC1
  have HK := hid k1
  have HS := hid hs
  have HA := hid ha
  obtain ⟨R, hR⟩ : ∃ R, R = grOK g := ⟨_, rfl⟩
  rw [← hR]
  have HF : Hid (¬ (g.srcs.length ≤ 8 ∧ g.acts.length ≤ 12 ∧ (∀ s ∈ g.srcs, nameL s = true) ∧ (∀ a ∈ g.acts, actOK a = true)) → R = false) := fun h => by
    rw [hR, Bool.eq_false_iff]; exact fun e => h ((grOK_iff g).1 e)
  have HT : Hid (g.srcs.length ≤ 8 ∧ g.acts.length ≤ 12 ∧ (∀ s ∈ g.srcs, nameL s = true) ∧ (∀ a ∈ g.acts, actOK a = true) → R = true) := fun h => by
    rw [hR]; exact (grOK_iff g).2 h
  clear hg hs ha hC1 k1 hR
  by_cases h40 : g.srcs.length ≤ 8
  · have h40' : ¬ (8 : Int) < (g.srcs.length : Int) := by omega
    have d40 : decide ((8 : Int) < (g.srcs.length : Int)) = false := decide_eq_false h40'
    by_cases h41 : g.acts.length ≤ 12
    · have h41' : ¬ (12 : Int) < (g.acts.length : Int) := by omega
      have d41 : decide ((12 : Int) < (g.acts.length : Int)) = false := decide_eq_false h41'
      go_enter Tryz.func139, Tryz.ntmps139
      go_wp2_with fail
      generalize w.alloc (.cells #[.slice oa g.srcs.length c, .slice ob g.acts.length d] 25) = W1 at *
      have c0 := cell_of HK.out 0
      have c1 := cell_of HK.out 1
      simp at c0 c1
      go_loopw [3] (fun i wr => ∃ k : Nat, k ≤ g.srcs.length ∧ i = .int .i64 k ∧ wr = W1 ∧ ∀ s ∈ g.srcs.take k, nameL s = true) (fun i _ => g.srcs.length - (intOf i).toNat)
      case atStart => exact ⟨0, Nat.zero_le _, rfl, rfl, by simp⟩
      case round =>
        obtain ⟨k, hk, rfl, rfl, hall⟩ := hrel
        have HL := hid hall
        clear hall
        by_cases hkn : k < g.srcs.length
        · have hkn' : (k : Int) < g.srcs.length := by omega
          obtain ⟨ad, hix, hadc, hadb⟩ := (HS.out.chg HC1.out (fun _ _ h => h)).ix k hkn
          have hwd := (HS.out.chg HC1.out (fun _ _ h => h)).wide _ (List.getElem_mem hkn)
          obtain ⟨B, hB⟩ : ∃ B, nameL g.srcs[k] = B := ⟨_, rfl⟩
          have hn := rname_bs _ hwd B hB
          have HB := hid hB
          have hmem := List.getElem_mem hkn
          have HM := hid hmem
          have htk : ∀ s ∈ g.srcs.take (k + 1), s ∈ g.srcs.take k ∨ s = g.srcs[k] := fun s hs => by
            rw [List.take_succ_eq_append_getElem hkn, List.mem_append] at hs
            rcases hs with h | h
            · exact .inl h
            · exact .inr (List.mem_singleton.1 h)
          have HTK := hid htk
          clear hB hmem htk hwd
          generalize bs g.srcs[k] = x at *
          cases B
          · go_wp2_with (go_at_call 159; refine (hn _).mono ?_; rintro e w9 ⟨rfl, rfl⟩)
            go_ret
            refine ⟨?_, HC1.out⟩
            rw [HF.out (fun h => Bool.false_ne_true (HB.out.symm.trans (h.2.2.1 _ HM.out)))] <;> rfl
          · go_wp2_with (go_at_call 159; refine (hn _).mono ?_; rintro e w9 ⟨rfl, rfl⟩)
            go_roundw
            case rel =>
              refine ⟨k + 1, by omega, by go_num, (by first | rfl | trivial), fun s hs => ?_⟩
              rcases HTK.out s hs with h | h
              · exact HL.out s h
              · rw [h]; exact HB.out
            case measure => simp [intOf]; omega
        · obtain rfl : k = g.srcs.length := by omega
          have hsa : ∀ s ∈ g.srcs, nameL s = true := by have := HL.out; rwa [List.take_length] at this
          have HSA := hid hsa
          clear hsa
          go_wp2_with fail
          obtain ⟨wo, hwo⟩ : ∃ wo, wo = wr := ⟨_, rfl⟩
          rw [← hwo] at HC1 HK c0 c1 ⊢
          clear hwo
          go_loopw [4] (fun i wr => ∃ k : Nat, k ≤ g.acts.length ∧ i = .int .i64 k ∧ Chg (fun _ => False) wo wr ∧ ∀ s ∈ g.acts.take k, actOK s = true) (fun i _ => g.acts.length - (intOf i).toNat)
          case atStart => exact ⟨0, Nat.zero_le _, rfl, Chg.refl _ _, by simp⟩
          case round =>
            obtain ⟨k, hk, rfl, hch, hall⟩ := hrel
            have HAA := hid hall
            have e0 := hch.cell c0 (fun h => h)
            have e1 := hch.cell c1 (fun h => h)
            have HCH := hid hch
            have HW := hid (HC1.out.trans hch (fun _ _ h => h))
            clear hch hall
            by_cases hkn : k < g.acts.length
            · have hkn' : (k : Int) < g.acts.length := by omega
              obtain ⟨bb, oo, hix, hlt, p0, p1, p2, hns, hw1, hw2⟩ := (HA.out.chg HW.out (fun _ _ h => h)).at k hkn
              obtain ⟨oi, ci, hiv⟩ := hns.form
              rw [hiv] at p1 hns
              have hli := hns.le
              unfold maxLen at hw2 hli
              have hz2 := bs_size g.acts[k].code
              obtain ⟨B, hB⟩ : ∃ B, nameL g.acts[k].name = B := ⟨_, rfl⟩
              have hn := rname_bs _ hw1 B hB
              have HB := hid hB
              have hmem := List.getElem_mem hkn
              have HNO : Hid (¬ (nameL g.acts[k].name = true ∧ (∀ s ∈ g.acts[k].ins, nameL s = true) ∧ g.acts[k].ins.length ≤ 4 ∧ (bs g.acts[k].code).size ≤ 64) → R = false) := fun h => by
                refine HF.out (fun h2 => h ?_)
                have := (actOK_iff _).1 (h2.2.2.2 _ hmem)
                rw [hz2]; exact this
              have HYES : Hid (nameL g.acts[k].name = true → (∀ s ∈ g.acts[k].ins, nameL s = true) → g.acts[k].ins.length ≤ 4 → (bs g.acts[k].code).size ≤ 64 → ∀ s ∈ g.acts.take (k + 1), actOK s = true) := fun h1 h2 h3 h4 s hs => by
                rw [List.take_succ_eq_append_getElem hkn, List.mem_append] at hs
                rcases hs with h | h
                · exact HAA.out s h
                · rw [List.mem_singleton.1 h]
                  exact (actOK_iff _).2 ⟨h1, h2, h3, by rwa [← hz2]⟩
              rw [← hz2] at hw2
              clear hz2 hiv hw1 hB hmem
              have HNS := hid hns
              clear hns
              generalize bs g.acts[k].name = x1 at *
              generalize bs g.acts[k].code = x2 at *
              generalize g.acts[k].name = nm at *
              generalize g.acts[k].ins = ins at *
              cases B
              · go_wp2_with (go_at_call 159; refine (hn _).mono ?_; rintro e w9 ⟨rfl, rfl⟩)
                go_ret
                refine ⟨?_, HW.out.alloc _⟩
                rw [HNO.out (fun h => Bool.false_ne_true (HB.out.symm.trans h.1))] <;> rfl
              · by_cases t2 : (4 : Int) < (ins.length : Int)
                · go_wp2_with (go_at_call 159; refine (hn _).mono ?_; rintro e w9 ⟨rfl, rfl⟩)
                  go_ret
                  refine ⟨?_, HW.out.alloc _⟩
                  rw [HNO.out (fun h => by have := h.2.2.1; omega)] <;> rfl
                · have d2 : decide ((4 : Int) < (ins.length : Int)) = false := decide_eq_false t2
                  by_cases t3 : (64 : Int) < (x2.size : Int)
                  · go_wp2_with (go_at_call 159; refine (hn _).mono ?_; rintro e w9 ⟨rfl, rfl⟩)
                    go_ret
                    refine ⟨?_, HW.out.alloc _⟩
                    rw [HNO.out (fun h => by have := h.2.2.2; omega)] <;> rfl
                  · have d3 : decide ((64 : Int) < (x2.size : Int)) = false := decide_eq_false t3
                    have hwa : Chg (fun _ => False) wr (wr.alloc (.cells #[.string x1, .slice oi ins.length ci, .string x2] 43)) := (Chg.refl _ wr).alloc _
                    have kA := heap_alloc_new' wr (.cells #[.string x1, .slice oi ins.length ci, .string x2] 43)
                    have HN3 := hid (HNS.out.chg hwa (fun _ _ h => h))
                    have HWA := hid hwa
                    have HKA := hid kA
                    clear hwa kA
                    go_wp2_with (go_at_call 159; refine (hn _).mono ?_; rintro e w9 ⟨rfl, rfl⟩)
                    generalize wr.alloc (.cells #[.string x1, .slice oi ins.length ci, .string x2] 43) = wa at *
                    obtain ⟨A6, hA6⟩ : ∃ A6, A6 = wr.heap.size := ⟨_, rfl⟩
                    rw [← hA6] at HKA ⊢
                    clear hA6 hn
                    have r1 : wa.cell? ⟨A6, 1, none⟩ = some (.slice oi ins.length ci) := (cell_of HKA.out 1).trans rfl
                    go_loopw [6] (fun i wb => ∃ q : Nat, q ≤ ins.length ∧ i = .int .i64 q ∧ wb = wa ∧ ∀ s ∈ ins.take q, nameL s = true) (fun i _ => ins.length - (intOf i).toNat)
                    case atStart => exact ⟨0, Nat.zero_le _, rfl, rfl, by simp⟩
                    case round =>
                      obtain ⟨q, hq, rfl, rfl, hqa⟩ := hrel
                      have HQA := hid hqa
                      clear hqa
                      by_cases hqn : q < ins.length
                      · have hqn' : (q : Int) < ins.length := by omega
                        obtain ⟨ad3, hix3, hadc3, hadb3⟩ := HN3.out.ix q hqn
                        have hwd3 := HN3.out.wide _ (List.getElem_mem hqn)
                        obtain ⟨B, hB⟩ : ∃ B, nameL ins[q] = B := ⟨_, rfl⟩
                        have hn := rname_bs _ hwd3 B hB
                        have HB3 := hid hB
                        have hmem := List.getElem_mem hqn
                        have HM := hid hmem
                        have htk : ∀ s ∈ ins.take (q + 1), s ∈ ins.take q ∨ s = ins[q] := fun s hs => by
                          rw [List.take_succ_eq_append_getElem hqn, List.mem_append] at hs
                          rcases hs with h | h
                          · exact .inl h
                          · exact .inr (List.mem_singleton.1 h)
                        have HTK := hid htk
                        clear hB hmem htk hwd3
                        generalize bs ins[q] = x3 at *
                        cases B
                        · go_wp2_with (go_at_call 159; refine (hn _).mono ?_; rintro e w9 ⟨rfl, rfl⟩)
                          go_ret
                          refine ⟨?_, HW.out.trans HWA.out (fun _ _ h => h)⟩
                          rw [HNO.out (fun h => Bool.false_ne_true (HB3.out.symm.trans (h.2.1 _ HM.out)))] <;> rfl
                        · go_wp2_with (go_at_call 159; refine (hn _).mono ?_; rintro e w9 ⟨rfl, rfl⟩)
                          go_roundw
                          case rel =>
                            refine ⟨q + 1, by omega, by go_num, (by first | rfl | trivial), fun s hs => ?_⟩
                            rcases HTK.out s hs with h | h
                            · exact HQA.out s h
                            · rw [h]; exact HB3.out
                          case measure => simp [intOf]; omega
                      · obtain rfl : q = ins.length := by omega
                        have hsa2 : ∀ s ∈ ins, nameL s = true := by have := HQA.out; rwa [List.take_length] at this
                        have HS2 := hid hsa2
                        clear hsa2
                        go_wp2_with fail
                        go_roundw
                        case rel => exact ⟨k + 1, by omega, by go_num, HCH.out.trans HWA.out (fun _ _ h => h), HYES.out HB.out HS2.out (by omega) (by omega)⟩
                        case measure => simp [intOf]; omega
            · obtain rfl : k = g.acts.length := by omega
              go_wp2_with fail
              go_ret
              refine ⟨?_, HW.out⟩
              rw [HT.out ⟨h40, h41, HSA.out, by have := HAA.out; rwa [List.take_length] at this⟩] <;> rfl
    · have h41' : (12 : Int) < (g.acts.length : Int) := by omega
      go_enter Tryz.func139, Tryz.ntmps139
      go_wp2_with fail
      go_ret
      refine ⟨?_, HC1.out⟩
      rw [HF.out (fun h => by have := h.2.1; omega)] <;> rfl
  · have h40' : (8 : Int) < (g.srcs.length : Int) := by omega
    go_enter Tryz.func139, Tryz.ntmps139
    go_wp2_with fail
    go_ret
    refine ⟨?_, HC1.out⟩
    rw [HF.out (fun h => by have := h.1; omega)] <;> rfl
end Go.Proofs.YthglfmacjoecgaaGreatDoor
namespace Go.Proofs.YthglfmacjoecgaaGreatDoor
open Go.RowKit

/-- What the inputs add to a line. -/
def insT (l : List (List UInt8)) : List UInt8 := if l = [] then [] else 32 :: wFrom ++ l.flatMap (32 :: ·)
theorem join_flat (x : List UInt8) : ∀ l : List (List UInt8), joinC 32 (x :: l) = x ++ l.flatMap (32 :: ·)
  | [] => by simp [joinC]
  | y :: r => by
    have ih := join_flat y r
    show x ++ 32 :: joinC 32 (y :: r) = _
    rw [ih]
    simp
theorem actLine_eq (a : ActR) : actLine a = wMake ++ 32 :: a.name ++ insT a.ins ++ (32 :: wBy ++ 32 :: wordL a.code) ++ [10] := by
  unfold actLine actWs
  rw [List.append_assoc, List.cons_append, join_flat]
  unfold insT
  by_cases h : a.ins = []
  · rw [if_pos h, if_pos h]; simp
  · rw [if_neg h, if_neg h]; simp
theorem insT_one (s : List UInt8) : insT [s] = 32 :: wFrom ++ 32 :: s := by unfold insT; simp
theorem insT_more (l : List (List UInt8)) (s : List UInt8) (h : l ≠ []) : insT (l ++ [s]) = insT l ++ 32 :: s := by
  unfold insT
  rw [if_neg (by simp), if_neg h]
  simp
theorem insT_len (l : List (List UInt8)) (n : Nat) (hn : l.length ≤ n) (h : ∀ s ∈ l, s.length ≤ 8) : (insT l).length ≤ 5 + 9 * n := by
  unfold insT
  split
  · simp
  · have : ∀ l : List (List UInt8), (∀ s ∈ l, s.length ≤ 8) → (l.flatMap (32 :: ·)).length ≤ 9 * l.length := by
      intro l
      induction l with
      | nil => intro _; simp
      | cons x r ih =>
        intro h
        have h1 := ih (fun s hs => h s (by simp [hs]))
        have h2 := h x (by simp)
        rw [List.flatMap_cons, List.length_append]
        simp only [List.length_cons]
        omega
    have h1 := this l h
    simp [wFrom] at h1 ⊢
    omega
theorem cat_src (T s : List UInt8) : bs T ++ { data := #[115, 111, 117, 114, 99, 101, 32] } ++ bs s ++ { data := #[10] } = bs (T ++ srcLine s) := by
  rw [show ({ data := #[115, 111, 117, 114, 99, 101, 32] } : ByteArray) = bs [115, 111, 117, 114, 99, 101, 32] from rfl, show ({ data := #[10] } : ByteArray) = bs [10] from rfl, ← bs_append, ← bs_append, ← bs_append]
  congr 1
  simp [srcLine, joinC, wSource]
theorem cat_make (T s : List UInt8) : bs T ++ { data := #[109, 97, 107, 101, 32] } ++ bs s = bs (T ++ (wMake ++ 32 :: s)) := by
  rw [show ({ data := #[109, 97, 107, 101, 32] } : ByteArray) = bs [109, 97, 107, 101, 32] from rfl, ← bs_append, ← bs_append]
  congr 1
  simp [wMake]
theorem cat_from (T s : List UInt8) : bs T ++ { data := #[32, 102, 114, 111, 109] } ++ { data := #[32] } ++ bs s = bs (T ++ insT [s]) := by
  rw [show ({ data := #[32, 102, 114, 111, 109] } : ByteArray) = bs [32, 102, 114, 111, 109] from rfl, show ({ data := #[32] } : ByteArray) = bs [32] from rfl, ← bs_append, ← bs_append, ← bs_append, insT_one]
  congr 1
  simp [wFrom]
theorem cat_more (T s : List UInt8) : bs T ++ { data := #[32] } ++ bs s = bs (T ++ 32 :: s) := by
  rw [show ({ data := #[32] } : ByteArray) = bs [32] from rfl, ← bs_append, ← bs_append]
  congr 1
  simp
theorem cat_by (T : List UInt8) (a : ActR) : bs (T ++ (wMake ++ 32 :: a.name) ++ insT a.ins) ++ { data := #[32, 98, 121, 32] } ++ bs (wordL a.code) ++ { data := #[10] } = bs (T ++ actLine a) := by
  rw [show ({ data := #[32, 98, 121, 32] } : ByteArray) = bs [32, 98, 121, 32] from rfl, show ({ data := #[10] } : ByteArray) = bs [10] from rfl, ← bs_append, ← bs_append, ← bs_append, actLine_eq]
  congr 1
  simp [wBy]

set_option maxRecDepth 100000 in
set_option maxHeartbeats 4000000 in
theorem rprint_any (g : GrR) (v : Value) (w : World) (hg : GrAt w v g) :
    Calls Tryz.prog 120 #[v] w (Rets (.tuple #[.string (bs ((printR g).getD [])), .int .i64 (if grOK g = true then 0 else 1)]) (Chg (fun _ => False) w)) := by
  have hig : ∀ W, Chg (fun _ => False) w W → Calls Tryz.prog 139 #[v] W (Rets (.bool (grOK g)) (Chg (fun _ => False) W)) := fun W hW => rgood_any g v W (hg.chg hW (fun _ _ h => h))
  obtain ⟨oa, c, ob, d, iv, rfl, hs, ha⟩ := hg.form
  have hC1 : Chg (fun _ => False) w (w.alloc (.cells #[.slice oa g.srcs.length c, .slice ob g.acts.length d] 25)) := (Chg.refl _ w).alloc _
  cases hok : grOK g with
  | false =>
    rw [hok] at hig
    have hr : printR g = none := by unfold printR; rw [hok]; rfl
    rw [hr]
    have h1 := hig _ hC1
    clear hig hs ha
    go_enter Tryz.func120, Tryz.ntmps120
    go_wp2_with (go_at_call 139; refine h1.mono ?_; rintro e w' ⟨rfl, hc⟩)
    go_ret2
    exact ⟨rfl, hC1.trans hc (fun _ _ h => h)⟩
  | true =>
    rw [hok] at hig
    obtain ⟨n1, n2, n3, n4⟩ := (grOK_iff g).1 hok
    have hr : printR g = some (textL g) := by unfold printR; rw [hok]; rfl
    rw [hr]
    have h1 := hig _ hC1
    have hgb : (w.alloc (.cells #[.slice oa g.srcs.length c, .slice ob g.acts.length d] 25)).heap[w.heap.size]? = some (.cells #[.slice oa g.srcs.length c, .slice ob g.acts.length d] 25 (0, 0)) := heap_alloc_new' w _
    have HI := hid n3
    have HJ := hid n4
    have HS := hid hs
    have HA := hid ha
    have HG := hid hgb
    obtain ⟨txt, htxt⟩ : ∃ txt, txt = textL g := ⟨_, rfl⟩
    have HT : Hid (txt = (g.srcs.map srcLine).flatten ++ (g.acts.map actLine).flatten) := htxt
    have HTX := hid htxt
    have hb1 : ∀ k, ((g.srcs.take k).map srcLine).flatten.length ≤ 128 := fun k => by
      have := flatten_len ((g.srcs.take k).map srcLine) 16 (fun l hl => by obtain ⟨s, hs, rfl⟩ := List.mem_map.1 hl; exact srcLine_len s (HI.out s (List.mem_of_mem_take hs)))
      simp only [List.length_map, List.length_take] at this
      omega
    have HB1 := hid hb1
    have hb2 : ∀ k, ((g.acts.take k).map actLine).flatten.length ≤ 2400 := fun k => by
      have := flatten_len ((g.acts.take k).map actLine) 200 (fun l hl => by obtain ⟨s, hs, rfl⟩ := List.mem_map.1 hl; exact actLine_len s (HJ.out s (List.mem_of_mem_take hs)))
      simp only [List.length_map, List.length_take] at this
      omega
    have HB2 := hid hb2
    clear hig hg hs ha n3 n4 hr hok hgb htxt hb1 hb2
    go_enter Tryz.func120, Tryz.ntmps120
    go_wp2_with (go_at_call 139; refine h1.mono ?_; clear h1; rintro e W1 ⟨rfl, hc⟩; have HC1 := hid (hC1.trans hc (fun _ _ h => h)); have q0 : W1.cell? ⟨w.heap.size, 0, none⟩ = some (.slice oa g.srcs.length c) := (cell_of (hc.obj HG.out (fun h => h)) 0).trans rfl; have q1 : W1.cell? ⟨w.heap.size, 1, none⟩ = some (.slice ob g.acts.length d) := (cell_of (hc.obj HG.out (fun h => h)) 1).trans rfl; clear hc hC1 HG)
    go_loopw [4, 5] (fun ov i wr => ∃ k : Nat, k ≤ g.srcs.length ∧ i = .int .i64 k ∧ ov = .string (bs ((g.srcs.take k).map srcLine).flatten) ∧ wr = W1) (fun _ i _ => g.srcs.length - (intOf i).toNat)
    case atStart => exact ⟨0, Nat.zero_le _, rfl, rfl, rfl⟩
    case round =>
      obtain ⟨k, hk, rfl, rfl, rfl⟩ := hrel
      by_cases hkn : k < g.srcs.length
      · have hkn' : (k : Int) < g.srcs.length := by omega
        obtain ⟨ad, hix, hadc, hadb⟩ := (HS.out.chg HC1.out (fun _ _ h => h)).ix k hkn
        have hx8 := (nameL_let (HI.out _ (List.getElem_mem hkn))).2.1
        have hTk := HB1.out k
        rw [← bs_size] at hx8 hTk
        have htk : bs ((g.srcs.take k).map srcLine).flatten ++ { data := #[115, 111, 117, 114, 99, 101, 32] } ++ bs g.srcs[k] ++ { data := #[10] } = bs ((g.srcs.take (k + 1)).map srcLine).flatten := by
          rw [cat_src, List.take_succ_eq_append_getElem hkn, List.map_append, List.flatten_append]; simp
        have HTK := hid htk
        clear htk
        generalize bs g.srcs[k] = x at *
        generalize bs ((g.srcs.take k).map srcLine).flatten = sv at *
        have z1 : ¬ 9223372036854775807 < sv.size + 7 := by omega
        have z2 : ¬ 9223372036854775807 < sv.size + 7 + x.size := by omega
        have z3 : ¬ 9223372036854775807 < sv.size + 7 + x.size + 1 := by omega
        go_wp2_with fail
        go_roundw
        case rel => exact ⟨k + 1, by omega, by go_num, congrArg Value.string HTK.out, by first | rfl | trivial⟩
        case measure => simp [intOf]; omega
      · obtain rfl : k = g.srcs.length := by omega
        have hT1 := HB1.out g.srcs.length
        rw [List.take_length] at hT1 ⊢
        go_wp2_with fail
        generalize (g.srcs.map srcLine).flatten = T1 at *
        have HT1 := hid hT1
        obtain ⟨wo, hwo⟩ : ∃ wo, wo = wr := ⟨_, rfl⟩
        rw [← hwo] at HC1 q0 q1 ⊢
        clear hwo hT1
        go_loopw [4, 6] (fun ov i wr => ∃ k : Nat, k ≤ g.acts.length ∧ i = .int .i64 k ∧ ov = .string (bs (T1 ++ ((g.acts.take k).map actLine).flatten)) ∧ Chg (fun _ => False) wo wr) (fun _ i _ => g.acts.length - (intOf i).toNat)
        case atStart => exact ⟨0, Nat.zero_le _, rfl, by simp, Chg.refl _ _⟩
        case round =>
          obtain ⟨k, hk, rfl, rfl, hch⟩ := hrel
          have e1 := hch.cell q1 (fun h => h)
          have HCH := hid hch
          have HW := hid (HC1.out.trans hch (fun _ _ h => h))
          clear hch
          by_cases hkn : k < g.acts.length
          · have hkn' : (k : Int) < g.acts.length := by omega
            obtain ⟨bb, oo, hix, hlt, p0, p1, p2, hns, hw1, hw2⟩ := (HA.out.chg HW.out (fun _ _ h => h)).at k hkn
            obtain ⟨oi, ci, hiv⟩ := hns.form
            rw [hiv] at p1 hns
            have hok := HJ.out _ (List.getElem_mem hkn)
            have hTK : T1 ++ ((g.acts.take (k + 1)).map actLine).flatten = (T1 ++ ((g.acts.take k).map actLine).flatten) ++ actLine g.acts[k] := by
              rw [List.take_succ_eq_append_getElem hkn, List.map_append, List.flatten_append]; simp
            have hTl : (T1 ++ ((g.acts.take k).map actLine).flatten).length ≤ 2528 := by
              have h1 := HT1.out
              have h2 := HB2.out k
              rw [List.length_append]; omega
            have HTK := hid hTK
            obtain ⟨a, haE⟩ : ∃ a, a = g.acts[k] := ⟨_, rfl⟩
            rw [← haE] at p0 p1 p2 hns hok HTK
            clear haE hTK hw1 hw2 hiv
            generalize T1 ++ ((g.acts.take k).map actLine).flatten = T at *
            obtain ⟨o1, o2, o3, o4⟩ := (actOK_iff a).1 hok
            have hcode : ∀ W, Calls Tryz.prog 140 #[.string (bs a.code)] W (Rets (.string (bs (wordL a.code))) (Chg (fun _ => False) W)) := fun W => rword_any a.code o4 W
            have hwl := wordL_len a.code o4
            have hnl := (nameL_let o1).2.1
            have hil : ∀ q, (insT (a.ins.take q)).length ≤ 41 := fun q => by
              have := insT_len (a.ins.take q) 4 (by simp; omega) (fun s hs => (nameL_let (o2 s (List.mem_of_mem_take hs))).2.1)
              omega
            have HIL := hid hil
            have HO2 := hid o2
            have HNS := hid hns
            have HMK : Hid (bs T ++ { data := #[109, 97, 107, 101, 32] } ++ bs a.name = bs (T ++ (wMake ++ 32 :: a.name))) := cat_make T a.name
            have HBY : Hid (bs (T ++ (wMake ++ 32 :: a.name) ++ insT a.ins) ++ { data := #[32, 98, 121, 32] } ++ bs (wordL a.code) ++ { data := #[10] } = bs (T ++ actLine a)) := cat_by T a
            have hP : (T ++ (wMake ++ 32 :: a.name)).length ≤ 2600 := by simp [wMake]; omega
            have HP := hid hP
            rw [← bs_size] at hTl hwl hnl
            clear hil o1 o2 o4 hns hok hP
            generalize T ++ (wMake ++ 32 :: a.name) = P at *
            generalize bs T = sv at *
            generalize bs a.name = x1 at *
            generalize bs a.code = x2 at *
            generalize bs (wordL a.code) = x3 at *
            have z1 : ¬ 9223372036854775807 < sv.size + 5 := by omega
            have z2 : ¬ 9223372036854775807 < sv.size + 5 + x1.size := by omega
            have hwa : Chg (fun _ => False) wr (wr.alloc (.cells #[.string x1, .slice oi a.ins.length ci, .string x2] 43)) := (Chg.refl _ wr).alloc _
            have kA := heap_alloc_new' wr (.cells #[.string x1, .slice oi a.ins.length ci, .string x2] 43)
            have HN3 := hid (HNS.out.chg hwa (fun _ _ h => h))
            have HWA := hid hwa
            have HKA := hid kA
            clear hwa kA
            go_wp2_with fail
            rw [HMK.out]
            generalize wr.alloc (.cells #[.string x1, .slice oi a.ins.length ci, .string x2] 43) = wa at *
            obtain ⟨A6, hA6⟩ : ∃ A6, A6 = wr.heap.size := ⟨_, rfl⟩
            rw [← hA6] at HKA ⊢
            clear hA6 z1 z2
            have r1 : wa.cell? ⟨A6, 1, none⟩ = some (.slice oi a.ins.length ci) := (cell_of HKA.out 1).trans rfl
            have r2 : wa.cell? ⟨A6, 2, none⟩ = some (.string x2) := (cell_of HKA.out 2).trans rfl
            go_loopw [4, 8] (fun ov i wb => ∃ q : Nat, q ≤ a.ins.length ∧ i = .int .i64 q ∧ ov = .string (bs (P ++ insT (a.ins.take q))) ∧ wb = wa) (fun _ i _ => a.ins.length - (intOf i).toNat)
            case atStart => exact ⟨0, Nat.zero_le _, rfl, by simp [insT], rfl⟩
            case round =>
              obtain ⟨q, hq, rfl, rfl, rfl⟩ := hrel
              by_cases hqn : q < a.ins.length
              · have hqn' : (q : Int) < a.ins.length := by omega
                obtain ⟨ad3, hix3, hadc3, hadb3⟩ := HN3.out.ix q hqn
                have hx8 := (nameL_let (HO2.out _ (List.getElem_mem hqn))).2.1
                have hpl : (P ++ insT (a.ins.take q)).length ≤ 2700 := by
                  have h1 := HP.out
                  have h2 := HIL.out q
                  rw [List.length_append]; omega
                rw [← bs_size] at hx8 hpl
                by_cases hq0 : q = 0
                · subst hq0
                  have e00 : ((0 : Nat) : Int) = 0 := rfl
                  rw [e00] at hix3
                  have hcat : bs (P ++ insT (a.ins.take 0)) ++ { data := #[32, 102, 114, 111, 109] } ++ { data := #[32] } ++ bs a.ins[0] = bs (P ++ insT (a.ins.take (0 + 1))) := by
                    rw [cat_from, List.take_succ_eq_append_getElem hqn]; simp [insT]
                  have HCAT := hid hcat
                  clear hcat
                  generalize bs (P ++ insT (a.ins.take 0)) = sv2 at *
                  generalize bs a.ins[0] = x4 at *
                  have z1 : ¬ 9223372036854775807 < sv2.size + 5 := by omega
                  have z2 : ¬ 9223372036854775807 < sv2.size + 5 + 1 := by omega
                  have z3 : ¬ 9223372036854775807 < sv2.size + 5 + 1 + x4.size := by omega
                  go_wp2_with fail
                  go_roundw
                  case rel => exact ⟨0 + 1, by omega, by go_num, congrArg Value.string HCAT.out, by first | rfl | trivial⟩
                  case measure => simp [intOf]; omega
                · have hq0' : ¬ (q : Int) = 0 := by omega
                  have hcat : bs (P ++ insT (a.ins.take q)) ++ { data := #[32] } ++ bs a.ins[q] = bs (P ++ insT (a.ins.take (q + 1))) := by
                    rw [cat_more, List.take_succ_eq_append_getElem hqn, insT_more _ _ (by intro e; have := congrArg List.length e; rw [List.length_take, List.length_nil] at this; omega)]; simp
                  have HCAT := hid hcat
                  clear hcat
                  generalize bs (P ++ insT (a.ins.take q)) = sv2 at *
                  generalize bs a.ins[q] = x4 at *
                  have z1 : ¬ 9223372036854775807 < sv2.size + 1 := by omega
                  have z2 : ¬ 9223372036854775807 < sv2.size + 1 + x4.size := by omega
                  go_wp2_with fail
                  go_roundw
                  case rel => exact ⟨q + 1, by omega, by go_num, congrArg Value.string HCAT.out, by first | rfl | trivial⟩
                  case measure => simp [intOf]; omega
              · obtain rfl : q = a.ins.length := by omega
                have hpl : (P ++ insT a.ins).length ≤ 2700 := by
                  have h1 := HP.out
                  have h2 := HIL.out a.ins.length
                  rw [List.take_length] at h2
                  rw [List.length_append]; omega
                rw [← bs_size] at hpl
                rw [List.take_length]
                generalize bs (P ++ insT a.ins) = sv2 at *
                have z1 : ¬ 9223372036854775807 < sv2.size + 4 := by omega
                have z2 : ¬ 9223372036854775807 < sv2.size + 4 + x3.size := by omega
                have z3 : ¬ 9223372036854775807 < sv2.size + 4 + x3.size + 1 := by omega
                go_wp2_with (go_at_call 140; refine (hcode _).mono ?_; rintro e w7 ⟨rfl, hc7⟩)
                go_roundw
                case rel => exact ⟨k + 1, by omega, by go_num, congrArg Value.string (by rw [HTK.out]; exact HBY.out), (HCH.out.trans HWA.out (fun _ _ h => h)).trans hc7 (fun _ _ h => h)⟩
                case measure => simp [intOf]; omega
          · obtain rfl : k = g.acts.length := by omega
            rw [List.take_length, ← HT.out]
            go_wp2_with fail
            go_ret2
            refine ⟨?_, HW.out⟩
            rw [HTX.out]
            rfl
end Go.Proofs.YthglfmacjoecgaaGreatDoor
