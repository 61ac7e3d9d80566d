/- apiaryref07.action walked: joined. -/
import Derived.Test.YtbaipdhgjalgoaaDoorRfK
import Derived.Test.YtbaipdhgjalgoaaDoorRfL
namespace Go.Proofs.YtbaipdhgjalgoaaDoor
open Go.RowKit

set_option maxRecDepth 100000 in
set_option maxHeartbeats 4000000 in
theorem ract_any (ws : List (List UInt8)) (hl : ws.length ≤ 100000) (hws : ∀ x ∈ ws, x.length ≤ 100000) (g c : Nat) (w : World) (hcap : ws.length ≤ c) (hcell : ∀ i (h : i < ws.length), w.cell? ⟨g, i, none⟩ = some (.string (bs ws[i]))) :
    Calls Tryd.prog 22 #[.slice (some ⟨g, 0, none⟩) ws.length c] w (RAct (actionL ws) w) := by
  by_cases h4 : ws.length < 4
  · rw [act_short ws h4]
    have h4' : (ws.length : Int) < 4 := by omega
    clear hcell hws
    go_enter Tryd.func22, Tryd.ntmps22
    go_wp2_with fail
    refine bodyPost_ret (v := .tuple #[.agg #[.string { data := #[] }, .slice none 0 0, .string { data := #[] }], .bool false]) (by simp [results, Tryd.results22, go_sem] <;> rfl) rfl ⟨((Chg.refl _ w).alloc _).alloc _, _, _, _, _, _, rfl⟩
  · obtain ⟨N, hN⟩ : ∃ N, ws.length = N + 2 := ⟨ws.length - 2, by omega⟩
    have hN2 : 2 ≤ N := by omega
    have h4' : ¬ (N : Int) + 2 < 4 := by omega
    have d4 : decide ((N : Int) + 2 < 4) = false := decide_eq_false h4'
    have hw1 : IntKind.i64.wrap ((N : Int) + 2 - 2) = (N : Int) := by rw [IntKind.wrap_i64]; omega
    have hw2 : IntKind.i64.wrap ((N : Int) + 2 - 1) = (N : Int) + 1 := by rw [IntKind.wrap_i64]; omega
    have hgw : g < w.heap.size := World.block_lt_of_cell? w _ (hcell 0 (by omega))
    have bl0 : ((bs (ws[0]'(by omega))).toList == [109, 97, 107, 101]) = decide (ws[0]'(by omega) = wMake) := by rw [Lib.toList_data, bs_data]; exact beq_dec _ _
    have blN : ((bs (ws[N]'(by omega))).toList == [98, 121]) = decide (ws[N]'(by omega) = wBy) := by rw [Lib.toList_data, bs_data]; exact beq_dec _ _
    have blF : N ≠ 2 → ((bs (ws[2]'(by omega))).toList == [102, 114, 111, 109]) = decide (ws[2]'(by omega) = wFrom) := fun _ => by rw [Lib.toList_data, bs_data]; exact beq_dec _ _
    obtain ⟨B1, hB1⟩ : ∃ B, nameL (ws[1]'(by omega)) = B := ⟨_, rfl⟩
    have hn1 := name_bs _ (hws _ (List.getElem_mem (show 1 < ws.length by omega))) B1 hB1
    have hcode := fun W => rcode_any (ws[N + 1]'(by omega)) (by have := hws _ (List.getElem_mem (show N + 1 < ws.length by omega)); unfold maxLen; omega) W
    obtain ⟨oc, hoc⟩ : ∃ oc, oc = codeL (ws[N + 1]'(by omega)) := ⟨_, rfl⟩
    rw [← hoc] at hcode
    have z0 := hcell 0 (by omega)
    have z1 := hcell 1 (by omega)
    have zN := hcell N (by omega)
    have zC := hcell (N + 1) (by omega)
    have HCELL := hid hcell
    have HWS := hid hws
    have HN := hid hN
    have BAD : Hid (ws[0]'(by omega) ≠ wMake ∨ ws[N]'(by omega) ≠ wBy ∨ oc = none ∨ nameL (ws[1]'(by omega)) = false ∨ (N ≠ 2 ∧ ws[2]'(by omega) ≠ wFrom) ∨ N = 3 ∨ 7 < N ∨ (∃ s ∈ (ws.take N).drop 3, nameL s = false) → actionL ws = none) := fun h => act_bad ws N hN hN2 (by rw [← hoc]; exact h)
    have GOOD : Hid (∀ cl, ws[0]'(by omega) = wMake → ws[N]'(by omega) = wBy → oc = some cl → nameL (ws[1]'(by omega)) = true → (N ≠ 2 → ws[2]'(by omega) = wFrom ∧ 4 ≤ N) → N ≤ 7 → (∀ s ∈ (ws.take N).drop 3, nameL s = true) → actionL ws = some ⟨ws[1]'(by omega), (ws.take N).drop 3, cl⟩) := fun cl a b c d e f h => act_good ws N hN hN2 cl a b (by rw [← hoc]; exact c) d e f h
    have HOC := hid hoc
    have HB1 := hid hB1
    have HBF := hid blF
    obtain ⟨cd, hcd⟩ : ∃ cd, cd = bs (oc.getD []) := ⟨_, rfl⟩
    obtain ⟨B, hB⟩ : ∃ B, B = oc.isSome := ⟨_, rfl⟩
    rw [← hcd, ← hB] at hcode
    have HCD := hid hcd
    have HB := hid hB
    have w2f := act_w2 w ((w.alloc (.cells #[.string { data := #[] }, .slice none 0 0, .string { data := #[] }] 42)).alloc (.cells #[.string { data := #[] }, .slice none 0 0, .string { data := #[] }] 42)) g hgw (Chg.refl _ _)
    have a0 := w2f.2.2.2 _ _ z0
    have a1 := w2f.2.2.2 _ _ z1
    have aN := w2f.2.2.2 _ _ zN
    have aC := w2f.2.2.2 _ _ zC
    obtain ⟨O, hO⟩ : ∃ O, O = actionL ws := ⟨_, rfl⟩
    rw [← hO]
    have HO := hid hO
    obtain ⟨e0, he0⟩ : ∃ e, e = decide (ws[0]'(by omega) = wMake) := ⟨_, rfl⟩
    obtain ⟨eN, heN⟩ : ∃ e, e = decide (ws[N]'(by omega) = wBy) := ⟨_, rfl⟩
    rw [← he0] at bl0
    rw [← heN] at blN
    have HE0 := hid he0
    have HEN := hid heN
    rw [hN] at hcap ⊢
    obtain ⟨s0, hs0⟩ : ∃ s, s = bs (ws[0]'(by omega)) := ⟨_, rfl⟩
    obtain ⟨nm, hnm⟩ : ∃ s, s = bs (ws[1]'(by omega)) := ⟨_, rfl⟩
    obtain ⟨sN, hsN⟩ : ∃ s, s = bs (ws[N]'(by omega)) := ⟨_, rfl⟩
    obtain ⟨sC, hsC⟩ : ∃ s, s = bs (ws[N + 1]'(by omega)) := ⟨_, rfl⟩
    rw [← hs0] at bl0 a0
    rw [← hnm] at a1 hn1
    rw [← hsN] at blN aN
    rw [← hsC] at hcode aC
    have HNM := hid hnm
    clear hcell hws hoc hB1 hcd hB z0 z1 zN zC w2f hO he0 heN hs0 hnm hsN hsC blF
    cases e0 with
    | false =>
      have HR : Hid (O = none) := HO.out.trans (BAD.out (.inl (of_decide_eq_false HE0.out.symm)))
      go_enter Tryd.func22, Tryd.ntmps22
      go_wp2_with fail
      rw [HR.out]
      refine bodyPost_ret (v := .tuple #[.agg #[.string { data := #[] }, .slice none 0 0, .string { data := #[] }], .bool false]) (by simp [results, Tryd.results22, go_sem] <;> rfl) rfl ⟨((Chg.refl _ w).alloc _).alloc _, _, _, _, _, _, rfl⟩
    | true =>
      cases B1 with
      | false =>
        have HR : Hid (O = none) := HO.out.trans (BAD.out (.inr (.inr (.inr (.inl HB1.out)))))
        go_enter Tryd.func22, Tryd.ntmps22
        go_wp2_with (go_at_call 18; refine (hn1 _).mono ?_; rintro e w9 ⟨rfl, rfl⟩)
        rw [HR.out]
        refine bodyPost_ret (v := .tuple #[.agg #[.string { data := #[] }, .slice none 0 0, .string { data := #[] }], .bool false]) (by simp [results, Tryd.results22, go_sem] <;> rfl) rfl ⟨((Chg.refl _ w).alloc _).alloc _, _, _, _, _, _, rfl⟩
      | true =>
        cases eN with
        | false =>
          have HR : Hid (O = none) := HO.out.trans (BAD.out (.inr (.inl (of_decide_eq_false HEN.out.symm))))
          go_enter Tryd.func22, Tryd.ntmps22
          go_wp2_with (go_at_call 18; refine (hn1 _).mono ?_; rintro e w9 ⟨rfl, rfl⟩)
          rw [HR.out]
          refine bodyPost_ret (v := .tuple #[.agg #[.string { data := #[] }, .slice none 0 0, .string { data := #[] }], .bool false]) (by simp [results, Tryd.results22, go_sem] <;> rfl) rfl ⟨((Chg.refl _ w).alloc _).alloc _, _, _, _, _, _, rfl⟩
        | true =>
          cases B with
          | false =>
            have hno : oc = none := Option.not_isSome_iff_eq_none.1 (by rw [← HB.out]; decide)
            have HR : Hid (O = none) := HO.out.trans (BAD.out (.inr (.inr (.inl hno))))
            clear hno
            go_enter Tryd.func22, Tryd.ntmps22
            go_wp2_with (first | (go_at_call 18; refine (hn1 _).mono ?_; rintro e w9 ⟨rfl, rfl⟩) | (go_at_call 38; refine (hcode _).mono ?_; rintro e w2 ⟨rfl, hc2⟩; obtain ⟨kR, kA, hcw, _⟩ := act_w2 w w2 g hgw hc2; have HCW := hid hcw; have r0 := cell_of kR 0; have r1 := cell_of kR 1; have r2 := cell_of kR 2; have p0 := cell_of kA 0; have p1 := cell_of kA 1; have p2 := cell_of kA 2; have f0 := frozen_of kR 0; have f1 := frozen_of kR 1; have f2 := frozen_of kR 2; have i0 : w2.setCell ⟨w.heap.size, 0, none⟩ (.string { data := #[] }) = w2 := setCell_id kR rfl; have i1 : w2.setCell ⟨w.heap.size, 1, none⟩ (.slice none 0 0) = w2 := setCell_id kR rfl; have i2 : w2.setCell ⟨w.heap.size, 2, none⟩ (.string { data := #[] }) = w2 := setCell_id kR rfl; simp at r0 r1 r2 p0 p1 p2; clear kR kA hcw hc2))
            rw [HR.out]
            refine bodyPost_ret (v := .tuple #[.agg #[.string { data := #[] }, .slice none 0 0, .string { data := #[] }], .bool false]) (by simp [results, Tryd.results22, go_sem, r0, r1, r2] <;> rfl) rfl ⟨HCW.out, _, _, _, _, _, rfl⟩
          | true =>
            obtain ⟨cl, hsome⟩ : ∃ cl, oc = some cl := by have := HB.out; cases oc with | none => simp at this | some x => exact ⟨x, rfl⟩
            have hcl := HOC.out.symm.trans hsome
            have hG0 := of_decide_eq_true HE0.out.symm
            have hGN := of_decide_eq_true HEN.out.symm
            have hO := HO.out
            rw [hO]
            by_cases hN0 : N = 2
            · subst hN0
              have hR : actionL ws = some ⟨ws[1]'(by omega), [], cl⟩ := by
                have hz : (ws.take 2).drop 3 = [] := List.drop_eq_nil_of_le (by simp; omega)
                rw [GOOD.out cl hG0 hGN hsome HB1.out (fun h => absurd rfl h) (by omega) (by rw [hz]; simp), hz]
              rw [hR]
              exact ract_two (ws[0]'(by omega)) (ws[1]'(by omega)) (ws[2]'(by omega)) (ws[3]'(by omega)) cl hG0 hGN HB1.out hcl (HWS.out _ (List.getElem_mem _)) (HWS.out _ (List.getElem_mem _)) g c w (by omega) (HCELL.out 0 (by omega)) (HCELL.out 1 (by omega)) (HCELL.out 2 (by omega)) (HCELL.out 3 (by omega))
            · by_cases hfr : ws[2]'(by omega) = wFrom
              · by_cases h1 : N < 4
                · rw [BAD.out (.inr (.inr (.inr (.inr (.inr (.inl (by omega)))))))]
                  exact ract_few ws hl HWS.out N HN.out (by omega) g c w hcap HCELL.out cl hG0 hGN hcl HB1.out hfr h1
                · by_cases h7 : 7 < N
                  · rw [BAD.out (.inr (.inr (.inr (.inr (.inr (.inr (.inl h7)))))))]
                    exact ract_many ws hl HWS.out N HN.out (by omega) g c w hcap HCELL.out cl hG0 hGN hcl HB1.out hfr h7
                  · exact ract_ins ws hl HWS.out N HN.out (by omega) g c w hcap HCELL.out cl hG0 hGN hcl HB1.out hfr (by omega) (by omega)
              · rw [BAD.out (.inr (.inr (.inr (.inr (.inl ⟨hN0, hfr⟩)))))]
                exact ract_from ws hl HWS.out N HN.out (by omega) g c w hcap HCELL.out cl hG0 hGN hcl HB1.out hfr
end Go.Proofs.YtbaipdhgjalgoaaDoor
