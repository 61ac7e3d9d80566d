/- apiaryref07.action walked: the inputs. -/
import Derived.Test.YtbaipdhgjalgoaaDoorRfJ
namespace Go.Proofs.YtbaipdhgjalgoaaDoor
open Go.RowKit

set_option maxRecDepth 100000 in
set_option maxHeartbeats 4000000 in
theorem ract_ins (ws : List (List UInt8)) (hl : ws.length ≤ 100000) (hws : ∀ x ∈ ws, x.length ≤ 100000) (N : Nat) (hN : ws.length = N + 2) (hN3 : 3 ≤ N) (g c : Nat) (w : World) (hcap : N + 2 ≤ c) (hcell : ∀ i (h : i < ws.length), w.cell? ⟨g, i, none⟩ = some (.string (bs ws[i]))) (cl : List UInt8) (h0 : ws[0]'(by omega) = wMake) (hby : ws[N]'(by omega) = wBy) (hcl : codeL (ws[N + 1]'(by omega)) = some cl) (hnm : nameL (ws[1]'(by omega)) = true) (hfr : ws[2]'(by omega) = wFrom) (h4 : 4 ≤ N) (h7 : N ≤ 7) :
    Calls Tryd.prog 22 #[.slice (some ⟨g, 0, none⟩) (N + 2) c] w (RAct (actionL ws) w) := by
  have BAD : Hid ((∃ s ∈ (ws.take N).drop 3, nameL s = false) → actionL ws = none) := fun h => act_bad ws N hN (by omega) (.inr (.inr (.inr (.inr (.inr (.inr (.inr h)))))))
  have GOOD : Hid ((∀ s ∈ (ws.take N).drop 3, nameL s = true) → actionL ws = some ⟨ws[1]'(by omega), (ws.take N).drop 3, cl⟩) := fun h => act_good ws N hN (by omega) cl h0 hby hcl hnm (fun _ => ⟨hfr, h4⟩) h7 h
  obtain ⟨O, hO⟩ : ∃ O, O = actionL ws := ⟨_, rfl⟩
  rw [← hO]
  have HO := hid hO
  have d1 : ¬ (N : Int) < 4 := by omega
  have d4 : decide ((N : Int) + 2 < 4) = false := decide_eq_false (by omega)
  have h4' : ¬ (N : Int) + 2 < 4 := by omega
  have hw1 : IntKind.i64.wrap ((N : Int) + 2 - 2) = (N : Int) := by rw [IntKind.wrap_i64]; omega
  have hw2 : IntKind.i64.wrap ((N : Int) + 2 - 1) = (N : Int) + 1 := by rw [IntKind.wrap_i64]; omega
  have z0 := hcell 0 (by omega)
  have z1 := hcell 1 (by omega)
  have z2 := hcell 2 (by omega)
  have zN := hcell N (by omega)
  have zC := hcell (N + 1) (by omega)
  have hgw : g < w.heap.size := World.block_lt_of_cell? w _ z0
  have bl0 : ((bs (ws[0]'(by omega))).toList == [109, 97, 107, 101]) = true := by rw [Lib.toList_data, bs_data, h0]; rfl
  have blN : ((bs (ws[N]'(by omega))).toList == [98, 121]) = true := by rw [Lib.toList_data, bs_data, hby]; rfl
  have hbF : ((bs (ws[2]'(by omega))).toList == [102, 114, 111, 109]) = true := by rw [Lib.toList_data, bs_data, beq_dec]; exact decide_eq_true hfr
  have hn1 := name_bs _ (hws _ (List.getElem_mem (show 1 < ws.length by omega))) true hnm
  have hcode0 := fun W => rcode_any (ws[N + 1]'(by omega)) (by have := hws _ (List.getElem_mem (show N + 1 < ws.length by omega)); unfold maxLen; omega) W
  rw [hcl] at hcode0
  obtain ⟨cd, hcd⟩ : ∃ cd, cd = bs cl := ⟨_, rfl⟩
  have hcode : ∀ W, Calls Tryd.prog 38 #[.string (bs (ws[N + 1]'(by omega)))] W (Rets (.tuple #[.string cd, .bool true]) (Chg (fun _ => False) W)) := fun W => by rw [hcd]; exact hcode0 W
  have w2f := act_w2 w ((w.alloc (.cells #[.string { data := #[] }, .slice none 0 0, .string { data := #[] }] 42)).alloc (.cells #[.string { data := #[] }, .slice none 0 0, .string { data := #[] }] 42)) g hgw (Chg.refl _ _)
  have a0 := w2f.2.2.2 _ _ z0
  have a1 := w2f.2.2.2 _ _ z1
  have aN := w2f.2.2.2 _ _ zN
  have aC := w2f.2.2.2 _ _ zC
  obtain ⟨s0, hs0⟩ : ∃ s, s = bs (ws[0]'(by omega)) := ⟨_, rfl⟩
  obtain ⟨nm, hnm2⟩ : ∃ s, s = bs (ws[1]'(by omega)) := ⟨_, rfl⟩
  obtain ⟨s2, hs2⟩ : ∃ s, s = bs (ws[2]'(by omega)) := ⟨_, rfl⟩
  obtain ⟨sN, hsN⟩ : ∃ s, s = bs (ws[N]'(by omega)) := ⟨_, rfl⟩
  obtain ⟨sC, hsC⟩ : ∃ s, s = bs (ws[N + 1]'(by omega)) := ⟨_, rfl⟩
  rw [← hs0] at bl0 a0
  rw [← hnm2] at a1 hn1 z1
  rw [← hs2] at z2 hbF
  rw [← hsN] at blN aN
  rw [← hsC] at hcode aC
  have HCD := hid hcd
  have HNM := hid hnm2
  have HCELL := hid hcell
  have HWS := hid hws
  have HN := hid hN
  have HN3 := hid hN3
  have Z1 := hid z1
  have Z2 := hid z2
  have h2N : (2 : Int) ≤ (N : Int) := by omega
  have hNc : (N : Int) ≤ (c : Int) := by omega
  obtain ⟨M, hM⟩ : ∃ M, N - 2 = M := ⟨_, rfl⟩
  have hM0 : ¬ (M : Int) = 0 := by omega
  have hb0 : ((M : Int) == 0) = false := by simpa using hM0
  have d1' : ¬ (M : Int) < 2 := by omega
  have d1d : decide ((M : Int) < 2) = false := decide_eq_false d1'
  have d5 : ¬ (5 : Int) < (M : Int) := by omega
  have d5d : decide ((5 : Int) < (M : Int)) = false := decide_eq_false d5
  clear hO d1
  clear z0 z1 z2 zN zC w2f hcd hnm2 hcl hnm hcode0 h0 hby hs0 hs2 hsN hsC hcell hws hfr
  go_enter Tryd.func22, Tryd.ntmps22
  go_wp2_with (first | (go_at_call 18; refine (hn1 _).mono ?_; rintro e w9 ⟨rfl, rfl⟩) | (go_at_call 38; refine (hcode _).mono ?_; rintro e w2 ⟨rfl, hc2⟩; obtain ⟨kR, kA, hcw, hg2⟩ := act_w2 w w2 g hgw hc2; have p0 := cell_of kA 0; have p1 := cell_of kA 1; have p2 := cell_of kA 2; have f0 := frozen_of kA 0; have f2 := frozen_of kA 2; have e1 := hg2 _ _ Z1.out; have w3f := act_w3 w w2 g nm cd hgw hc2; have q0 := cell_of w3f.2.1 0; have q1 := cell_of w3f.2.1 1; have q2 := cell_of w3f.2.1 2; have j0 := frozen_of w3f.1 0; have c0 := cell_of kR 0; have c1 := cell_of kR 1; have c2 := cell_of kR 2; have r0 := frozen_of kR 0; have r1 := frozen_of kR 1; have r2 := frozen_of kR 2; have j1 := frozen_of w3f.1 1; have j2 := frozen_of w3f.1 2; have m2 := w3f.2.2.2.1 _ _ Z2.out; have x3 := res3 w3f.1 (.string nm) (.slice none 0 0) (.string cd); have x0 := x3.1; have x1 := x3.2.1; have x2 := x3.2.2.1; have x4 := x3.2.2.2.1; have x5 := x3.2.2.2.2; have W3F := hid w3f; simp at p0 p1 p2 q0 q1 q2 c0 c1 c2; clear kR kA hcw hg2 hc2 w3f x3))
  have W3C := W3F.out.2.2.1
  have hW1 := W3F.out.2.1
  have hW0 := W3F.out.1
  have hWC := W3F.out.2.2.2.1
  have hWS := W3F.out.2.2.2.2
  clear q0 q1 q2 j0 j1 j2 x0 x1 x2 x4 x5 m2 e1 p0 p1 p2 f0 f2 c0 c1 c2 r0 r1 r2 W3F a0 a1 aN aC
  generalize (w2.setCell ⟨w.heap.size + 1, 0, none⟩ (.string nm)).setCell ⟨w.heap.size + 1, 2, none⟩ (.string cd) = W3 at *
  have HW1 := hid hW1
  have HW0 := hid hW0
  have HWC := hid W3C
  have HWZ := hid hWS
  have HGW := hid hgw
  have HM := hid hM
  have h7' : M ≤ 5 := by omega
  have hNM : N = M + 2 := by omega
  have HNM2 := hid hNM
  have hMc : (M : Int) + 2 ≤ (c : Int) := by omega
  have hMc' : M ≤ c - 2 := by omega
  clear hW1 hW0 W3C hWS hWC hgw hM hNM
  obtain ⟨ins, hins⟩ : ∃ ins, ins = (ws.take N).drop 3 := ⟨_, rfl⟩
  have hil : ins.length + 1 = M := by rw [hins, HNM2.out]; have := HN.out; have := HN3.out; have := HNM2.out; simp; omega
  have hie : ∀ j (h : j < ins.length), ins[j] = ws[j + 3]'(by have := HN.out; have := HNM2.out; omega) := by
    intro j h
    subst hins
    simp [Nat.add_comm]
  have HIE := hid hie
  have HIL := hid hil
  have hiw : ∀ s ∈ ins, s.length ≤ 100000 := by
    intro s hs
    rw [hins] at hs
    exact HWS.out s (List.mem_of_mem_take (List.mem_of_mem_drop hs))
  have HIW := hid hiw
  rw [← hins] at BAD GOOD
  clear hie hins hiw
  go_loopw [8] (fun iv wr => ∃ (j : Nat) (sv : Value), iv = .int .i64 ((j : Int) + 1) ∧ j + 1 ≤ M ∧ wr.heap[w.heap.size + 1]? = some (.cells #[.string nm, sv, .string cd] 42 (0, 0)) ∧ wr.heap[w.heap.size]? = some (.cells #[.string { data := #[] }, .slice none 0 0, .string { data := #[] }] 42 (0, 0)) ∧ wr.ownsRow 0 9 1 sv j ((ins.take j).map strV) ∧ (∀ b, sv.ownBlock = some b → w.heap.size + 2 ≤ b) ∧ Chg (fun k => w.heap.size + 1 ≤ k) w wr ∧ (∀ s ∈ ins.take j, nameL s = true)) (fun iv _ => M - (intOf iv).toNat)
  case atStart => exact ⟨0, .slice none 0 0, rfl, by omega, HW1.out, HW0.out, World.ownsRow_nil _ _ _ _, by simp [Value.ownBlock], HWC.out, by simp⟩
  case round =>
    obtain ⟨j, sv, rfl, hj, hA, hR, hown, hov, hch, hall⟩ := hrel
    obtain ⟨oa, cs, rfl⟩ := own_form hown
    have HA := hid hA
    have HR := hid hR
    have HV := hid hov
    have HC := hid hch
    have HL := hid hall
    have c0 := cell_of hA 0
    have c1 := cell_of hA 1
    have c2 := cell_of hA 2
    have f1 := frozen_of hA 1
    have d0 := cell_of hR 0
    have d1 := cell_of hR 1
    have d2 := cell_of hR 2
    have g0 := frozen_of hR 0
    have g1 := frozen_of hR 1
    have g2 := frozen_of hR 2
    simp at c0 c1 c2 d0 d1 d2
    clear hov hch hall hA hR
    by_cases hjM : j + 1 < M
    · have hjM' : (j : Int) + 1 < M := by omega
      have h0j : (0 : Int) ≤ (j : Int) + 1 := by omega
      have hji : j < ins.length := by omega
      obtain ⟨s, hs⟩ : ∃ s, s = ins[j] := ⟨_, rfl⟩
      obtain ⟨xs, hxs⟩ : ∃ xs, xs = bs s := ⟨_, rfl⟩
      have hq : wr.cell? ⟨g, 2 + (j + 1), none⟩ = some (.string xs) := by
        have := HCELL.out (j + 3) (by have := HN.out; have := HNM2.out; omega)
        rw [← HIE.out j hji, ← hs, ← hxs] at this
        rw [show 2 + (j + 1) = j + 3 by omega]
        exact HC.out.cell this (by have := HGW.out; show ¬ w.heap.size + 1 ≤ g; omega)
      have hsl : s.length ≤ 100000 := HIW.out s (by rw [hs]; exact List.getElem_mem hji)
      obtain ⟨B, hB⟩ : ∃ B, nameL s = B := ⟨_, rfl⟩
      have hn2 := name_bs s hsl B hB
      rw [← hxs] at hn2
      have HXS := hid hxs
      have HSE := hid hs
      have HBE := hid hB
      have HJI := hid hji
      clear hs hxs
      have HSL := hid hsl
      clear hsl
      cases B with
      | false =>
        have HON : Hid (O = none) := HO.out.trans (BAD.out ⟨s, by rw [HSE.out]; exact List.getElem_mem _, HBE.out⟩)
        have x3 := res3 HR.out (.string nm) (.slice oa j cs) (.string cd)
        have x0 := x3.1
        have x1 := x3.2.1
        have x2 := x3.2.2.1
        clear x3
        go_wp2_with (go_at_call 18; refine (hn2 _).mono ?_; rintro e w9 ⟨rfl, rfl⟩)
        refine bodyPost_ret (v := .tuple #[.agg #[.string nm, .slice oa j cs, .string cd], .bool false]) (by simp [results, Tryd.results22, go_sem, x0, x1, x2] <;> rfl) rfl ⟨chg_res (HC.out.mono (fun i hi h => by have : w.heap.size + 1 ≤ i := h; show w.heap.size ≤ i; omega)) _ _ _, ?_⟩
        rw [HON.out]
        exact ⟨_, _, _, _, _, rfl⟩
      | true =>
        have c1a : ((wr.alloc (.cells #[.string xs] 9)).drew).cell? ⟨w.heap.size + 1, 1, none⟩ = some (.slice oa j cs) := cell_alloc' c1 _
        have c1b : (wr.alloc (.cells #[.string xs] 9)).cell? ⟨w.heap.size + 1, 1, none⟩ = some (.slice oa j cs) := cell_alloc' c1 _
        have c1d : wr.drew.cell? ⟨w.heap.size + 1, 1, none⟩ = some (.slice oa j cs) := c1
        have hqd : wr.drew.cell? ⟨g, 2 + (j + 1), none⟩ = some (.string xs) := hq
        go_wp2_with (go_at_call 18; refine (hn2 _).mono ?_; rintro e w9 ⟨rfl, rfl⟩)
        go_region_law (refine step_append_new rfl _ _ 23 rfl elStr hown rfl _ 1 1 rfl rfl rfl (by unfold maxLen; omega) (by omega) (by decide) ?_; intro g3 cap3 w4 hown4 hch4 hg4; have hblk4 := hch4.obj HA.out (fun e => by have := HV.out _ e; omega); have e1 := cell_of hblk4 1; have f1 := frozen_of hblk4 1; simp at e1)
        all_goals
          have hlt := heap_lt HA.out
          have hgA : g3 ≠ w.heap.size + 1 := by
            rcases hg4 with h | h
            · have := HV.out _ h; omega
            · omega
          have hgb : w.heap.size + 2 ≤ g3 := by
            rcases hg4 with h | h
            · exact HV.out _ h
            · omega
          have hA5 := heap_set_same hblk4 1 (.slice (some ⟨g3, 0, none⟩) (j + 1) cap3)
          have hc45 : Chg (fun k => k = w.heap.size + 1) w4 (w4.setCell ⟨w.heap.size + 1, 1, none⟩ (.slice (some ⟨g3, 0, none⟩) (j + 1) cap3)) := (Chg.refl (fun k => k = w.heap.size + 1) w4).setCell (p := ⟨w.heap.size + 1, 1, none⟩) (fun _ => rfl) _
          have hR4 := hch4.obj HR.out (fun e => by have := HV.out _ e; omega)
          have hR5 := hc45.obj hR4 (by omega)
          have hown5 := hc45.owns hown4 (fun k hk e => hgA (by have := own_eq hk; subst this; exact e))
          have hc5 : Chg (fun k => w.heap.size + 1 ≤ k) w (w4.setCell ⟨w.heap.size + 1, 1, none⟩ (.slice (some ⟨g3, 0, none⟩) (j + 1) cap3)) := (HC.out.trans hch4 (fun i hi e => by have := HV.out _ e; show w.heap.size + 1 ≤ i; omega)).trans hc45 (fun i hi e => by show w.heap.size + 1 ≤ i; omega)
          have ht : ins.take (j + 1) = ins.take j ++ [s] := by rw [List.take_succ_eq_append_getElem HJI.out, HSE.out]
          have H1 := hid hA5
          have H2 := hid hR5
          have H3 := hid hown5
          have H4 := hid hc5
          have H5 := hid ht
          have H6 := hid hgb
          clear hlt hgA hgb hA5 hc45 hR4 hR5 hown5 hc5 ht hown4 hch4 hg4 hblk4 c1a c1b c1d hqd
          generalize w4.setCell ⟨w.heap.size + 1, 1, none⟩ (.slice (some ⟨g3, 0, none⟩) (j + 1) cap3) = W5 at *
          go_wp2_with fail
          go_roundw
          case rel =>
            refine ⟨j + 1, .slice (some ⟨g3, 0, none⟩) (j + 1) cap3, by go_num, by omega, by simpa using H1.out, H2.out, ?_, ?_, H4.out, ?_⟩
            · have := H3.out
              rw [H5.out, List.map_append]
              rw [HXS.out] at this
              exact this
            · intro b hb
              obtain rfl := own_eq hb
              exact H6.out
            · intro x hx
              rw [H5.out] at hx
              rcases List.mem_append.1 hx with hx | hx
              · exact HL.out x hx
              · rw [List.mem_singleton.1 hx]; exact HBE.out
          case measure => simp [intOf] <;> omega
    · obtain rfl : j = ins.length := by omega
      have hjM' : ¬ ((ins.length : Nat) : Int) + 1 < M := by omega
      rw [List.take_length] at hown HL
      have HON : Hid (O = some ⟨ws[1]'(by omega), ins, cl⟩) := HO.out.trans (GOOD.out HL.out)
      have x3 := res3 HR.out (.string nm) (.slice oa ins.length cs) (.string cd)
      have x0 := x3.1
      have x1 := x3.2.1
      have x2 := x3.2.2.1
      have HOW := hid hown
      clear x3 hown
      go_wp2_with fail
      refine bodyPost_ret (v := .tuple #[.agg #[.string nm, .slice oa ins.length cs, .string cd], .bool true]) (by simp [results, Tryd.results22, go_sem, x0, x1, x2] <;> rfl) rfl ⟨chg_res (HC.out.mono (fun i hi h => by have : w.heap.size + 1 ≤ i := h; show w.heap.size ≤ i; omega)) _ _ _, ?_⟩
      rw [HON.out]
      refine ⟨oa, cs, by rw [HNM.out, HCD.out]; rfl, ?_, ?_⟩
      · have hc6 : Chg (fun k => k = w.heap.size) wr (((wr.setCell ⟨w.heap.size, 0, none⟩ (.string nm)).setCell ⟨w.heap.size, 1, none⟩ (.slice oa ins.length cs)).setCell ⟨w.heap.size, 2, none⟩ (.string cd)) := (((Chg.refl (fun k => k = w.heap.size) wr).setCell (p := ⟨w.heap.size, 0, none⟩) (fun _ => rfl) _).setCell (p := ⟨w.heap.size, 1, none⟩) (fun _ => rfl) _).setCell (p := ⟨w.heap.size, 2, none⟩) (fun _ => rfl) _
        exact names_own (hc6.owns HOW.out (fun k hk e => by have := HV.out _ hk; omega)) rfl (by show ins.length ≤ 100000; omega) HIW.out
      · rintro ad rfl
        rcases HOW.out.2 with ⟨h, _⟩ | ⟨g9, cap, cur, h, _⟩
        · cases h
        · cases h
          have := HV.out g9 rfl
          show w.heap.size ≤ g9
          omega
end Go.Proofs.YtbaipdhgjalgoaaDoor
