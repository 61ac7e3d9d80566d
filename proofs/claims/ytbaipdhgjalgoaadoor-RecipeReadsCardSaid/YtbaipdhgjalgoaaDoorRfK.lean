/- apiaryref07.action walked: inputs that are none. -/
import Derived.Test.YtbaipdhgjalgoaaDoorRfJ
namespace Go.Proofs.YtbaipdhgjalgoaaDoor
open Go.RowKit

set_option maxRecDepth 100000 in
set_option maxHeartbeats 4000000 in
theorem ract_from (ws : List (List UInt8)) (hl : ws.length ≤ 100000) (hws : ∀ x ∈ ws, x.length ≤ 100000) (N : Nat) (hN : ws.length = N + 2) (hN3 : 3 ≤ N) (g c : Nat) (w : World) (hcap : N + 2 ≤ c) (hcell : ∀ i (h : i < ws.length), w.cell? ⟨g, i, none⟩ = some (.string (bs ws[i]))) (cl : List UInt8) (h0 : ws[0]'(by omega) = wMake) (hby : ws[N]'(by omega) = wBy) (hcl : codeL (ws[N + 1]'(by omega)) = some cl) (hnm : nameL (ws[1]'(by omega)) = true) (hfr : ¬ ws[2]'(by omega) = wFrom) :
    Calls Tryd.prog 22 #[.slice (some ⟨g, 0, none⟩) (N + 2) c] w (RAct none w) := by
  have d4 : decide ((N : Int) + 2 < 4) = false := decide_eq_false (by omega)
  have h4' : ¬ (N : Int) + 2 < 4 := by omega
  have hw1 : IntKind.i64.wrap ((N : Int) + 2 - 2) = (N : Int) := by rw [IntKind.wrap_i64]; omega
  have hw2 : IntKind.i64.wrap ((N : Int) + 2 - 1) = (N : Int) + 1 := by rw [IntKind.wrap_i64]; omega
  have z0 := hcell 0 (by omega)
  have z1 := hcell 1 (by omega)
  have z2 := hcell 2 (by omega)
  have zN := hcell N (by omega)
  have zC := hcell (N + 1) (by omega)
  have hgw : g < w.heap.size := World.block_lt_of_cell? w _ z0
  have bl0 : ((bs (ws[0]'(by omega))).toList == [109, 97, 107, 101]) = true := by rw [Lib.toList_data, bs_data, h0]; rfl
  have blN : ((bs (ws[N]'(by omega))).toList == [98, 121]) = true := by rw [Lib.toList_data, bs_data, hby]; rfl
  have hbF : ((bs (ws[2]'(by omega))).toList == [102, 114, 111, 109]) = false := by rw [Lib.toList_data, bs_data, beq_dec]; exact decide_eq_false hfr
  have hn1 := name_bs _ (hws _ (List.getElem_mem (show 1 < ws.length by omega))) true hnm
  have hcode0 := fun W => rcode_any (ws[N + 1]'(by omega)) (by have := hws _ (List.getElem_mem (show N + 1 < ws.length by omega)); unfold maxLen; omega) W
  rw [hcl] at hcode0
  obtain ⟨cd, hcd⟩ : ∃ cd, cd = bs cl := ⟨_, rfl⟩
  have hcode : ∀ W, Calls Tryd.prog 38 #[.string (bs (ws[N + 1]'(by omega)))] W (Rets (.tuple #[.string cd, .bool true]) (Chg (fun _ => False) W)) := fun W => by rw [hcd]; exact hcode0 W
  have w2f := act_w2 w ((w.alloc (.cells #[.string { data := #[] }, .slice none 0 0, .string { data := #[] }] 42)).alloc (.cells #[.string { data := #[] }, .slice none 0 0, .string { data := #[] }] 42)) g hgw (Chg.refl _ _)
  have a0 := w2f.2.2.2 _ _ z0
  have a1 := w2f.2.2.2 _ _ z1
  have aN := w2f.2.2.2 _ _ zN
  have aC := w2f.2.2.2 _ _ zC
  obtain ⟨s0, hs0⟩ : ∃ s, s = bs (ws[0]'(by omega)) := ⟨_, rfl⟩
  obtain ⟨nm, hnm2⟩ : ∃ s, s = bs (ws[1]'(by omega)) := ⟨_, rfl⟩
  obtain ⟨s2, hs2⟩ : ∃ s, s = bs (ws[2]'(by omega)) := ⟨_, rfl⟩
  obtain ⟨sN, hsN⟩ : ∃ s, s = bs (ws[N]'(by omega)) := ⟨_, rfl⟩
  obtain ⟨sC, hsC⟩ : ∃ s, s = bs (ws[N + 1]'(by omega)) := ⟨_, rfl⟩
  rw [← hs0] at bl0 a0
  rw [← hnm2] at a1 hn1 z1
  rw [← hs2] at z2 hbF
  rw [← hsN] at blN aN
  rw [← hsC] at hcode aC
  have HCD := hid hcd
  have HNM := hid hnm2
  have HCELL := hid hcell
  have HWS := hid hws
  have HN := hid hN
  have HN3 := hid hN3
  have Z1 := hid z1
  have Z2 := hid z2
  have h2N : (2 : Int) ≤ (N : Int) := by omega
  have hNc : (N : Int) ≤ (c : Int) := by omega
  obtain ⟨M, hM⟩ : ∃ M, N - 2 = M := ⟨_, rfl⟩
  have hM0 : ¬ (M : Int) = 0 := by omega
  have hb0 : ((M : Int) == 0) = false := by simpa using hM0
  clear z0 z1 z2 zN zC w2f hcd hnm2 hcl hnm hcode0 h0 hby hs0 hs2 hsN hsC hcell hws hfr
  go_enter Tryd.func22, Tryd.ntmps22
  go_wp2_with (first | (go_at_call 18; refine (hn1 _).mono ?_; rintro e w9 ⟨rfl, rfl⟩) | (go_at_call 38; refine (hcode _).mono ?_; rintro e w2 ⟨rfl, hc2⟩; obtain ⟨kR, kA, hcw, hg2⟩ := act_w2 w w2 g hgw hc2; have p0 := cell_of kA 0; have p1 := cell_of kA 1; have p2 := cell_of kA 2; have f0 := frozen_of kA 0; have f2 := frozen_of kA 2; have e1 := hg2 _ _ Z1.out; have w3f := act_w3 w w2 g nm cd hgw hc2; have q0 := cell_of w3f.2.1 0; have q1 := cell_of w3f.2.1 1; have q2 := cell_of w3f.2.1 2; have j0 := frozen_of w3f.1 0; have c0 := cell_of kR 0; have c1 := cell_of kR 1; have c2 := cell_of kR 2; have r0 := frozen_of kR 0; have r1 := frozen_of kR 1; have r2 := frozen_of kR 2; have j1 := frozen_of w3f.1 1; have j2 := frozen_of w3f.1 2; have m2 := w3f.2.2.2.1 _ _ Z2.out; have x3 := res3 w3f.1 (.string nm) (.slice none 0 0) (.string cd); have x0 := x3.1; have x1 := x3.2.1; have x2 := x3.2.2.1; have x4 := x3.2.2.2.1; have x5 := x3.2.2.2.2; have W3F := hid w3f; simp at p0 p1 p2 q0 q1 q2 c0 c1 c2; clear kR kA hcw hg2 hc2 w3f x3))
  refine bodyPost_ret (v := .tuple #[.agg #[.string nm, .slice none 0 0, .string cd], .bool false]) (by simp [results, Tryd.results22, go_sem, x0, x1, x2] <;> rfl) rfl ⟨chg_res (W3F.out.2.2.1.mono (fun i hi h => by have : w.heap.size + 1 ≤ i := h; show w.heap.size ≤ i; omega)) _ _ _, ?_⟩
  exact ⟨_, _, _, _, _, rfl⟩

set_option maxRecDepth 100000 in
set_option maxHeartbeats 4000000 in
theorem ract_few (ws : List (List UInt8)) (hl : ws.length ≤ 100000) (hws : ∀ x ∈ ws, x.length ≤ 100000) (N : Nat) (hN : ws.length = N + 2) (hN3 : 3 ≤ N) (g c : Nat) (w : World) (hcap : N + 2 ≤ c) (hcell : ∀ i (h : i < ws.length), w.cell? ⟨g, i, none⟩ = some (.string (bs ws[i]))) (cl : List UInt8) (h0 : ws[0]'(by omega) = wMake) (hby : ws[N]'(by omega) = wBy) (hcl : codeL (ws[N + 1]'(by omega)) = some cl) (hnm : nameL (ws[1]'(by omega)) = true) (hfr : ws[2]'(by omega) = wFrom) (h1 : N < 4) :
    Calls Tryd.prog 22 #[.slice (some ⟨g, 0, none⟩) (N + 2) c] w (RAct none w) := by
  have d4 : decide ((N : Int) + 2 < 4) = false := decide_eq_false (by omega)
  have h4' : ¬ (N : Int) + 2 < 4 := by omega
  have hw1 : IntKind.i64.wrap ((N : Int) + 2 - 2) = (N : Int) := by rw [IntKind.wrap_i64]; omega
  have hw2 : IntKind.i64.wrap ((N : Int) + 2 - 1) = (N : Int) + 1 := by rw [IntKind.wrap_i64]; omega
  have z0 := hcell 0 (by omega)
  have z1 := hcell 1 (by omega)
  have z2 := hcell 2 (by omega)
  have zN := hcell N (by omega)
  have zC := hcell (N + 1) (by omega)
  have hgw : g < w.heap.size := World.block_lt_of_cell? w _ z0
  have bl0 : ((bs (ws[0]'(by omega))).toList == [109, 97, 107, 101]) = true := by rw [Lib.toList_data, bs_data, h0]; rfl
  have blN : ((bs (ws[N]'(by omega))).toList == [98, 121]) = true := by rw [Lib.toList_data, bs_data, hby]; rfl
  have hbF : ((bs (ws[2]'(by omega))).toList == [102, 114, 111, 109]) = true := by rw [Lib.toList_data, bs_data, beq_dec]; exact decide_eq_true hfr
  have hn1 := name_bs _ (hws _ (List.getElem_mem (show 1 < ws.length by omega))) true hnm
  have hcode0 := fun W => rcode_any (ws[N + 1]'(by omega)) (by have := hws _ (List.getElem_mem (show N + 1 < ws.length by omega)); unfold maxLen; omega) W
  rw [hcl] at hcode0
  obtain ⟨cd, hcd⟩ : ∃ cd, cd = bs cl := ⟨_, rfl⟩
  have hcode : ∀ W, Calls Tryd.prog 38 #[.string (bs (ws[N + 1]'(by omega)))] W (Rets (.tuple #[.string cd, .bool true]) (Chg (fun _ => False) W)) := fun W => by rw [hcd]; exact hcode0 W
  have w2f := act_w2 w ((w.alloc (.cells #[.string { data := #[] }, .slice none 0 0, .string { data := #[] }] 42)).alloc (.cells #[.string { data := #[] }, .slice none 0 0, .string { data := #[] }] 42)) g hgw (Chg.refl _ _)
  have a0 := w2f.2.2.2 _ _ z0
  have a1 := w2f.2.2.2 _ _ z1
  have aN := w2f.2.2.2 _ _ zN
  have aC := w2f.2.2.2 _ _ zC
  obtain ⟨s0, hs0⟩ : ∃ s, s = bs (ws[0]'(by omega)) := ⟨_, rfl⟩
  obtain ⟨nm, hnm2⟩ : ∃ s, s = bs (ws[1]'(by omega)) := ⟨_, rfl⟩
  obtain ⟨s2, hs2⟩ : ∃ s, s = bs (ws[2]'(by omega)) := ⟨_, rfl⟩
  obtain ⟨sN, hsN⟩ : ∃ s, s = bs (ws[N]'(by omega)) := ⟨_, rfl⟩
  obtain ⟨sC, hsC⟩ : ∃ s, s = bs (ws[N + 1]'(by omega)) := ⟨_, rfl⟩
  rw [← hs0] at bl0 a0
  rw [← hnm2] at a1 hn1 z1
  rw [← hs2] at z2 hbF
  rw [← hsN] at blN aN
  rw [← hsC] at hcode aC
  have HCD := hid hcd
  have HNM := hid hnm2
  have HCELL := hid hcell
  have HWS := hid hws
  have HN := hid hN
  have HN3 := hid hN3
  have Z1 := hid z1
  have Z2 := hid z2
  have h2N : (2 : Int) ≤ (N : Int) := by omega
  have hNc : (N : Int) ≤ (c : Int) := by omega
  obtain ⟨M, hM⟩ : ∃ M, N - 2 = M := ⟨_, rfl⟩
  have hM0 : ¬ (M : Int) = 0 := by omega
  have hb0 : ((M : Int) == 0) = false := by simpa using hM0
  have d1 : (M : Int) < 2 := by omega
  clear z0 z1 z2 zN zC w2f hcd hnm2 hcl hnm hcode0 h0 hby hs0 hs2 hsN hsC hcell hws hfr
  go_enter Tryd.func22, Tryd.ntmps22
  go_wp2_with (first | (go_at_call 18; refine (hn1 _).mono ?_; rintro e w9 ⟨rfl, rfl⟩) | (go_at_call 38; refine (hcode _).mono ?_; rintro e w2 ⟨rfl, hc2⟩; obtain ⟨kR, kA, hcw, hg2⟩ := act_w2 w w2 g hgw hc2; have p0 := cell_of kA 0; have p1 := cell_of kA 1; have p2 := cell_of kA 2; have f0 := frozen_of kA 0; have f2 := frozen_of kA 2; have e1 := hg2 _ _ Z1.out; have w3f := act_w3 w w2 g nm cd hgw hc2; have q0 := cell_of w3f.2.1 0; have q1 := cell_of w3f.2.1 1; have q2 := cell_of w3f.2.1 2; have j0 := frozen_of w3f.1 0; have c0 := cell_of kR 0; have c1 := cell_of kR 1; have c2 := cell_of kR 2; have r0 := frozen_of kR 0; have r1 := frozen_of kR 1; have r2 := frozen_of kR 2; have j1 := frozen_of w3f.1 1; have j2 := frozen_of w3f.1 2; have m2 := w3f.2.2.2.1 _ _ Z2.out; have x3 := res3 w3f.1 (.string nm) (.slice none 0 0) (.string cd); have x0 := x3.1; have x1 := x3.2.1; have x2 := x3.2.2.1; have x4 := x3.2.2.2.1; have x5 := x3.2.2.2.2; have W3F := hid w3f; simp at p0 p1 p2 q0 q1 q2 c0 c1 c2; clear kR kA hcw hg2 hc2 w3f x3))
  refine bodyPost_ret (v := .tuple #[.agg #[.string nm, .slice none 0 0, .string cd], .bool false]) (by simp [results, Tryd.results22, go_sem, x0, x1, x2] <;> rfl) rfl ⟨chg_res (W3F.out.2.2.1.mono (fun i hi h => by have : w.heap.size + 1 ≤ i := h; show w.heap.size ≤ i; omega)) _ _ _, ?_⟩
  exact ⟨_, _, _, _, _, rfl⟩

set_option maxRecDepth 100000 in
set_option maxHeartbeats 4000000 in
theorem ract_many (ws : List (List UInt8)) (hl : ws.length ≤ 100000) (hws : ∀ x ∈ ws, x.length ≤ 100000) (N : Nat) (hN : ws.length = N + 2) (hN3 : 3 ≤ N) (g c : Nat) (w : World) (hcap : N + 2 ≤ c) (hcell : ∀ i (h : i < ws.length), w.cell? ⟨g, i, none⟩ = some (.string (bs ws[i]))) (cl : List UInt8) (h0 : ws[0]'(by omega) = wMake) (hby : ws[N]'(by omega) = wBy) (hcl : codeL (ws[N + 1]'(by omega)) = some cl) (hnm : nameL (ws[1]'(by omega)) = true) (hfr : ws[2]'(by omega) = wFrom) (h1 : 7 < N) :
    Calls Tryd.prog 22 #[.slice (some ⟨g, 0, none⟩) (N + 2) c] w (RAct none w) := by
  have d4 : decide ((N : Int) + 2 < 4) = false := decide_eq_false (by omega)
  have h4' : ¬ (N : Int) + 2 < 4 := by omega
  have hw1 : IntKind.i64.wrap ((N : Int) + 2 - 2) = (N : Int) := by rw [IntKind.wrap_i64]; omega
  have hw2 : IntKind.i64.wrap ((N : Int) + 2 - 1) = (N : Int) + 1 := by rw [IntKind.wrap_i64]; omega
  have z0 := hcell 0 (by omega)
  have z1 := hcell 1 (by omega)
  have z2 := hcell 2 (by omega)
  have zN := hcell N (by omega)
  have zC := hcell (N + 1) (by omega)
  have hgw : g < w.heap.size := World.block_lt_of_cell? w _ z0
  have bl0 : ((bs (ws[0]'(by omega))).toList == [109, 97, 107, 101]) = true := by rw [Lib.toList_data, bs_data, h0]; rfl
  have blN : ((bs (ws[N]'(by omega))).toList == [98, 121]) = true := by rw [Lib.toList_data, bs_data, hby]; rfl
  have hbF : ((bs (ws[2]'(by omega))).toList == [102, 114, 111, 109]) = true := by rw [Lib.toList_data, bs_data, beq_dec]; exact decide_eq_true hfr
  have hn1 := name_bs _ (hws _ (List.getElem_mem (show 1 < ws.length by omega))) true hnm
  have hcode0 := fun W => rcode_any (ws[N + 1]'(by omega)) (by have := hws _ (List.getElem_mem (show N + 1 < ws.length by omega)); unfold maxLen; omega) W
  rw [hcl] at hcode0
  obtain ⟨cd, hcd⟩ : ∃ cd, cd = bs cl := ⟨_, rfl⟩
  have hcode : ∀ W, Calls Tryd.prog 38 #[.string (bs (ws[N + 1]'(by omega)))] W (Rets (.tuple #[.string cd, .bool true]) (Chg (fun _ => False) W)) := fun W => by rw [hcd]; exact hcode0 W
  have w2f := act_w2 w ((w.alloc (.cells #[.string { data := #[] }, .slice none 0 0, .string { data := #[] }] 42)).alloc (.cells #[.string { data := #[] }, .slice none 0 0, .string { data := #[] }] 42)) g hgw (Chg.refl _ _)
  have a0 := w2f.2.2.2 _ _ z0
  have a1 := w2f.2.2.2 _ _ z1
  have aN := w2f.2.2.2 _ _ zN
  have aC := w2f.2.2.2 _ _ zC
  obtain ⟨s0, hs0⟩ : ∃ s, s = bs (ws[0]'(by omega)) := ⟨_, rfl⟩
  obtain ⟨nm, hnm2⟩ : ∃ s, s = bs (ws[1]'(by omega)) := ⟨_, rfl⟩
  obtain ⟨s2, hs2⟩ : ∃ s, s = bs (ws[2]'(by omega)) := ⟨_, rfl⟩
  obtain ⟨sN, hsN⟩ : ∃ s, s = bs (ws[N]'(by omega)) := ⟨_, rfl⟩
  obtain ⟨sC, hsC⟩ : ∃ s, s = bs (ws[N + 1]'(by omega)) := ⟨_, rfl⟩
  rw [← hs0] at bl0 a0
  rw [← hnm2] at a1 hn1 z1
  rw [← hs2] at z2 hbF
  rw [← hsN] at blN aN
  rw [← hsC] at hcode aC
  have HCD := hid hcd
  have HNM := hid hnm2
  have HCELL := hid hcell
  have HWS := hid hws
  have HN := hid hN
  have HN3 := hid hN3
  have Z1 := hid z1
  have Z2 := hid z2
  have h2N : (2 : Int) ≤ (N : Int) := by omega
  have hNc : (N : Int) ≤ (c : Int) := by omega
  obtain ⟨M, hM⟩ : ∃ M, N - 2 = M := ⟨_, rfl⟩
  have hM0 : ¬ (M : Int) = 0 := by omega
  have hb0 : ((M : Int) == 0) = false := by simpa using hM0
  have d1 : ¬ (M : Int) < 2 := by omega
  have d1d : decide ((M : Int) < 2) = false := decide_eq_false d1
  have d5 : (5 : Int) < (M : Int) := by omega
  clear z0 z1 z2 zN zC w2f hcd hnm2 hcl hnm hcode0 h0 hby hs0 hs2 hsN hsC hcell hws hfr
  go_enter Tryd.func22, Tryd.ntmps22
  go_wp2_with (first | (go_at_call 18; refine (hn1 _).mono ?_; rintro e w9 ⟨rfl, rfl⟩) | (go_at_call 38; refine (hcode _).mono ?_; rintro e w2 ⟨rfl, hc2⟩; obtain ⟨kR, kA, hcw, hg2⟩ := act_w2 w w2 g hgw hc2; have p0 := cell_of kA 0; have p1 := cell_of kA 1; have p2 := cell_of kA 2; have f0 := frozen_of kA 0; have f2 := frozen_of kA 2; have e1 := hg2 _ _ Z1.out; have w3f := act_w3 w w2 g nm cd hgw hc2; have q0 := cell_of w3f.2.1 0; have q1 := cell_of w3f.2.1 1; have q2 := cell_of w3f.2.1 2; have j0 := frozen_of w3f.1 0; have c0 := cell_of kR 0; have c1 := cell_of kR 1; have c2 := cell_of kR 2; have r0 := frozen_of kR 0; have r1 := frozen_of kR 1; have r2 := frozen_of kR 2; have j1 := frozen_of w3f.1 1; have j2 := frozen_of w3f.1 2; have m2 := w3f.2.2.2.1 _ _ Z2.out; have x3 := res3 w3f.1 (.string nm) (.slice none 0 0) (.string cd); have x0 := x3.1; have x1 := x3.2.1; have x2 := x3.2.2.1; have x4 := x3.2.2.2.1; have x5 := x3.2.2.2.2; have W3F := hid w3f; simp at p0 p1 p2 q0 q1 q2 c0 c1 c2; clear kR kA hcw hg2 hc2 w3f x3))
  refine bodyPost_ret (v := .tuple #[.agg #[.string nm, .slice none 0 0, .string cd], .bool false]) (by simp [results, Tryd.results22, go_sem, x0, x1, x2] <;> rfl) rfl ⟨chg_res (W3F.out.2.2.1.mono (fun i hi h => by have : w.heap.size + 1 ≤ i := h; show w.heap.size ≤ i; omega)) _ _ _, ?_⟩
  exact ⟨_, _, _, _, _, rfl⟩

end Go.Proofs.YtbaipdhgjalgoaaDoor
