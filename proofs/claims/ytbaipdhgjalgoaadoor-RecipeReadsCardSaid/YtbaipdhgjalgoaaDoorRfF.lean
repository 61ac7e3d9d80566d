/- RecipeWrites walked: it returns true (printed by genf.py). -/
import Derived.Test.YtbaipdhgjalgoaaDoorRfE
namespace Go.Proofs.YtbaipdhgjalgoaaDoor
open Go.RowKit

theorem ans_rets {P : Prop} {D : Bool} {w : World} (hD : D = true ↔ P) {e : Ending} {w' : World} (h : Ans P w e w') : Rets (.bool D) (Chg (fun _ => False) w) e w' := by
  obtain ⟨B, rfl, hB, hc⟩ := h
  have : B = D := Bool.eq_iff_iff.2 (hB.trans hD.symm)
  subst this
  exact ⟨rfl, hc⟩

set_option maxRecDepth 100000 in
set_option maxHeartbeats 8000000 in
theorem writes_any (g h : GrR) (v u : Value) (name : ByteArray) (ht : name.size ≤ maxLen) (w : World) (hg : GrAt w v g) (hh : GrAt w u h) (hm : MaxOK w) : Calls Tryd.prog 6 #[v, u, .string name] w (Rets (.bool true) (Chg (fun _ => False) w)) := by
  have hgr : ∀ W, Chg (fun _ => False) w W → Calls Tryd.prog 13 #[v] W (AnyB W) := fun W hW => great_any g v W (hg.chg hW (fun _ _ h => h))
  have hgr2 : ∀ W, Chg (fun _ => False) w W → Calls Tryd.prog 13 #[u] W (AnyB W) := fun W hW => great_any h u W (hh.chg hW (fun _ _ h => h))
  have hpp : ∃ (tS : ByteArray) (fI : Int), (∀ W, Chg (fun _ => False) w W → Calls Tryd.prog 14 #[v] W (Rets (.tuple #[.string tS, .int .i64 fI]) (Chg (fun _ => False) W))) ∧ (∀ W, Chg (fun _ => False) w W → Calls Tryd.prog 16 #[v] W (Rets (.tuple #[.string tS, .int .i64 fI]) (Chg (fun _ => False) W))) :=
    ⟨_, _, fun W hW => print_any g v W (hg.chg hW (fun _ _ h => h)), fun W hW => rprint_any g v W (hg.chg hW (fun _ _ h => h))⟩
  have hss : ∃ D : Bool, (∀ W, Chg (fun _ => False) w W → Calls Tryd.prog 17 #[v, u] W (Rets (.bool D) (Chg (fun _ => False) W))) ∧ (∀ W, Chg (fun _ => False) w W → Calls Tryd.prog 12 #[v, u] W (Rets (.bool D) (Chg (fun _ => False) W))) := by
    have key : ∃ D : Bool, (D = true ↔ g = h) := by
      by_cases e : g = h
      · exact ⟨true, fun _ => e, fun _ => rfl⟩
      · exact ⟨false, fun h => (Bool.false_ne_true h).elim, fun h => absurd h e⟩
    obtain ⟨D, hD⟩ := key
    exact ⟨D, fun W hW => (same_any g h v u W (hg.chg hW (fun _ _ h => h)) (hh.chg hW (fun _ _ h => h))).mono (fun _ _ h => ans_rets hD h), fun W hW => (rsame_any g h v u W (hg.chg hW (fun _ _ h => h)) (hh.chg hW (fun _ _ h => h))).mono (fun _ _ h => ans_rets hD h)⟩
  have hnn : ∃ D : Bool, (∀ W, Calls Tryd.prog 15 #[.string name] W (Rets (.bool D) (Chg (fun _ => False) W))) ∧ (∀ W, Calls Tryd.prog 18 #[.string name] W (Rets (.bool D) (Chg (fun _ => False) W))) :=
    ⟨_, fun W => isName_any name ht W, fun W => (rname_any name ht W).mono (fun _ _ h => ⟨h.1, by rw [← h.2]; exact Chg.refl _ _⟩)⟩
  obtain ⟨tS, fI, hpr, hrp⟩ := hpp
  obtain ⟨D, hsm, hrs⟩ := hss
  obtain ⟨N, hin, hrn⟩ := hnn
  obtain ⟨oa, c, ob, d, iv, rfl, _, _⟩ := hg.form
  obtain ⟨pa, q, pb, r, ju, rfl, _, _⟩ := hh.form
  have hC0 : Chg (fun _ => False) w ((w.alloc (.cells #[.slice oa g.srcs.length c, .slice ob g.acts.length d] 26)).alloc (.cells #[.slice pa h.srcs.length q, .slice pb h.acts.length r] 26)) := ((Chg.refl _ w).alloc _).alloc _
  have hk0 : ((w.alloc (.cells #[.slice oa g.srcs.length c, .slice ob g.acts.length d] 26)).alloc (.cells #[.slice pa h.srcs.length q, .slice pb h.acts.length r] 26)).heap[w.heap.size]? = some (.cells #[.slice oa g.srcs.length c, .slice ob g.acts.length d] 26 (0, 0)) := heap_alloc_old' (heap_alloc_new' w _) _
  have hk1 : ((w.alloc (.cells #[.slice oa g.srcs.length c, .slice ob g.acts.length d] 26)).alloc (.cells #[.slice pa h.srcs.length q, .slice pb h.acts.length r] 26)).heap[w.heap.size + 1]? = some (.cells #[.slice pa h.srcs.length q, .slice pb h.acts.length r] 26 (0, 0)) := by
    have := heap_alloc_new' (w.alloc (.cells #[.slice oa g.srcs.length c, .slice ob g.acts.length d] 26)) (.cells #[.slice pa h.srcs.length q, .slice pb h.acts.length r] 26)
    simpa using this
  have hblk : ∀ W, Chg (fun _ => False) ((w.alloc (.cells #[.slice oa g.srcs.length c, .slice ob g.acts.length d] 26)).alloc (.cells #[.slice pa h.srcs.length q, .slice pb h.acts.length r] 26)) W → W.cell? ⟨w.heap.size, 0, none⟩ = some (.slice oa g.srcs.length c) ∧ W.cell? ⟨w.heap.size, 1, none⟩ = some (.slice ob g.acts.length d) ∧ W.cell? ⟨w.heap.size + 1, 0, none⟩ = some (.slice pa h.srcs.length q) ∧ W.cell? ⟨w.heap.size + 1, 1, none⟩ = some (.slice pb h.acts.length r) := fun W hW =>
    ⟨(cell_of (hW.obj hk0 (fun h => h)) 0).trans rfl, (cell_of (hW.obj hk0 (fun h => h)) 1).trans rfl, (cell_of (hW.obj hk1 (fun h => h)) 0).trans rfl, (cell_of (hW.obj hk1 (fun h => h)) 1).trans rfl⟩
  have haw := awake_any _ (hm.chg hC0 (fun _ _ h => h))
  have HGR := hid hgr
  have HGR2 := hid hgr2
  have HPR := hid hpr
  have HRP := hid hrp
  have HSM := hid hsm
  have HRS := hid hrs
  have HIN := hid hin
  have HRN := hid hrn
  have HBLK := hid hblk
  have HC0 := hid hC0
  have heq : ∀ (x y : Bool) (w : World), (binOp .eql 4 (.bool x) (.bool y)).run Tryd.prog w = .ok (.bool (x == y)) w := fun x y w => (EqlAt.bool (P := Tryd.prog) 4 Tryd.underlying4).1 x y w
  unfold maxLen at ht
  clear hg hh hm hC0 hk0 hk1 hgr hgr2 hpr hrp hsm hrs hin hrn hblk
  by_cases h8 : (1000 : Int) < (name.size : Int)
  · go_enter Tryd.func6, Tryd.ntmps6
    go_wp2_with (go_at_call 9; refine haw.mono ?_; rintro e w1 ⟨rfl, hc1⟩; obtain ⟨u0, u1, u2, u3⟩ := HBLK.out _ hc1; have HC := hid hc1; clear hc1 haw)
    have hg1 := HGR.out _ (HC0.out.trans HC.out (fun _ _ h => h))
    go_wp2_with (go_at_call 13; refine hg1.mono ?_; rintro e w2 ⟨B, rfl, hc2⟩; have hcn := HC.out.trans hc2 (fun _ _ h => h); clear HC hc2 u0 u1 u2 u3; obtain ⟨u0, u1, u2, u3⟩ := HBLK.out _ hcn; have HC := hid hcn; clear hcn; clear hg1; cases B)
    all_goals first
      | (go_ret; exact ⟨rfl, HC0.out.trans HC.out (fun _ _ h => h)⟩)
      | skip
    have hg2 := HGR2.out _ (HC0.out.trans HC.out (fun _ _ h => h))
    go_wp2_with (go_at_call 13; refine hg2.mono ?_; rintro e w3 ⟨B2, rfl, hc3⟩; have hcn := HC.out.trans hc3 (fun _ _ h => h); clear HC hc3 u0 u1 u2 u3; obtain ⟨u0, u1, u2, u3⟩ := HBLK.out _ hcn; have HC := hid hcn; clear hcn; clear hg2; cases B2)
    all_goals (go_ret; exact ⟨rfl, HC0.out.trans HC.out (fun _ _ h => h)⟩)
  · have d8 : decide ((1000 : Int) < (name.size : Int)) = false := decide_eq_false h8
    go_enter Tryd.func6, Tryd.ntmps6
    go_wp2_with (go_at_call 9; refine haw.mono ?_; rintro e w1 ⟨rfl, hc1⟩; obtain ⟨u0, u1, u2, u3⟩ := HBLK.out _ hc1; have HC := hid hc1; clear hc1 haw)
    have hg1 := HGR.out _ (HC0.out.trans HC.out (fun _ _ h => h))
    go_wp2_with (go_at_call 13; refine hg1.mono ?_; rintro e w2 ⟨B, rfl, hc2⟩; have hcn := HC.out.trans hc2 (fun _ _ h => h); clear HC hc2 u0 u1 u2 u3; obtain ⟨u0, u1, u2, u3⟩ := HBLK.out _ hcn; have HC := hid hcn; clear hcn; clear hg1; cases B)
    all_goals first
      | (go_ret; exact ⟨rfl, HC0.out.trans HC.out (fun _ _ h => h)⟩)
      | skip
    have hg2 := HGR2.out _ (HC0.out.trans HC.out (fun _ _ h => h))
    go_wp2_with (go_at_call 13; refine hg2.mono ?_; rintro e w3 ⟨B2, rfl, hc3⟩; have hcn := HC.out.trans hc3 (fun _ _ h => h); clear HC hc3 u0 u1 u2 u3; obtain ⟨u0, u1, u2, u3⟩ := HBLK.out _ hcn; have HC := hid hcn; clear hcn; clear hg2; cases B2)
    all_goals first
      | (go_ret; exact ⟨rfl, HC0.out.trans HC.out (fun _ _ h => h)⟩)
      | skip
    have hp := HPR.out _ (HC0.out.trans HC.out (fun _ _ h => h))
    go_wp2_with (go_at_call 14; refine hp.mono ?_; clear hp; rintro e w4 ⟨rfl, hc4⟩; have hcn := HC.out.trans hc4 (fun _ _ h => h); clear HC hc4 u0 u1 u2 u3; obtain ⟨u0, u1, u2, u3⟩ := HBLK.out _ hcn; have HC := hid hcn; clear hcn)
    have hp2 := HRP.out _ (HC0.out.trans HC.out (fun _ _ h => h))
    go_wp2_with (go_at_call 16; refine hp2.mono ?_; clear hp2; rintro e w5 ⟨rfl, hc5⟩; have hcn := HC.out.trans hc5 (fun _ _ h => h); clear HC hc5 u0 u1 u2 u3; obtain ⟨u0, u1, u2, u3⟩ := HBLK.out _ hcn; have HC := hid hcn; clear hcn)
    have hcc : Chg (fun _ => False) w5 w5.drew := (Chg.refl _ w5).drew
    have hb5 : ∀ W, Chg (fun _ => False) w5 W → W.cell? ⟨w.heap.size, 0, none⟩ = some (.slice oa g.srcs.length c) ∧ W.cell? ⟨w.heap.size, 1, none⟩ = some (.slice ob g.acts.length d) ∧ W.cell? ⟨w.heap.size + 1, 0, none⟩ = some (.slice pa h.srcs.length q) ∧ W.cell? ⟨w.heap.size + 1, 1, none⟩ = some (.slice pb h.acts.length r) := fun W hW => HBLK.out W (HC.out.trans hW (fun _ _ h => h))
    have hs1 : ∀ W, Chg (fun _ => False) w5 W → Calls Tryd.prog 17 #[.agg #[.slice oa g.srcs.length c, .slice ob g.acts.length d], .agg #[.slice pa h.srcs.length q, .slice pb h.acts.length r]] W (Rets (.bool D) (Chg (fun _ => False) W)) := fun W hW => HSM.out W ((HC0.out.trans HC.out (fun _ _ h => h)).trans hW (fun _ _ h => h))
    have hs2 : ∀ W, Chg (fun _ => False) w5 W → Calls Tryd.prog 12 #[.agg #[.slice oa g.srcs.length c, .slice ob g.acts.length d], .agg #[.slice pa h.srcs.length q, .slice pb h.acts.length r]] W (Rets (.bool D) (Chg (fun _ => False) W)) := fun W hW => HRS.out W ((HC0.out.trans HC.out (fun _ _ h => h)).trans hW (fun _ _ h => h))
    have HB5 := hid hb5
    have HS1 := hid hs1
    have HS2 := hid hs2
    clear hb5 hs1 hs2
    go_region_held3 (fun W => W.cell? ⟨w.heap.size, 0, none⟩ = some (.slice oa g.srcs.length c) ∧ W.cell? ⟨w.heap.size, 1, none⟩ = some (.slice ob g.acts.length d) ∧ W.cell? ⟨w.heap.size + 1, 0, none⟩ = some (.slice pa h.srcs.length q) ∧ W.cell? ⟨w.heap.size + 1, 1, none⟩ = some (.slice pb h.acts.length r)) (first | exact HB5.out _ hcc | exact ⟨u0, u1, u2, u3⟩) (first | (go_at_call 17; refine (HS1.out _ hcc).mono ?_; rintro e wA ⟨rfl, hcA⟩; have hcn := hcc.trans hcA (fun _ _ h => h); clear hcc hcA; have hcc := hcn; clear hcn) | (go_at_call 12; refine (HS2.out _ hcc).mono ?_; rintro e wA ⟨rfl, hcA⟩; have hcn := hcc.trans hcA (fun _ _ h => h); clear hcc hcA; have hcc := hcn; clear hcn) | (go_at_call 15; refine (HIN.out _).mono ?_; rintro e wA ⟨rfl, hcA⟩; have hcn := hcc.trans hcA (fun _ _ h => h); clear hcc hcA; have hcc := hcn; clear hcn) | (go_at_call 18; refine (HRN.out _).mono ?_; rintro e wA ⟨rfl, hcA⟩; have hcn := hcc.trans hcA (fun _ _ h => h); clear hcc hcA; have hcc := hcn; clear hcn))
    all_goals go_wp2_with fail
    all_goals (go_ret; exact ⟨rfl, (HC0.out.trans HC.out (fun _ _ h => h)).trans hcc (fun _ _ h => h)⟩)
end Go.Proofs.YtbaipdhgjalgoaaDoor
