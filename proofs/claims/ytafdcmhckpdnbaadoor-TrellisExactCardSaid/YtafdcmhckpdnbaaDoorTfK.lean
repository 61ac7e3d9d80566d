/- TrellisExact walked: it returns true. -/
import Derived.Test.YtafdcmhckpdnbaaDoorTfJ
import Derived.Deep.RegionHeld3
namespace Go.Proofs.YtafdcmhckpdnbaaDoor
open Go.RowKit

theorem needsOf_lim (g : GrR) (s : Nm) : (needsOf g s).length ≤ 100 ∧ ∀ t ∈ needsOf g s, t.length ≤ 1000 := by
  by_cases hz : checkR g = 0
  · have := needsOf_small (can_iff.1 hz) s
    exact ⟨by omega, fun t ht => by have := this.2 t ht; omega⟩
  · have hr : needsOf g s = [] := by unfold needsOf; rw [if_neg hz]
    rw [hr]
    exact ⟨Nat.zero_le _, by simp⟩

set_option maxRecDepth 100000 in
set_option maxHeartbeats 8000000 in
theorem exact_bs (g : GrR) (name : Nm) (hname : name.length ≤ maxLen) (names : List Nm) (v nv : Value) (w : World) (hg : GrAt w v g) (hns0 : NamesAt w nv names) : Calls Tryd.prog 3 #[v, .string (bs name), nv] w (Rets (.bool true) (Chg (fun _ => False) w)) := by
  obtain ⟨oa, c, ob, d, iv, rfl, hs, ha⟩ := hg.form
  have hC1 : Chg (fun _ => False) w (w.alloc (.cells #[.slice oa g.srcs.length c, .slice ob g.acts.length d] 25)) := (Chg.refl _ w).alloc _
  have hgb : (w.alloc (.cells #[.slice oa g.srcs.length c, .slice ob g.acts.length d] 25)).heap[w.heap.size]? = some (.cells #[.slice oa g.srcs.length c, .slice ob g.acts.length d] 25 (0, 0)) := heap_alloc_new' w _
  have HG := hid (hg.chg hC1 (fun _ _ h => h))
  have HNM := hid (hns0.chg hC1 (fun _ _ h => h))
  have HC1 := hid hC1
  have HGB := hid hgb
  have hsz := bs_size name
  unfold maxLen at hname
  rw [← hsz] at hname
  have HSM := hid (needsOf_lim g name)
  clear hg hs ha hC1 hgb hns0 hsz
  go_enter Tryd.func3, Tryd.ntmps3
  go_wp2_with fail
  refine (awake_any _).mono ?_
  rintro e w1 ⟨rfl, hc1⟩
  generalize w.alloc (.cells #[.slice oa g.srcs.length c, .slice ob g.acts.length d] 25) = W0 at *
  have a0 := cell_of (hc1.obj HGB.out (fun h => h)) 0
  have a1 := cell_of (hc1.obj HGB.out (fun h => h)) 1
  simp at a0 a1
  have C := hid hc1
  clear hc1
  go_wp2_with fail
  refine (great_any g names _ _ _ (HG.out.chg C.out (fun _ _ h => h)) (HNM.out.chg C.out (fun _ _ h => h))).mono ?_
  rintro e w2 ⟨B, rfl, hc2, hB⟩
  have C2 := hid (C.out.trans hc2 (fun _ _ h => h))
  have a0 := cell_of (C2.out.obj HGB.out (fun h => h)) 0
  have a1 := cell_of (C2.out.obj HGB.out (fun h => h)) 1
  simp at a0 a1
  clear hc2 C hB
  cases B with
  | true =>
    go_wp2_with fail
    go_ret
    exact ⟨rfl, HC1.out.trans C2.out (fun _ _ h => h)⟩
  | false =>
    by_cases h200 : (200 : Int) < ((bs name).size : Int)
    · go_wp2_with fail
      go_ret
      exact ⟨rfl, HC1.out.trans C2.out (fun _ _ h => h)⟩
    · go_wp2_with fail
      have HG2 := hid (HG.out.chg C2.out (fun _ _ h => h))
      have HNM2 := hid (HNM.out.chg C2.out (fun _ _ h => h))
      have HB2 : Hid (∀ W, Chg (fun _ => False) w2 W → W.cell? ⟨w.heap.size, 0, none⟩ = some (.slice oa g.srcs.length c) ∧ W.cell? ⟨w.heap.size, 1, none⟩ = some (.slice ob g.acts.length d)) := hid (fun W hW => by
        have k := (C2.out.trans hW (fun _ _ h => h)).obj HGB.out (fun h => h)
        exact ⟨cell_of k 0, cell_of k 1⟩)
      have hcc : Chg (fun _ => False) w2 w2.drew := (Chg.refl _ w2).drew
      clear HG HNM HGB
      go_region_held3 (fun W => W.cell? ⟨w.heap.size, 0, none⟩ = some (.slice oa g.srcs.length c) ∧ W.cell? ⟨w.heap.size, 1, none⟩ = some (.slice ob g.acts.length d)) (first | exact HB2.out _ hcc | exact ⟨a0, a1⟩) (first | (go_at_call 11; refine (tcheck_any g _ _ (HG2.out.chg hcc (fun _ _ h => h))).mono ?_; rintro e wA ⟨rfl, hcA⟩; have hcn := hcc.trans hcA (fun _ _ h => h); clear hcc hcA; have hcc := hcn; clear hcn) | (go_at_call 12; refine (rcheck_any g _ _ (HG2.out.chg hcc (fun _ _ h => h))).mono ?_; rintro e wA ⟨rfl, hcA⟩; have hcn := hcc.trans hcA (fun _ _ h => h); clear hcc hcA; have hcc := hcn; clear hcn) | (go_at_call 14; refine (torder_any g _ _ (HG2.out.chg hcc (fun _ _ h => h))).mono ?_; rintro e wA ⟨hcA, v1, rfl, ho1⟩; obtain ⟨o1, c1, rfl⟩ := owns_form ho1; have HI1 := hid (IntsAt.of_owns ho1); clear ho1; have hcn := hcc.trans hcA (fun _ _ h => h); clear hcc hcA; have hcc := hcn; clear hcn) | (go_at_call 15; refine (rorderL_any g _ _ (HG2.out.chg hcc (fun _ _ h => h))).mono ?_; rintro e wA ⟨hcA, v2, rfl, ho2⟩; obtain ⟨o2, c2, rfl⟩ := owns_form ho2; have HI2 := hid (IntsAt.of_owns ho2); have HI1b := hid (HI1.out.chg hcA (fun _ _ h => h)); clear ho2 HI1; have hcn := hcc.trans hcA (fun _ _ h => h); clear hcc hcA; have hcc := hcn; clear hcn) | (go_at_call 13; refine (ints_eq _ _ (ordR g) _ HI1b.out HI2.out).mono ?_; rintro e wA ⟨rfl, hcA⟩; clear HI1b HI2; have hcn := hcc.trans hcA (fun _ _ h => h); clear hcc hcA; have hcc := hcn; clear hcn) | (go_at_call 17; refine (tneeds_any g name _ _ (HG2.out.chg hcc (fun _ _ h => h))).mono ?_; rintro e wA ⟨hcA, v3, rfl, ho3⟩; obtain ⟨o3, c3, rfl⟩ := owns_form ho3; have HN3 := hid (names_own ho3 HSM.out.1 HSM.out.2); clear ho3; have hcn := hcc.trans hcA (fun _ _ h => h); clear hcc hcA; have hcc := hcn; clear hcn) | (go_at_call 18; refine (rneedsL_any g name _ _ (HG2.out.chg hcc (fun _ _ h => h))).mono ?_; rintro e wA ⟨hcA, v4, rfl, ho4⟩; obtain ⟨o4, c4, rfl⟩ := ho4.form; have HN4 := hid ho4; have HN3b := hid (HN3.out.chg hcA (fun _ _ h => h)); clear ho4 HN3; have hcn := hcc.trans hcA (fun _ _ h => h); clear hcc hcA; have hcc := hcn; clear hcn) | (go_at_call 16; refine (same_eq _ _ (needsOf g name) _ HN3b.out HN4.out).mono ?_; rintro e wA ⟨rfl, hcA⟩; clear HN3b HN4; have hcn := hcc.trans hcA (fun _ _ h => h); clear hcc hcA; have hcc := hcn; clear hcn) | (go_at_call 19; refine (tdirty_any g names _ _ _ (HG2.out.chg hcc (fun _ _ h => h)) (HNM2.out.chg hcc (fun _ _ h => h))).mono ?_; rintro e wA ⟨hcA, v5, rfl, ho5⟩; obtain ⟨o5, c5, rfl⟩ := owns_form ho5; have HI5 := hid (IntsAt.of_owns ho5); clear ho5; have hcn := hcc.trans hcA (fun _ _ h => h); clear hcc hcA; have hcc := hcn; clear hcn) | (go_at_call 20; refine (rdirtyL_any g names _ _ _ (HG2.out.chg hcc (fun _ _ h => h)) (HNM2.out.chg hcc (fun _ _ h => h))).mono ?_; rintro e wA ⟨hcA, v6, rfl, ho6⟩; obtain ⟨o6, c6, rfl⟩ := owns_form ho6; have HI6 := hid (IntsAt.of_owns ho6); have HI5b := hid (HI5.out.chg hcA (fun _ _ h => h)); clear ho6 HI5; have hcn := hcc.trans hcA (fun _ _ h => h); clear hcc hcA; have hcc := hcn; clear hcn) | (go_at_call 13; refine (ints_eq _ _ (dirtyOf g names) _ HI5b.out HI6.out).mono ?_; rintro e wA ⟨rfl, hcA⟩; clear HI5b HI6; have hcn := hcc.trans hcA (fun _ _ h => h); clear hcc hcA; have hcc := hcn; clear hcn))
      all_goals go_wp2_with fail
      all_goals (go_ret; exact ⟨rfl, (HC1.out.trans C2.out (fun _ _ h => h)).trans hcc (fun _ _ h => h)⟩)
theorem exact_any (g : GrR) (s : ByteArray) (hs : s.size ≤ maxLen) (names : List Nm) (v nv : Value) (w : World) (hg : GrAt w v g) (hns0 : NamesAt w nv names) : Calls Tryd.prog 3 #[v, .string s, nv] w (Rets (.bool true) (Chg (fun _ => False) w)) := by
  have h := exact_bs g s.data.toList (by have h := bs_size s.data.toList; rw [bs_list] at h; omega) names v nv w hg hns0
  rw [bs_list] at h
  exact h
end Go.Proofs.YtafdcmhckpdnbaaDoor
