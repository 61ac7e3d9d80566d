/- trellis.Check, Order walked. -/
import Derived.Test.YtafdcmhckpdnbaaDoorTrG
namespace Go.Proofs.YtafdcmhckpdnbaaDoor
open Go.RowKit

/-- Order's answer. -/
def ordR (g : GrR) : List Nat := if checkR g = 0 then orderR g else []
set_option maxRecDepth 100000 in
set_option maxHeartbeats 1000000 in
theorem tcheck_any (g : GrR) (v : Value) (w : World) (hg : GrAt w v g) : Calls Tryd.prog 11 #[v] w (Rets (.int .i64 (checkR g)) (Chg (fun _ => False) w)) := by
  obtain ⟨oa, c, ob, d, iv, rfl, hs, ha⟩ := hg.form
  have hC1 : Chg (fun _ => False) w (w.alloc (.cells #[.slice oa g.srcs.length c, .slice ob g.acts.length d] 25)) := (Chg.refl _ w).alloc _
  have hwv : Calls Tryd.prog 23 #[.agg #[.slice oa g.srcs.length c, .slice ob g.acts.length d]] (w.alloc (.cells #[.slice oa g.srcs.length c, .slice ob g.acts.length d] 25)) (fun e w' => ∃ p, e = .returned (.tuple #[.pointer p, .int .i64 (checkR g)]) ∧ Chg (fun _ => False) (w.alloc (.cells #[.slice oa g.srcs.length c, .slice ob g.acts.length d] 25)) w') :=
    (checked_any g _ _ (hg.chg hC1 (fun _ _ h => h))).mono (fun e w' ⟨h1, h2⟩ => by
      rcases h2 with ⟨h0, b, h3, _⟩ | ⟨_, h3⟩
      · exact ⟨some ⟨b, 0, none⟩, by rw [h3, h0]; rfl, h1⟩
      · exact ⟨none, h3, h1⟩)
  clear hs ha hg
  generalize checkR g = n at *
  go_enter Tryd.func11, Tryd.ntmps11
  go_wp2_with (go_at_call 23; refine hwv.mono ?_; rintro e w2 ⟨p, rfl, hc2⟩)
  go_ret
  exact ⟨rfl, hC1.trans hc2 (fun _ _ h => h)⟩
set_option maxRecDepth 100000 in
set_option maxHeartbeats 1000000 in
theorem torder_any (g : GrR) (v : Value) (w : World) (hg : GrAt w v g) : Calls Tryd.prog 14 #[v] w (IntsPost w (ordR g)) := by
  obtain ⟨oa, c, ob, d, iv, rfl, hs, ha⟩ := hg.form
  have hC1 : Chg (fun _ => False) w (w.alloc (.cells #[.slice oa g.srcs.length c, .slice ob g.acts.length d] 25)) := (Chg.refl _ w).alloc _
  have hwv := checked_any g _ _ (hg.chg hC1 (fun _ _ h => h))
  unfold CheckedPost at hwv
  clear hs ha hg
  by_cases hz : checkR g = 0
  · have hw := (can_iff.1 hz).w
    have hr : ordR g = orderR g := by unfold ordR; rw [if_pos hz]
    have hwv2 : Calls Tryd.prog 23 #[.agg #[.slice oa g.srcs.length c, .slice ob g.acts.length d]] (w.alloc (.cells #[.slice oa g.srcs.length c, .slice ob g.acts.length d] 25)) (fun e w' => ∃ b, e = .returned (.tuple #[.pointer (some ⟨b, 0, none⟩), .int .i64 0]) ∧ Chg (fun _ => False) (w.alloc (.cells #[.slice oa g.srcs.length c, .slice ob g.acts.length d] 25)) w' ∧ IsWeb w' b g) :=
      hwv.mono (fun e w' ⟨h1, h2⟩ => by
        rcases h2 with ⟨_, b, h3, h4⟩ | ⟨h3, _⟩
        · exact ⟨b, h3, h1, h4⟩
        · exact absurd hz h3)
    have HW := hid hw
    rw [hr]
    clear hz hr hwv hw
    go_enter Tryd.func14, Tryd.ntmps14
    go_wp2_with (first | (go_at_call 23; refine hwv2.mono ?_; rintro e w2 ⟨b, rfl, hc2, hb2⟩; have HB2 := hid hb2; clear hb2) | (go_at_call 27; refine (order_any g HW.out _ _ HB2.out).mono ?_; rintro e w3 ⟨hc3, v3, rfl, hown3⟩))
    go_ret
    exact ⟨(hC1.trans hc2 (fun _ _ h => h)).trans hc3 (fun _ _ h => h), v3, rfl, hown3⟩
  · have hr : ordR g = [] := by unfold ordR; rw [if_neg hz]
    have hwv2 : Calls Tryd.prog 23 #[.agg #[.slice oa g.srcs.length c, .slice ob g.acts.length d]] (w.alloc (.cells #[.slice oa g.srcs.length c, .slice ob g.acts.length d] 25)) (Rets (.tuple #[.pointer none, .int .i64 (checkR g)]) (Chg (fun _ => False) (w.alloc (.cells #[.slice oa g.srcs.length c, .slice ob g.acts.length d] 25)))) :=
      hwv.mono (fun e w' ⟨h1, h2⟩ => by
        rcases h2 with ⟨h3, _⟩ | ⟨_, h3⟩
        · exact absurd h3 hz
        · exact ⟨h3, h1⟩)
    have hne : ((checkR g : Int) == 0) = false := by simp; omega
    have hne2 : ¬ (checkR g : Int) = 0 := by omega
    rw [hr]
    clear hz hr hwv
    generalize checkR g = n at *
    go_enter Tryd.func14, Tryd.ntmps14
    go_wp2_with (go_at_call 23; refine hwv2.mono ?_; rintro e w2 ⟨rfl, hc2⟩)
    go_ret
    exact ⟨hC1.trans hc2 (fun _ _ h => h), _, rfl, World.ownsRow_nil _ _ _ _⟩
end Go.Proofs.YtafdcmhckpdnbaaDoor
