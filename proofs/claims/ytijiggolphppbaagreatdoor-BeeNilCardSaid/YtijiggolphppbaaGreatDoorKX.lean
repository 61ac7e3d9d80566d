/- BeeNil: what nil answers; a shelf; Open. -/
import Derived.Test.YtijiggolphppbaaGreatDoorKG
import Derived.Test.YtijiggolphppbaaGreatDoorEe
namespace Go.Proofs.YtijiggolphppbaaGreatDoor
open Go.RowKit Go.Proofs.YtijiggolphppbaaGreatDoor.Ev
noncomputable def runV (N : Nat) (f : FuncId) (args : List AV) (v : AV) : Bool := match call g N f args ⟨.leaf, 7⟩ with
  | some (v', _) => eqA v v'
  | none => false
/-- Values that are not looked at. -/
def Cx.vals (W : World) (X : Nat → Value) : Cx := ⟨fun _ => False, fun _ => (0, 0), fun _ => 0, X, W⟩
theorem Sim.vals (W : World) (X : Nat → Value) : Sim (Cx.vals W X) ⟨.leaf, 7⟩ W :=
  ⟨fun _ h => h.elim, (by show 7 ≤ MX + 1; unfold MX; omega), fun _ _ => rfl, fun _ _ _ _ h => h.elim, fun _ _ _ _ h => h.elim, fun _ h => h.elim, fun _ _ h => h.elim, ⟨Nat.le_refl _, fun _ _ => rfl⟩, fun _ h => h.elim⟩
theorem runV_calls {N : Nat} {f : FuncId} {args : List AV} {v : AV} (h : runV N f args v = true) (eg : ∀ args w, (callFunc f args).run Tryz.prog w = .ok (.enter f args) w) (w : World) (hJ : Words w) (X : Nat → Value) {ar : Array Value} (hv : VRs (Cx.vals w X) args ar.toList) :
    Calls Tryz.prog f ar w fun e w' => ∃ v' c', e = .returned v' ∧ VR c' v v' ∧ Chg (fun _ => False) w w' := by
  unfold runV at h
  cases hc : call g N f args ⟨.leaf, 7⟩ with
  | none => rw [hc] at h; cases h
  | some r =>
    obtain ⟨v2, σ2⟩ := r
    rw [hc] at h
    have e := eqA_sound h
    subst e
    rcases call_ok prg N f args _ v σ2 hc (Cx.vals w X) w ar hJ hv (Sim.vals w X) with ⟨v', w', c', h1, _⟩ | ⟨_, h2⟩
    · rw [eg] at h1
      cases h1
    · refine h2.mono ?_
      rintro e w' ⟨v', c', rfl, hp, hv'⟩
      exact ⟨v', c', rfl, hv', hp.os, hp.tape, hp.output, hp.size, fun b hb _ => hp.block b hb (fun n o hd => hd.elim)⟩
set_option maxRecDepth 1000000
theorem run_build : runV 1000 6 [.ptr none, .agg [.x 0, .x 1], .x 2] (.int .i64 2) = true := by kernel_rfl
theorem run_tick : runV 1000 7 [.ptr none, .int .i64 0] (.int .i64 2) = true := by kernel_rfl
theorem run_hear : runV 1000 8 [.ptr none, .str []] (.int .i64 2) = true := by kernel_rfl
theorem run_leave : runV 1000 9 [.ptr none] (.int .i64 2) = true := by kernel_rfl
theorem run_out : runV 1000 10 [.ptr none] (.sl none 0 0) = true := by kernel_rfl
theorem run_state : runV 1000 11 [.ptr none] (.int .i64 0) = true := by kernel_rfl
theorem run_results : runV 1000 12 [.ptr none] (.sl none 0 0) = true := by kernel_rfl
theorem run_ran : runV 1000 13 [.ptr none] (.sl none 0 0) = true := by kernel_rfl
theorem run_got : runV 1000 14 [.ptr none] (.sl none 0 0) = true := by kernel_rfl
theorem run_members : runV 1000 15 [.ptr none] (.sl none 0 0) = true := by kernel_rfl
theorem run_store : runV 1000 16 [.ptr none] (.ptr none) = true := by kernel_rfl
theorem run_open : runV 1000 18 [.ptr none, .int .i64 1, .agg [.int .i64 1, .int .i64 0, .bool false]] (.tup [.ptr none, .int .i64 2]) = true := by kernel_rfl
end Go.Proofs.YtijiggolphppbaaGreatDoor
