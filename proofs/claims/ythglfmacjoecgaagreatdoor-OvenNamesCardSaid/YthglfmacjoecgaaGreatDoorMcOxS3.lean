/- OvenNames: names play no part: renamed, its sources in another order, a build comes to the same, with the same keys: for every build and all sources the law returns true; the tables of the program's library and of stamp as the program's text lays them. -/
import Derived.Test.YthglfmacjoecgaaGreatDoorMg33
import Derived.Test.YthglfmacjoecgaaGreatDoorMg37
namespace Go.Proofs.YthglfmacjoecgaaGreatDoor
open Go.ChangeShapes Go.WideShapes Go.ChangeAt Go.RowKit

theorem ovenNames_met (os : Os) : laidMet Tryz.prog Rows.ovenNamesRow.laid ((laidW os).forCall (fun _ _ => 0) ⟨#[], #[Value.agg #[.slice none 0 0, .slice none 0 0], Value.slice none 0 0], []⟩).memory :=
  laidMet_of_run' 8 (by kernel_rfl) (by kernel_rfl)
theorem ovenNames_reads (os : Os) {H : Type} (enc : TypeId × Value → H) : ∃ places, DataW.whole enc Tryz.prog ((laidW os).forCall (fun _ _ => 0) ⟨#[], #[Value.agg #[.slice none 0 0, .slice none 0 0], Value.slice none 0 0], []⟩).memory Tryz.f5.params.toList Rows.ovenNamesSpec.vars false #[Value.agg #[.slice none 0 0, .slice none 0 0], Value.slice none 0 0].toList 8 = some ([.agg [.nil, .nil], .nil], [], places) :=
  ⟨[], by kernel_rfl⟩
set_option maxRecDepth 100000 in
set_option maxHeartbeats 4000000 in
theorem ovenNames_lifted (os : Os) (started : os.Started) (H : Type) (enc : TypeId × Value → H) (F : Stop.Interp) :
    ReturnsInHanded {} Tryz.checked os 5 .any ((OpenSpec.ofChange Rows.ovenNamesSpec).preRow enc Tryz.prog Tryz.f5 Rows.ovenNamesRow.domain false Rows.ovenNamesRow.laid) (((OpenSpec.ofChange Rows.ovenNamesSpec).at F).post enc Tryz.prog Tryz.f5 false true false false) := by
  obtain ⟨places, hx⟩ := ovenNames_reads os enc
  refine returnsInHanded_of_row (C := Tryz.checked) (s := OpenSpec.ofChange Rows.ovenNamesSpec) Tryz.own started (by kernel_rfl) Tryz.func5
    (witness_row_at (enc := enc) (C := Tryz.checked) false (laidW os) #[Value.agg #[.slice none 0 0, .slice none 0 0], Value.slice none 0 0] rfl (by kernel_rfl) (by kernel_rfl) (by kernel_rfl)
      (OpenSpec.preRow_of_cond 8 hx (by kernel_rfl) (fun k hk => by cases hk) (by kernel_rfl) (ovenNames_met os))) ?_
  intro W base args ds gs before hval0 hW _ _ _ hL _ _
  have hval : ∀ (j : Nat) t v, Tryz.f5.params[j]? = some t → args[j]? = some v → Value.okWide Tryz.prog W .any base t v := hval0
  have hW' := hW
  obtain ⟨p, q, hA0, hV, rfl, _, _⟩ := hW
  have hA : DataW.TrodAll enc Tryz.prog W 0 (fun _ => true) true Tryz.f5.params.toList args.toList ds p := hA0
  rw [Tryz.params5] at hA hval
  obtain ⟨v0, vs0, d0, ds0, p0, q0, hargs, rfl, rfl, h0, r0⟩ := trodAll_cons hA
  obtain ⟨v1, vs1, d1, ds1, p1, q1, rfl, rfl, rfl, h1, r1⟩ := trodAll_cons r0
  obtain ⟨rfl, rfl, rfl⟩ := trodAll_nil r1
  obtain rfl : args = #[v0, v1] := by cases args; simp_all
  obtain ⟨rfl, rfl⟩ := trodVars_none hV
  clear hA0 hval0 hargs
  simp only [List.append_nil] at hW'
  have hlt := hW'.lt
  have t0 := fun (W' : World) (hn : Below W.heap.size W W') => Below.trod Tryz.laidOut (by kernel_rfl) (of_decide_eq_true (by kernel_rfl)) h0 hn (fun x hx => by simpa using hlt x (by simp [hx]))
  have t1 := fun (W' : World) (hn : Below W.heap.size W W') => Below.trod Tryz.laidOut (by kernel_rfl) (of_decide_eq_true (by kernel_rfl)) h1 hn (fun x hx => by simpa using hlt x (by simp [hx]))
  obtain ⟨g0, S0⟩ := gr_of (hval 0 25 v0 rfl rfl) h0
  obtain ⟨ss1, S1⟩ := srcs_in (hval 1 26 v1 rfl rfl) h1
  have hcall : Calls Tryz.prog 5 #[v0, v1] W (Rets (.bool true) (fun w' => Chg (fun _ => False) W w')) := onames_any g0 ss1 v0 v1 W S0 S1 (tabs_of hL) (Nat.le_refl _)
  refine hcall.mono fun e W' ⟨he, hc⟩ => ?_
  subst he
  have hn : Below W.heap.size W W' := hc.below (Nat.le_refl _) (fun _ _ h => h)
  exact ⟨_, rfl, _, _, _, [], _, [], hW', trodAll_mk1 (shut_bool Tryz.underlying4 true), (trodAll_cons_mk (t0 W' hn) (trodAll_cons_mk (t1 W' hn) trodAll_mk0)), rfl, hn.frame _, fun h => by cases h⟩
theorem ovenNames_said : Rows.OvenNamesSaid :=
  OpenClaim.holds_of_cond 5 Tryz.f5 rfl rfl rfl rfl rfl rfl rfl ⟨rfl, rfl, rfl, rfl, rfl⟩ rfl rfl rfl rfl rfl (by kernel_rfl) Tryz.func5 (by kernel_rfl)
    (of_decide_eq_true (by kernel_rfl)) (by unfold Func.isWrapper; first | (rw [if_pos (by decide +kernel)]; kernel_rfl) | (rw [if_neg (by decide +kernel)]; exact ⟨rfl, rfl⟩))
    (fun os started H enc _ F => by rw [OpenClaim.pre_eq_preRow]; exact ovenNames_lifted os started H enc F)
theorem ovenNames_plain (f : FuncId) (fn : Func) (hf : Tryz.pinned.checked.prog.funcNamed "apiary/apiarylaw09.OvenNames" = some f) (hfn : Tryz.pinned.checked.prog.funcs[f]? = some fn) :
    false = Tryz.pinned.checked.prog.looks [] ∧ ∀ (j : Nat) t, fn.params[j]? = some t → Tryz.pinned.checked.prog.wantsStandIn t = false := by
  obtain rfl : f = 5 := Option.some.inj ((show Tryz.prog.funcNamed "apiary/apiarylaw09.OvenNames" = some 5 by kernel_rfl).symm.trans hf) |>.symm
  obtain rfl : fn = Tryz.f5 := (Option.some.inj (Tryz.func5.symm.trans hfn)).symm
  refine ⟨by kernel_rfl, fun j t ht => ?_⟩
  rw [Tryz.params5] at ht
  have hm := Array.mem_of_getElem? ht
  simp only [Array.mem_def, List.mem_cons, List.not_mem_nil, or_false] at hm
  rcases hm with rfl | rfl
  · exact (show Tryz.prog.wantsStandIn 25 = false by kernel_rfl)
  · exact (show Tryz.prog.wantsStandIn 26 = false by kernel_rfl)

/-- OvenNames: names play no part: renamed, its sources in another order, a build comes to the same, with the same keys: for every build and all sources the law returns true; the tables of the program's library and of stamp as the program's text lays them. -/
theorem ovenNames_card : Rows.OvenNamesCardSaid :=
  Claim7.holds_tied_plain_at .later [] _ _ _ _ ovenNames_said (fun _ h => by cases h) (by kernel_rfl) (fun _ h => by cases h) ovenNames_row_tie rfl ⟨rfl, rfl⟩ (by kernel_rfl) rfl ovenNames_plain (by kernel_rfl)
#print axioms ovenNames_card
end Go.Proofs.YthglfmacjoecgaaGreatDoor
