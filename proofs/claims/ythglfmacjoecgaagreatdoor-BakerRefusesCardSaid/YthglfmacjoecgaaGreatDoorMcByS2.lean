/- BakerRefuses: what is refused changes nothing: a result for another place, or one that can't be: for every build with its sources, every places, every result the law returns true; the tables of the program's library and of stamp as the program's text lays them. -/
import Derived.Test.YthglfmacjoecgaaGreatDoorMg33
import Derived.Test.YthglfmacjoecgaaGreatDoorMg35
import Derived.Test.YthglfmacjoecgaaGreatDoorMg36
namespace Go.Proofs.YthglfmacjoecgaaGreatDoor
open Go.ChangeShapes Go.WideShapes Go.ChangeAt Go.RowKit

theorem bakerRefuses_met (os : Os) : laidMet Tryz.prog Rows.bakerRefusesRow.laid ((laidW os).forCall (fun _ _ => 0) ⟨#[], #[Value.agg #[.slice none 0 0, .slice none 0 0, .slice none 0 0], Value.slice none 0 0, Value.agg #[.int .i64 0, .string ByteArray.empty]], []⟩).memory :=
  laidMet_of_run' 8 (by kernel_rfl) (by kernel_rfl)
theorem bakerRefuses_reads (os : Os) {H : Type} (enc : TypeId × Value → H) : ∃ places, DataW.whole enc Tryz.prog ((laidW os).forCall (fun _ _ => 0) ⟨#[], #[Value.agg #[.slice none 0 0, .slice none 0 0, .slice none 0 0], Value.slice none 0 0, Value.agg #[.int .i64 0, .string ByteArray.empty]], []⟩).memory Tryz.f10.params.toList Rows.bakerRefusesSpec.vars false #[Value.agg #[.slice none 0 0, .slice none 0 0, .slice none 0 0], Value.slice none 0 0, Value.agg #[.int .i64 0, .string ByteArray.empty]].toList 8 = some ([.agg [.agg [.nil, .nil], .nil], .nil, .agg [.lit (.int .i64 0), .lit (.string [])]], [], places) :=
  ⟨[], by kernel_rfl⟩
set_option maxRecDepth 100000 in
set_option maxHeartbeats 4000000 in
theorem bakerRefuses_lifted (os : Os) (started : os.Started) (H : Type) (enc : TypeId × Value → H) (F : Stop.Interp) :
    ReturnsInHanded {} Tryz.checked os 10 .any ((OpenSpec.ofChange Rows.bakerRefusesSpec).preRow enc Tryz.prog Tryz.f10 Rows.bakerRefusesRow.domain false Rows.bakerRefusesRow.laid) (((OpenSpec.ofChange Rows.bakerRefusesSpec).at F).post enc Tryz.prog Tryz.f10 false true false false) := by
  obtain ⟨places, hx⟩ := bakerRefuses_reads os enc
  refine returnsInHanded_of_row (C := Tryz.checked) (s := OpenSpec.ofChange Rows.bakerRefusesSpec) Tryz.own started (by kernel_rfl) Tryz.func10
    (witness_row_at (enc := enc) (C := Tryz.checked) false (laidW os) #[Value.agg #[.slice none 0 0, .slice none 0 0, .slice none 0 0], Value.slice none 0 0, Value.agg #[.int .i64 0, .string ByteArray.empty]] rfl (by kernel_rfl) (by kernel_rfl) (by kernel_rfl)
      (OpenSpec.preRow_of_cond 8 hx (by kernel_rfl) (fun k hk => by cases hk) (by kernel_rfl) (bakerRefuses_met os))) ?_
  intro W base args ds gs before hval0 hW _ _ _ hL _ _
  have hval : ∀ (j : Nat) t v, Tryz.f10.params[j]? = some t → args[j]? = some v → Value.okWide Tryz.prog W .any base t v := hval0
  have hW' := hW
  obtain ⟨p, q, hA0, hV, rfl, _, _⟩ := hW
  have hA : DataW.TrodAll enc Tryz.prog W 0 (fun _ => true) true Tryz.f10.params.toList args.toList ds p := hA0
  rw [Tryz.params10] at hA hval
  obtain ⟨v0, vs0, d0, ds0, p0, q0, hargs, rfl, rfl, h0, r0⟩ := trodAll_cons hA
  obtain ⟨v1, vs1, d1, ds1, p1, q1, rfl, rfl, rfl, h1, r1⟩ := trodAll_cons r0
  obtain ⟨v2, vs2, d2, ds2, p2, q2, rfl, rfl, rfl, h2, r2⟩ := trodAll_cons r1
  obtain ⟨rfl, rfl, rfl⟩ := trodAll_nil r2
  obtain rfl : args = #[v0, v1, v2] := by cases args; simp_all
  obtain ⟨rfl, rfl⟩ := trodVars_none hV
  clear hA0 hval0 hargs
  simp only [List.append_nil] at hW'
  have hlt := hW'.lt
  have t0 := fun (W' : World) (hn : Below W.heap.size W W') => Below.trod Tryz.laidOut (by kernel_rfl) (of_decide_eq_true (by kernel_rfl)) h0 hn (fun x hx => by simpa using hlt x (by simp [hx]))
  have t1 := fun (W' : World) (hn : Below W.heap.size W W') => Below.trod Tryz.laidOut (by kernel_rfl) (of_decide_eq_true (by kernel_rfl)) h1 hn (fun x hx => by simpa using hlt x (by simp [hx]))
  have t2 := fun (W' : World) (hn : Below W.heap.size W W') => Below.trod Tryz.laidOut (by kernel_rfl) (of_decide_eq_true (by kernel_rfl)) h2 hn (fun x hx => by simpa using hlt x (by simp [hx]))
  obtain ⟨g0, sr0, S0⟩ := plan_in (hval 0 79 v0 rfl rfl) h0
  obtain ⟨ps1, S1⟩ := places_in (hval 1 75 v1 rfl rfl) h1
  obtain ⟨rr2, rfl, wr2, wz2⟩ := res_in (hval 2 47 v2 rfl rfl) h2
  have hcall : Calls Tryz.prog 10 #[v0, v1, resW rr2] W (Rets (.bool true) (fun w' => Chg (fun _ => False) W w')) := brefuses_any g0 sr0 ps1 rr2 wz2 v0 v1 W S0 S1 (tabs_of hL) (Nat.le_refl _)
  refine hcall.mono fun e W' ⟨he, hc⟩ => ?_
  subst he
  have hn : Below W.heap.size W W' := hc.below (Nat.le_refl _) (fun _ _ h => h)
  exact ⟨_, rfl, _, _, _, [], _, [], hW', trodAll_mk1 (shut_bool Tryz.underlying4 true), (trodAll_cons_mk (t0 W' hn) (trodAll_cons_mk (t1 W' hn) (trodAll_cons_mk (t2 W' hn) trodAll_mk0))), rfl, hn.frame _, fun h => by cases h⟩
theorem bakerRefuses_said : Rows.BakerRefusesSaid :=
  OpenClaim.holds_of_cond 10 Tryz.f10 rfl rfl rfl rfl rfl rfl rfl ⟨rfl, rfl, rfl, rfl, rfl⟩ rfl rfl rfl rfl rfl (by kernel_rfl) Tryz.func10 (by kernel_rfl)
    (of_decide_eq_true (by kernel_rfl)) (by unfold Func.isWrapper; first | (rw [if_pos (by decide +kernel)]; kernel_rfl) | (rw [if_neg (by decide +kernel)]; exact ⟨rfl, rfl⟩))
    (fun os started H enc _ F => by rw [OpenClaim.pre_eq_preRow]; exact bakerRefuses_lifted os started H enc F)
theorem bakerRefuses_plain (f : FuncId) (fn : Func) (hf : Tryz.pinned.checked.prog.funcNamed "apiary/apiarylaw21.BakerRefuses" = some f) (hfn : Tryz.pinned.checked.prog.funcs[f]? = some fn) :
    false = Tryz.pinned.checked.prog.looks [] ∧ ∀ (j : Nat) t, fn.params[j]? = some t → Tryz.pinned.checked.prog.wantsStandIn t = false := by
  obtain rfl : f = 10 := Option.some.inj ((show Tryz.prog.funcNamed "apiary/apiarylaw21.BakerRefuses" = some 10 by kernel_rfl).symm.trans hf) |>.symm
  obtain rfl : fn = Tryz.f10 := (Option.some.inj (Tryz.func10.symm.trans hfn)).symm
  refine ⟨by kernel_rfl, fun j t ht => ?_⟩
  rw [Tryz.params10] at ht
  have hm := Array.mem_of_getElem? ht
  simp only [Array.mem_def, List.mem_cons, List.not_mem_nil, or_false] at hm
  rcases hm with rfl | rfl | rfl
  · exact (show Tryz.prog.wantsStandIn 79 = false by kernel_rfl)
  · exact (show Tryz.prog.wantsStandIn 75 = false by kernel_rfl)
  · exact (show Tryz.prog.wantsStandIn 47 = false by kernel_rfl)

/-- BakerRefuses: what is refused changes nothing: a result for another place, or one that can't be: for every build with its sources, every places, every result the law returns true; the tables of the program's library and of stamp as the program's text lays them. -/
theorem bakerRefuses_card : Rows.BakerRefusesCardSaid :=
  Claim7.holds_tied_plain_at .later [] _ _ _ _ bakerRefuses_said (fun _ h => by cases h) (by kernel_rfl) (fun _ h => by cases h) bakerRefuses_row_tie rfl ⟨rfl, rfl⟩ (by kernel_rfl) rfl bakerRefuses_plain (by kernel_rfl)
#print axioms bakerRefuses_card
end Go.Proofs.YthglfmacjoecgaaGreatDoor
