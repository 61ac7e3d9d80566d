/- BeeNil's card: for every build with its sources and all numbers the law returns true; the tables of the program's library and of stamp as the program's text lays them -/
import Derived.Test.YtijiggolphppbaaGreatDoorBnT
import Derived.Test.YtijiggolphppbaaGreatDoorBnA
namespace Go.Proofs.YtijiggolphppbaaGreatDoor
open Go.ChangeShapes Go.WideShapes Go.ChangeAt Go.RowKit

theorem beeNil_met (os : Os) : laidMet Tryz.prog Rows.beeNilRow.laid ((laidW os).forCall (fun _ _ => 0) ⟨#[], #[Value.agg #[.slice none 0 0, .slice none 0 0, .slice none 0 0], Value.int .i64 0, Value.int .i64 0], []⟩).memory :=
  laidMet_of_run' 8 (by kernel_rfl) (by kernel_rfl)
theorem beeNil_reads (os : Os) {H : Type} (enc : TypeId × Value → H) : ∃ places, DataW.whole enc Tryz.prog ((laidW os).forCall (fun _ _ => 0) ⟨#[], #[Value.agg #[.slice none 0 0, .slice none 0 0, .slice none 0 0], Value.int .i64 0, Value.int .i64 0], []⟩).memory Tryz.f3.params.toList Rows.beeNilSpec.vars false #[Value.agg #[.slice none 0 0, .slice none 0 0, .slice none 0 0], Value.int .i64 0, Value.int .i64 0].toList 8 = some ([.agg [.agg [.nil, .nil], .nil], .lit (.int .i64 0), .lit (.int .i64 0)], [], places) :=
  ⟨[], by kernel_rfl⟩
set_option maxRecDepth 100000 in
set_option maxHeartbeats 4000000 in
theorem beeNil_lifted (os : Os) (started : os.Started) (H : Type) (enc : TypeId × Value → H) (F : Stop.Interp) :
    ReturnsInHanded {} Tryz.checked os 3 .any ((OpenSpec.ofChange Rows.beeNilSpec).preRow enc Tryz.prog Tryz.f3 Rows.beeNilRow.domain false Rows.beeNilRow.laid) (((OpenSpec.ofChange Rows.beeNilSpec).at F).post enc Tryz.prog Tryz.f3 false true false false) := by
  obtain ⟨places, hx⟩ := beeNil_reads os enc
  refine returnsInHanded_of_row (C := Tryz.checked) (s := OpenSpec.ofChange Rows.beeNilSpec) Tryz.own started (by kernel_rfl) Tryz.func3
    (witness_row_at (enc := enc) (C := Tryz.checked) false (laidW os) #[Value.agg #[.slice none 0 0, .slice none 0 0, .slice none 0 0], Value.int .i64 0, Value.int .i64 0] rfl (by kernel_rfl) (by kernel_rfl) (by kernel_rfl)
      (OpenSpec.preRow_of_cond 8 hx (by kernel_rfl) (fun k hk => by cases hk) (by kernel_rfl) (beeNil_met os))) ?_
  intro W base args ds gs before hval0 hW _ _ _ hL _ _
  have hval : ∀ (j : Nat) t v, Tryz.f3.params[j]? = some t → args[j]? = some v → Value.okWide Tryz.prog W .any base t v := hval0
  have hW' := hW
  obtain ⟨p, q, hA0, hV, rfl, _, _⟩ := hW
  have hA : DataW.TrodAll enc Tryz.prog W 0 (fun _ => true) true Tryz.f3.params.toList args.toList ds p := hA0
  rw [Tryz.params3] at hA hval
  obtain ⟨v0, vs0, d0, ds0, p0, q0, hargs, rfl, rfl, h0, r0⟩ := trodAll_cons hA
  obtain ⟨v1, vs1, d1, ds1, p1, q1, rfl, rfl, rfl, h1, r1⟩ := trodAll_cons r0
  obtain ⟨v2, vs2, d2, ds2, p2, q2, rfl, rfl, rfl, h2, r2⟩ := trodAll_cons r1
  obtain ⟨rfl, rfl, rfl⟩ := trodAll_nil r2
  obtain rfl : args = #[v0, v1, v2] := by cases args; simp_all
  obtain ⟨rfl, rfl⟩ := trodVars_none hV
  clear hA0 hval0 hargs
  simp only [List.append_nil] at hW'
  have hlt := hW'.lt
  have t0 := fun (W' : World) (hn : Below W.heap.size W W') => Below.trod Tryz.laidOut (by kernel_rfl) (of_decide_eq_true (by kernel_rfl)) h0 hn (fun x hx => by simpa using hlt x (by simp [hx]))
  have t1 := fun (W' : World) (hn : Below W.heap.size W W') => Below.trod Tryz.laidOut (by kernel_rfl) (of_decide_eq_true (by kernel_rfl)) h1 hn (fun x hx => by simpa using hlt x (by simp [hx]))
  have t2 := fun (W' : World) (hn : Below W.heap.size W W') => Below.trod Tryz.laidOut (by kernel_rfl) (of_decide_eq_true (by kernel_rfl)) h2 hn (fun x hx => by simpa using hlt x (by simp [hx]))
  obtain ⟨g0, sr0, S0⟩ := plan_in (hval 0 28 v0 rfl rfl) h0
  obtain ⟨a1, rfl, rfl, rfl, wa1⟩ := open_int Tryz.underlying3 (hval 1 3 v1 rfl rfl) h1
  obtain ⟨a2, rfl, rfl, rfl, wa2⟩ := open_int Tryz.underlying3 (hval 2 3 v2 rfl rfl) h2
  have hcall : Calls Tryz.prog 3 #[v0, .int .i64 a1, .int .i64 a2] W (Rets (.bool true) (fun w' => Chg (fun _ => False) W w')) := beeNil_any g0 sr0 v0 a1 a2 W S0 (words_of hL)
  refine hcall.mono fun e W' ⟨he, hc⟩ => ?_
  subst he
  have hn : Below W.heap.size W W' := hc.below (Nat.le_refl _) (fun _ _ h => h)
  exact ⟨_, rfl, _, _, _, [], _, [], hW', trodAll_mk1 (shut_bool Tryz.underlying4 true), (trodAll_cons_mk (t0 W' hn) (trodAll_cons_mk (t1 W' hn) (trodAll_cons_mk (t2 W' hn) trodAll_mk0))), rfl, hn.frame _, fun h => by cases h⟩
set_option maxHeartbeats 40000000 in
theorem beeNil_closed : joinedFacts Tryz.pinned.checked.prog 3 Tryz.f3 (OpenSpec.ofChange Rows.beeNilSpec).bare Rows.beeNilRow = true := by
  unfold joinedFacts
  simp only [Bool.and_eq_true]
  repeat' apply And.intro
  all_goals as_aux_lemma => kernel_rfl
theorem beeNil_said : Rows.BeeNilSaid :=
  OpenClaim.holds_of_cond 3 Tryz.f3 rfl rfl rfl rfl rfl rfl rfl ⟨rfl, rfl, rfl, rfl, rfl⟩ rfl rfl rfl rfl rfl (by kernel_rfl) Tryz.func3 beeNil_closed
    (of_decide_eq_true (by kernel_rfl)) (by unfold Func.isWrapper; first | (rw [if_pos (by decide +kernel)]; kernel_rfl) | (rw [if_neg (by decide +kernel)]; exact ⟨rfl, rfl⟩))
    (fun os started H enc _ F => by rw [OpenClaim.pre_eq_preRow]; exact beeNil_lifted os started H enc F)
theorem beeNil_plain (f : FuncId) (fn : Func) (hf : Tryz.pinned.checked.prog.funcNamed "apiary/apiarylaw22.BeeNil" = some f) (hfn : Tryz.pinned.checked.prog.funcs[f]? = some fn) :
    false = Tryz.pinned.checked.prog.looks [] ∧ ∀ (j : Nat) t, fn.params[j]? = some t → Tryz.pinned.checked.prog.wantsStandIn t = false := by
  obtain rfl : f = 3 := Option.some.inj ((show Tryz.prog.funcNamed "apiary/apiarylaw22.BeeNil" = some 3 by kernel_rfl).symm.trans hf) |>.symm
  obtain rfl : fn = Tryz.f3 := (Option.some.inj (Tryz.func3.symm.trans hfn)).symm
  refine ⟨by kernel_rfl, fun j t ht => ?_⟩
  rw [Tryz.params3] at ht
  have hm := Array.mem_of_getElem? ht
  simp only [Array.mem_def, List.mem_cons, List.not_mem_nil, or_false] at hm
  rcases hm with rfl | rfl | rfl
  · exact (show Tryz.prog.wantsStandIn 28 = false by kernel_rfl)
  · exact (show Tryz.prog.wantsStandIn 3 = false by kernel_rfl)
  · exact (show Tryz.prog.wantsStandIn 3 = false by kernel_rfl)

/-- BeeNil: a node that there isn't says so, and holds nothing; one that can't be isn't opened; behind a loss of power an elder one does nothing more: for every build with its sources and all numbers the law returns true; the tables of the program's library and of stamp as the program's text lays them. -/
theorem beeNil_card : Rows.BeeNilCardSaid :=
  Claim7.holds_tied_plain_at .later [] _ _ _ _ beeNil_said (fun _ h => by cases h) (by kernel_rfl) (fun _ h => by cases h) beeNil_row_tie rfl ⟨rfl, rfl⟩ (by kernel_rfl) rfl beeNil_plain (no_goes none_goes _ rfl)
#print axioms beeNil_card
end Go.Proofs.YtijiggolphppbaaGreatDoor
