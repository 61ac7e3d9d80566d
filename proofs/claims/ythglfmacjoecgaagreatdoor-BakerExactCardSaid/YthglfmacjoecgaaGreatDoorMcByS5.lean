/- BakerExact: of every row of calls each answer, the next job, and all results are what the document says: for every two builds with their sources, every row of calls the law returns true; the tables of the program's library and of stamp as the program's text lays them. -/
import Derived.Test.YthglfmacjoecgaaGreatDoorMx15
import Derived.Test.YthglfmacjoecgaaGreatDoorMx19
namespace Go.Proofs.YthglfmacjoecgaaGreatDoor
open Go.ChangeShapes Go.WideShapes Go.ChangeAt Go.RowKit

theorem bakerExact_met (os : Os) : laidMet Tryz.prog Rows.bakerExactRow.laid ((laidW os).forCall (fun _ _ => 0) ⟨#[], #[Value.agg #[.slice none 0 0, .slice none 0 0, .slice none 0 0], Value.agg #[.slice none 0 0, .slice none 0 0, .slice none 0 0], Value.slice none 0 0], []⟩).memory :=
  laidMet_of_run' 8 (by kernel_rfl) (by kernel_rfl)
theorem bakerExact_reads (os : Os) {H : Type} (enc : TypeId × Value → H) : ∃ places, DataW.whole enc Tryz.prog ((laidW os).forCall (fun _ _ => 0) ⟨#[], #[Value.agg #[.slice none 0 0, .slice none 0 0, .slice none 0 0], Value.agg #[.slice none 0 0, .slice none 0 0, .slice none 0 0], Value.slice none 0 0], []⟩).memory Tryz.f11.params.toList Rows.bakerExactSpec.vars false #[Value.agg #[.slice none 0 0, .slice none 0 0, .slice none 0 0], Value.agg #[.slice none 0 0, .slice none 0 0, .slice none 0 0], Value.slice none 0 0].toList 8 = some ([.agg [.agg [.nil, .nil], .nil], .agg [.agg [.nil, .nil], .nil], .nil], [], places) :=
  ⟨[], by kernel_rfl⟩
set_option maxRecDepth 100000 in
set_option maxHeartbeats 4000000 in
theorem bakerExact_lifted (os : Os) (started : os.Started) (H : Type) (enc : TypeId × Value → H) (F : Stop.Interp) :
    ReturnsInHanded {} Tryz.checked os 11 .any ((OpenSpec.ofChange Rows.bakerExactSpec).preRow enc Tryz.prog Tryz.f11 Rows.bakerExactRow.domain false Rows.bakerExactRow.laid) (((OpenSpec.ofChange Rows.bakerExactSpec).at F).post enc Tryz.prog Tryz.f11 false true false false) := by
  obtain ⟨places, hx⟩ := bakerExact_reads os enc
  refine returnsInHanded_of_row (C := Tryz.checked) (s := OpenSpec.ofChange Rows.bakerExactSpec) Tryz.own started (by kernel_rfl) Tryz.func11
    (witness_row_at (enc := enc) (C := Tryz.checked) false (laidW os) #[Value.agg #[.slice none 0 0, .slice none 0 0, .slice none 0 0], Value.agg #[.slice none 0 0, .slice none 0 0, .slice none 0 0], Value.slice none 0 0] rfl (by kernel_rfl) (by kernel_rfl) (by kernel_rfl)
      (OpenSpec.preRow_of_cond 8 hx (by kernel_rfl) (fun k hk => by cases hk) (by kernel_rfl) (bakerExact_met os))) ?_
  intro W base args ds gs before hval0 hW _ _ _ hL _ _
  have hval : ∀ (j : Nat) t v, Tryz.f11.params[j]? = some t → args[j]? = some v → Value.okWide Tryz.prog W .any base t v := hval0
  have hW' := hW
  obtain ⟨p, q, hA0, hV, rfl, _, _⟩ := hW
  have hA : DataW.TrodAll enc Tryz.prog W 0 (fun _ => true) true Tryz.f11.params.toList args.toList ds p := hA0
  rw [Tryz.params11] at hA hval
  obtain ⟨v0, vs0, d0, ds0, p0, q0, hargs, rfl, rfl, h0, r0⟩ := trodAll_cons hA
  obtain ⟨v1, vs1, d1, ds1, p1, q1, rfl, rfl, rfl, h1, r1⟩ := trodAll_cons r0
  obtain ⟨v2, vs2, d2, ds2, p2, q2, rfl, rfl, rfl, h2, r2⟩ := trodAll_cons r1
  obtain ⟨rfl, rfl, rfl⟩ := trodAll_nil r2
  obtain rfl : args = #[v0, v1, v2] := by cases args; simp_all
  obtain ⟨rfl, rfl⟩ := trodVars_none hV
  clear hA0 hval0 hargs
  simp only [List.append_nil] at hW'
  have hlt := hW'.lt
  have t0 := fun (W' : World) (hn : Below W.heap.size W W') => Below.trod Tryz.laidOut (by kernel_rfl) (of_decide_eq_true (by kernel_rfl)) h0 hn (fun x hx => by simpa using hlt x (by simp [hx]))
  have t1 := fun (W' : World) (hn : Below W.heap.size W W') => Below.trod Tryz.laidOut (by kernel_rfl) (of_decide_eq_true (by kernel_rfl)) h1 hn (fun x hx => by simpa using hlt x (by simp [hx]))
  have t2 := fun (W' : World) (hn : Below W.heap.size W W') => Below.trod Tryz.laidOut (by kernel_rfl) (of_decide_eq_true (by kernel_rfl)) h2 hn (fun x hx => by simpa using hlt x (by simp [hx]))
  obtain ⟨g0, sr0, S0⟩ := plan_in (hval 0 79 v0 rfl rfl) h0
  obtain ⟨g1, sr1, S1⟩ := plan_in (hval 1 79 v1 rfl rfl) h1
  obtain ⟨xs2, S2⟩ := actxs_in (hval 2 92 v2 rfl rfl) h2
  have hcall : Calls Tryz.prog 11 #[v0, v1, v2] W (Rets (.bool true) (fun w' => Chg (fun _ => False) W w')) := bexact_any g0 sr0 g1 sr1 xs2 v0 v1 v2 W S0 S1 S2 (tabs_of hL) (Nat.le_refl _)
  refine hcall.mono fun e W' ⟨he, hc⟩ => ?_
  subst he
  have hn : Below W.heap.size W W' := hc.below (Nat.le_refl _) (fun _ _ h => h)
  exact ⟨_, rfl, _, _, _, [], _, [], hW', trodAll_mk1 (shut_bool Tryz.underlying4 true), (trodAll_cons_mk (t0 W' hn) (trodAll_cons_mk (t1 W' hn) (trodAll_cons_mk (t2 W' hn) trodAll_mk0))), rfl, hn.frame _, fun h => by cases h⟩
theorem bakerExact_said : Rows.BakerExactSaid :=
  OpenClaim.holds_of_cond 11 Tryz.f11 rfl rfl rfl rfl rfl rfl rfl ⟨rfl, rfl, rfl, rfl, rfl⟩ rfl rfl rfl rfl rfl (by kernel_rfl) Tryz.func11 (by kernel_rfl)
    (of_decide_eq_true (by kernel_rfl)) (by unfold Func.isWrapper; first | (rw [if_pos (by decide +kernel)]; kernel_rfl) | (rw [if_neg (by decide +kernel)]; exact ⟨rfl, rfl⟩))
    (fun os started H enc _ F => by rw [OpenClaim.pre_eq_preRow]; exact bakerExact_lifted os started H enc F)
theorem bakerExact_plain (f : FuncId) (fn : Func) (hf : Tryz.pinned.checked.prog.funcNamed "apiary/apiarylaw21.BakerExact" = some f) (hfn : Tryz.pinned.checked.prog.funcs[f]? = some fn) :
    false = Tryz.pinned.checked.prog.looks [] ∧ ∀ (j : Nat) t, fn.params[j]? = some t → Tryz.pinned.checked.prog.wantsStandIn t = false := by
  obtain rfl : f = 11 := Option.some.inj ((show Tryz.prog.funcNamed "apiary/apiarylaw21.BakerExact" = some 11 by kernel_rfl).symm.trans hf) |>.symm
  obtain rfl : fn = Tryz.f11 := (Option.some.inj (Tryz.func11.symm.trans hfn)).symm
  refine ⟨by kernel_rfl, fun j t ht => ?_⟩
  rw [Tryz.params11] at ht
  have hm := Array.mem_of_getElem? ht
  simp only [Array.mem_def, List.mem_cons, List.not_mem_nil, or_false] at hm
  rcases hm with rfl | rfl | rfl
  · exact (show Tryz.prog.wantsStandIn 79 = false by kernel_rfl)
  · exact (show Tryz.prog.wantsStandIn 79 = false by kernel_rfl)
  · exact (show Tryz.prog.wantsStandIn 92 = false by kernel_rfl)

/-- BakerExact: of every row of calls each answer, the next job, and all results are what the document says: for every two builds with their sources, every row of calls the law returns true; the tables of the program's library and of stamp as the program's text lays them. -/
theorem bakerExact_card : Rows.BakerExactCardSaid :=
  Claim7.holds_tied_plain_at .later [] _ _ _ _ bakerExact_said (fun _ h => by cases h) (by kernel_rfl) (fun _ h => by cases h) bakerExact_row_tie rfl ⟨rfl, rfl⟩ (by kernel_rfl) rfl bakerExact_plain (by kernel_rfl)
#print axioms bakerExact_card
end Go.Proofs.YthglfmacjoecgaaGreatDoor
