/- OvenApart: unlike codes, and unlike results of inputs, have unlike keys, as long as digests tell texts apart; like ones have one: for every two makings the law returns true; the tables of the program's library and of stamp as the program's text lays them. -/
import Derived.Test.YthglfmacjoecgaaGreatDoorMg30
import Derived.Test.YthglfmacjoecgaaGreatDoorMg32
namespace Go.Proofs.YthglfmacjoecgaaGreatDoor
open Go.ChangeShapes Go.WideShapes Go.ChangeAt Go.RowKit

theorem ovenApart_met (os : Os) : laidMet Tryz.prog Rows.ovenApartRow.laid ((laidW os).forCall (fun _ _ => 0) ⟨#[], #[Value.agg #[.string ByteArray.empty, .slice none 0 0], Value.agg #[.string ByteArray.empty, .slice none 0 0]], []⟩).memory :=
  laidMet_of_run' 8 (by kernel_rfl) (by kernel_rfl)
theorem ovenApart_reads (os : Os) {H : Type} (enc : TypeId × Value → H) : ∃ places, DataW.whole enc Tryz.prog ((laidW os).forCall (fun _ _ => 0) ⟨#[], #[Value.agg #[.string ByteArray.empty, .slice none 0 0], Value.agg #[.string ByteArray.empty, .slice none 0 0]], []⟩).memory Tryz.f6.params.toList Rows.ovenApartSpec.vars false #[Value.agg #[.string ByteArray.empty, .slice none 0 0], Value.agg #[.string ByteArray.empty, .slice none 0 0]].toList 8 = some ([.agg [.lit (.string []), .nil], .agg [.lit (.string []), .nil]], [], places) :=
  ⟨[], by kernel_rfl⟩
set_option maxRecDepth 100000 in
set_option maxHeartbeats 4000000 in
theorem ovenApart_lifted (os : Os) (started : os.Started) (H : Type) (enc : TypeId × Value → H) (F : Stop.Interp) :
    ReturnsInHanded {} Tryz.checked os 6 .any ((OpenSpec.ofChange Rows.ovenApartSpec).preRow enc Tryz.prog Tryz.f6 Rows.ovenApartRow.domain false Rows.ovenApartRow.laid) (((OpenSpec.ofChange Rows.ovenApartSpec).at F).post enc Tryz.prog Tryz.f6 false true false false) := by
  obtain ⟨places, hx⟩ := ovenApart_reads os enc
  refine returnsInHanded_of_row (C := Tryz.checked) (s := OpenSpec.ofChange Rows.ovenApartSpec) Tryz.own started (by kernel_rfl) Tryz.func6
    (witness_row_at (enc := enc) (C := Tryz.checked) false (laidW os) #[Value.agg #[.string ByteArray.empty, .slice none 0 0], Value.agg #[.string ByteArray.empty, .slice none 0 0]] rfl (by kernel_rfl) (by kernel_rfl) (by kernel_rfl)
      (OpenSpec.preRow_of_cond 8 hx (by kernel_rfl) (fun k hk => by cases hk) (by kernel_rfl) (ovenApart_met os))) ?_
  intro W base args ds gs before hval0 hW _ _ _ hL _ _
  have hval : ∀ (j : Nat) t v, Tryz.f6.params[j]? = some t → args[j]? = some v → Value.okWide Tryz.prog W .any base t v := hval0
  have hW' := hW
  obtain ⟨p, q, hA0, hV, rfl, _, _⟩ := hW
  have hA : DataW.TrodAll enc Tryz.prog W 0 (fun _ => true) true Tryz.f6.params.toList args.toList ds p := hA0
  rw [Tryz.params6] at hA hval
  obtain ⟨v0, vs0, d0, ds0, p0, q0, hargs, rfl, rfl, h0, r0⟩ := trodAll_cons hA
  obtain ⟨v1, vs1, d1, ds1, p1, q1, rfl, rfl, rfl, h1, r1⟩ := trodAll_cons r0
  obtain ⟨rfl, rfl, rfl⟩ := trodAll_nil r1
  obtain rfl : args = #[v0, v1] := by cases args; simp_all
  obtain ⟨rfl, rfl⟩ := trodVars_none hV
  clear hA0 hval0 hargs
  simp only [List.append_nil] at hW'
  have hlt := hW'.lt
  have t0 := fun (W' : World) (hn : Below W.heap.size W W') => Below.trod Tryz.laidOut (by kernel_rfl) (of_decide_eq_true (by kernel_rfl)) h0 hn (fun x hx => by simpa using hlt x (by simp [hx]))
  have t1 := fun (W' : World) (hn : Below W.heap.size W W') => Below.trod Tryz.laidOut (by kernel_rfl) (of_decide_eq_true (by kernel_rfl)) h1 hn (fun x hx => by simpa using hlt x (by simp [hx]))
  obtain ⟨c0, u0, rs0, rfl, wc0, S0, W0⟩ := making_in (hval 0 60 v0 rfl rfl) h0
  obtain ⟨c1, u1, rs1, rfl, wc1, S1, W1⟩ := making_in (hval 1 60 v1 rfl rfl) h1
  have hcall : Calls Tryz.prog 6 #[.agg #[.string c0, u0], .agg #[.string c1, u1]] W (Rets (.bool true) (fun w' => Chg (fun _ => False) W w')) := oapart_any c0 c1 wc0 wc1 rs0 rs1 W0 W1 u0 u1 W S0 S1 (tabs_of hL) (Nat.le_refl _)
  refine hcall.mono fun e W' ⟨he, hc⟩ => ?_
  subst he
  have hn : Below W.heap.size W W' := hc.below (Nat.le_refl _) (fun _ _ h => h)
  exact ⟨_, rfl, _, _, _, [], _, [], hW', trodAll_mk1 (shut_bool Tryz.underlying4 true), (trodAll_cons_mk (t0 W' hn) (trodAll_cons_mk (t1 W' hn) trodAll_mk0)), rfl, hn.frame _, fun h => by cases h⟩
theorem ovenApart_said : Rows.OvenApartSaid :=
  OpenClaim.holds_of_cond 6 Tryz.f6 rfl rfl rfl rfl rfl rfl rfl ⟨rfl, rfl, rfl, rfl, rfl⟩ rfl rfl rfl rfl rfl (by kernel_rfl) Tryz.func6 (by kernel_rfl)
    (of_decide_eq_true (by kernel_rfl)) (by unfold Func.isWrapper; first | (rw [if_pos (by decide +kernel)]; kernel_rfl) | (rw [if_neg (by decide +kernel)]; exact ⟨rfl, rfl⟩))
    (fun os started H enc _ F => by rw [OpenClaim.pre_eq_preRow]; exact ovenApart_lifted os started H enc F)
theorem ovenApart_plain (f : FuncId) (fn : Func) (hf : Tryz.pinned.checked.prog.funcNamed "apiary/apiarylaw09.OvenApart" = some f) (hfn : Tryz.pinned.checked.prog.funcs[f]? = some fn) :
    false = Tryz.pinned.checked.prog.looks [] ∧ ∀ (j : Nat) t, fn.params[j]? = some t → Tryz.pinned.checked.prog.wantsStandIn t = false := by
  obtain rfl : f = 6 := Option.some.inj ((show Tryz.prog.funcNamed "apiary/apiarylaw09.OvenApart" = some 6 by kernel_rfl).symm.trans hf) |>.symm
  obtain rfl : fn = Tryz.f6 := (Option.some.inj (Tryz.func6.symm.trans hfn)).symm
  refine ⟨by kernel_rfl, fun j t ht => ?_⟩
  rw [Tryz.params6] at ht
  have hm := Array.mem_of_getElem? ht
  simp only [Array.mem_def, List.mem_cons, List.not_mem_nil, or_false] at hm
  rcases hm with rfl | rfl
  · exact (show Tryz.prog.wantsStandIn 60 = false by kernel_rfl)
  · exact (show Tryz.prog.wantsStandIn 60 = false by kernel_rfl)

/-- OvenApart: unlike codes, and unlike results of inputs, have unlike keys, as long as digests tell texts apart; like ones have one: for every two makings the law returns true; the tables of the program's library and of stamp as the program's text lays them. -/
theorem ovenApart_card : Rows.OvenApartCardSaid :=
  Claim7.holds_tied_plain_at .later [] _ _ _ _ ovenApart_said (fun _ h => by cases h) (by kernel_rfl) (fun _ h => by cases h) ovenApart_row_tie rfl ⟨rfl, rfl⟩ (by kernel_rfl) rfl ovenApart_plain (by kernel_rfl)
#print axioms ovenApart_card
end Go.Proofs.YthglfmacjoecgaaGreatDoor
