/- BreezeExact: of every row of calls each answer is what the document says: for every row of acts the law returns true. No condition. -/
import Derived.Test.YtfjihepjeafpmaaBrX
namespace Go.Proofs.Ytfjihepjeafpmaa
open Go.ChangeShapes Go.WideShapes Go.ChangeAt Go.RowKit

set_option maxRecDepth 100000 in
theorem breezeExact_lifted (os : Os) (started : os.Started) (H : Type) (enc : TypeId × Value → H) :
    ReturnsInHanded {} Try.checked os 5 .any (Rows.breezeExactSpec.pre6 enc Try.prog Try.f5 Rows.breezeExactRow.domain false) (Rows.breezeExactSpec.post enc Try.prog Try.f5 false true false false) := by
  refine returnsInHanded_of_change_sized (C := Try.checked) Try.own started (by kernel_rfl) Try.func5
    (ChangeSpec.witness6 (enc := enc) (C := Try.checked) false ⟨#[], #[.slice none 0 0], []⟩ 8 (by kernel_rfl) (by kernel_rfl) (by kernel_rfl) (by kernel_rfl)) ?_
  intro W base args ds gs before hval0 hW _ hsz0 _
  clear hsz0
  have hval : ∀ (j : Nat) t v, Try.f5.params[j]? = some t → args[j]? = some v → Value.okWide Try.prog W .any base t v := hval0
  have hW' := hW
  obtain ⟨p, q, hA0, hV, rfl, _, _⟩ := hW
  have hA : DataW.TrodAll enc Try.prog W 0 (fun _ => true) true Try.f5.params.toList args.toList ds p := hA0
  rw [Try.params5] at hA hval
  obtain ⟨v0, vs0, d0, ds0, p0, q0, hargs, rfl, rfl, h0, r0⟩ := trodAll_cons hA
  obtain ⟨rfl, rfl, rfl⟩ := trodAll_nil r0
  obtain rfl : args = #[v0] := by cases args; simp_all
  obtain ⟨rfl, rfl⟩ := trodVars_none hV
  clear hA0 hval0 hargs
  simp only [List.append_nil] at hW'
  have hlt := hW'.lt
  have t0 := fun (W' : World) (hn : Below W.heap.size W W') => Below.trod Try.laidOut (by kernel_rfl) (of_decide_eq_true (by kernel_rfl)) h0 hn (fun x hx => by simpa using hlt x (by simp [hx]))
  obtain ⟨xs0, S0⟩ := acts_of (hval 0 37 v0 rfl rfl) h0
  have hcall : Calls Try.prog 5 #[v0] W (Rets (.bool true) (fun w' => Chg (fun _ => False) W w')) := exact_walk W v0 xs0 S0
  refine hcall.mono fun e W' ⟨he, hc⟩ => ?_
  subst he
  have hn : Below W.heap.size W W' := hc.below (Nat.le_refl _) (fun _ _ h => h)
  exact ⟨_, rfl, _, _, _, [], _, [], hW', trodAll_mk1 (shut_bool Try.underlying4 true), (trodAll_cons_mk (t0 W' hn) trodAll_mk0), rfl, hn.frame _, fun h => by cases h⟩

/-- BreezeExact: of every row of calls each answer is what the document says: for every row of acts the law returns true. No condition. -/
theorem breezeExact_holds : Rows.BreezeExactSaid :=
  OpenClaim.holds_of_wide 5 Try.f5 rfl rfl rfl rfl rfl rfl rfl ⟨rfl, rfl, rfl, rfl, rfl⟩ rfl rfl rfl rfl rfl (by kernel_rfl) Try.func5 (by kernel_rfl)
    (of_decide_eq_true (by kernel_rfl)) (by unfold Func.isWrapper; rw [if_neg (of_decide_eq_false (by kernel_rfl))]; exact ⟨rfl, rfl⟩)
    (fun os started H enc _ => breezeExact_lifted os started H enc)
#print axioms breezeExact_holds
end Go.Proofs.Ytfjihepjeafpmaa
