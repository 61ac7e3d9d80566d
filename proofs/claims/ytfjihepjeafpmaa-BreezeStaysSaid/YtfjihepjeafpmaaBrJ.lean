/- BreezeStays: what is taken away, copied or turned changes nothing of the other loads, nor of their order: for every list of texts and all numbers the law returns true. No condition. -/
import Derived.Test.YtfjihepjeafpmaaBrI
import Derived.Test.YtfjihepjeafpmaaOpen
namespace Go.Proofs.Ytfjihepjeafpmaa
open Go.ChangeShapes Go.WideShapes Go.ChangeAt Go.RowKit

set_option maxRecDepth 100000 in
theorem breezeStays_lifted (os : Os) (started : os.Started) (H : Type) (enc : TypeId × Value → H) :
    ReturnsInHanded {} Try.checked os 4 .any (Rows.breezeStaysSpec.pre6 enc Try.prog Try.f4 Rows.breezeStaysRow.domain false) (Rows.breezeStaysSpec.post enc Try.prog Try.f4 false true false false) := by
  refine returnsInHanded_of_change_sized (C := Try.checked) Try.own started (by kernel_rfl) Try.func4
    (ChangeSpec.witness6 (enc := enc) (C := Try.checked) false ⟨#[], #[.slice none 0 0, .int .i64 0, .int .i64 0], []⟩ 8 (by kernel_rfl) (by kernel_rfl) (by kernel_rfl) (by kernel_rfl)) ?_
  intro W base args ds gs before hval0 hW _ hsz0 _
  clear hsz0
  have hval : ∀ (j : Nat) t v, Try.f4.params[j]? = some t → args[j]? = some v → Value.okWide Try.prog W .any base t v := hval0
  have hW' := hW
  obtain ⟨p, q, hA0, hV, rfl, _, _⟩ := hW
  have hA : DataW.TrodAll enc Try.prog W 0 (fun _ => true) true Try.f4.params.toList args.toList ds p := hA0
  rw [Try.params4] at hA hval
  obtain ⟨v0, vs0, d0, ds0, p0, q0, hargs, rfl, rfl, h0, r0⟩ := trodAll_cons hA
  obtain ⟨v1, vs1, d1, ds1, p1, q1, rfl, rfl, rfl, h1, r1⟩ := trodAll_cons r0
  obtain ⟨v2, vs2, d2, ds2, p2, q2, rfl, rfl, rfl, h2, r2⟩ := trodAll_cons r1
  obtain ⟨rfl, rfl, rfl⟩ := trodAll_nil r2
  obtain rfl : args = #[v0, v1, v2] := by cases args; simp_all
  obtain ⟨rfl, rfl⟩ := trodVars_none hV
  clear hA0 hval0 hargs
  simp only [List.append_nil] at hW'
  have hlt := hW'.lt
  have t0 := fun (W' : World) (hn : Below W.heap.size W W') => Below.trod Try.laidOut (by kernel_rfl) (of_decide_eq_true (by kernel_rfl)) h0 hn (fun x hx => by simpa using hlt x (by simp [hx]))
  have t1 := fun (W' : World) (hn : Below W.heap.size W W') => Below.trod Try.laidOut (by kernel_rfl) (of_decide_eq_true (by kernel_rfl)) h1 hn (fun x hx => by simpa using hlt x (by simp [hx]))
  have t2 := fun (W' : World) (hn : Below W.heap.size W W') => Below.trod Try.laidOut (by kernel_rfl) (of_decide_eq_true (by kernel_rfl)) h2 hn (fun x hx => by simpa using hlt x (by simp [hx]))
  obtain ⟨ss0, S0⟩ := strsAt_of Try.underlying22 Try.underlying9 (by kernel_rfl) (hval 0 22 v0 rfl rfl) h0
  obtain ⟨a1, rfl, rfl, rfl, wa1⟩ := open_int Try.underlying3 (hval 1 3 v1 rfl rfl) h1
  obtain ⟨a2, rfl, rfl, rfl, wa2⟩ := open_int Try.underlying3 (hval 2 3 v2 rfl rfl) h2
  have hcall : Calls Try.prog 4 #[v0, .int .i64 a1, .int .i64 a2] W (Rets (.bool true) (fun w' => Chg (fun _ => False) W w')) := stays_any W v0 ss0 S0 a1 a2
  refine hcall.mono fun e W' ⟨he, hc⟩ => ?_
  subst he
  have hn : Below W.heap.size W W' := hc.below (Nat.le_refl _) (fun _ _ h => h)
  exact ⟨_, rfl, _, _, _, [], _, [], hW', trodAll_mk1 (shut_bool Try.underlying4 true), (trodAll_cons_mk (t0 W' hn) (trodAll_cons_mk (t1 W' hn) (trodAll_cons_mk (t2 W' hn) trodAll_mk0))), rfl, hn.frame _, fun h => by cases h⟩

/-- BreezeStays: what is taken away, copied or turned changes nothing of the other loads, nor of their order: for every list of texts and all numbers the law returns true. No condition. -/
theorem breezeStays_holds : Rows.BreezeStaysSaid :=
  OpenClaim.holds_of_wide 4 Try.f4 rfl rfl rfl rfl rfl rfl rfl ⟨rfl, rfl, rfl, rfl, rfl⟩ rfl rfl rfl rfl rfl (by kernel_rfl) Try.func4 (by kernel_rfl)
    (of_decide_eq_true (by kernel_rfl)) (by unfold Func.isWrapper; rw [if_neg (of_decide_eq_false (by kernel_rfl))]; exact ⟨rfl, rfl⟩)
    (fun os started H enc _ => breezeStays_lifted os started H enc)
#print axioms breezeStays_holds
end Go.Proofs.Ytfjihepjeafpmaa
