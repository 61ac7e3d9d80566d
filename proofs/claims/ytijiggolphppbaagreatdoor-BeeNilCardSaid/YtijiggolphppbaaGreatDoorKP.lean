/- The tables are the program's. -/
import Derived.Test.YtijiggolphppbaaGreatDoorKChk
import Derived.Test.YtijiggolphppbaaGreatDoorKTy
import Derived.Test.YtijiggolphppbaaGreatDoorKFn
namespace Go.Proofs.YtijiggolphppbaaGreatDoor.Ev
open Go Go.Proofs Go.Proofs.YtijiggolphppbaaGreatDoor
theorem tys_ok : TysR Tryz.prog g := by
  intro t u h
  have h1 : tyT.get t = some u := h
  rw [tyT_eq] at h1
  exact tysB_ok tys_all _ (buildT_mem low_ty h1)
theorem fns_ok (g' : Prg) (hty : g'.ty = g.ty) (hfn : g'.fn = g.fn) : ∀ f F, g'.fn f = some F → FnOk Tryz.prog g' f F := by
  intro f F h
  rw [hfn] at h
  have h1 : fnT.get f = some F := h
  rw [fnT_eq] at h1
  have h2 := buildT_mem low_fn h1
  obtain ⟨x, hx, e⟩ := List.mem_map.1 h2
  simp only [Prod.mk.injEq] at e
  obtain ⟨rfl, rfl⟩ := e
  obtain ⟨fn, q1, q2, q3, q4, q5, q6⟩ := fnB_ok (at_all.mem x hx) (fnsB_ok fns_all x.2 (List.mem_map.2 ⟨x, hx, rfl⟩))
  exact ⟨fn, q1, q2, q3, q4, q5, by rw [codeOk_ty hty]; exact q6⟩
theorem prg0 : PrgR Tryz.prog g0 Words where
  tys := tys_ok
  fns := fns_ok g0 rfl rfl
  known f k hk := by
    have h : known0 f = some k := hk
    unfold known0 at h
    simp only [Bool.cond_eq_ite] at h
    split at h
    · rename_i e; rw [beq_eq.1 e]; cases h; exact fun args σ v σ' => of_ok
    split at h
    · rename_i e; rw [beq_eq.1 e]; cases h; exact fun args σ v σ' => byte_ok
    split at h
    · rename_i e; rw [beq_eq.1 e]; cases h; exact fun args σ v σ' => noEsc_ok
    split at h
    · rename_i e; rw [beq_eq.1 e]; cases h; exact fun args σ v σ' => join_ok
    split at h
    · rename_i e; rw [beq_eq.1 e]; cases h; exact fun args σ v σ' => sort_ok
    · cases h
  mixed := by kernel_rfl
set_option maxRecDepth 1000000 in
theorem sortNil : runB g0 10000 137 [.sl none 0 0, .fn (.func 138) [] []] ⟨.leaf, 7⟩ (.tup []) ⟨.leaf, 7⟩ = true := by kernel_rfl
theorem sortNil_ok : CallOut Tryz.prog Words 137 [.sl none 0 0, .fn (.func 138) [] []] ⟨.leaf, 7⟩ (.tup []) ⟨.leaf, 7⟩ := runB_ok prg0 sortNil
end Go.Proofs.YtijiggolphppbaaGreatDoor.Ev
