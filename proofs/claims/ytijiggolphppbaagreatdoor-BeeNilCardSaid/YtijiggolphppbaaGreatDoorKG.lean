/- (*hive.Hive).Keys: its contract; the tables with it. -/
import Derived.Test.YtijiggolphppbaaGreatDoorKE
namespace Go.Proofs.YtijiggolphppbaaGreatDoor
open Go.RowKit Go.Proofs.YtijiggolphppbaaGreatDoor.Ev
set_option maxRecDepth 100000 in
theorem hiveKeys_nil (w : World) : Calls Tryz.prog 66 #[.pointer none] w fun e w' => e = .returned (.slice none 0 0) ∧ w' = w := by
  go_enter Tryz.func66, Tryz.ntmps66
  go_wp2
  go_ret
  exact ⟨rfl, rfl⟩
theorem VRs.nilE {c : Cx} {es : List MapEntry} (h : ER c [] es) : es = [] := by cases h; rfl
theorem keys_ok {args : List AV} {σ σ' : St} {v : AV} (h : kKeys args σ = some (v, σ')) : CallOut Tryz.prog Words 66 args σ v σ' := by
  unfold kKeys at h
  split at h
  case h_1 =>
    simp only [Option.some.injEq, Prod.mk.injEq] at h
    obtain ⟨rfl, rfl⟩ := h
    intro c w ar hJ hv hs
    obtain ⟨x, rfl, hx⟩ := VRs.arr1 hv
    cases hx
    refine .inr ⟨enters_of Tryz.func66 (by kernel_rfl) rfl _ w, (hiveKeys_nil w).mono ?_⟩
    rintro e w' ⟨rfl, rfl⟩
    exact ⟨_, c, rfl, Post.refl hs, .sl0 _⟩
  case h_2 b i =>
    split at h
    case h_2 => cases h
    case h_1 r hl =>
      split at h
      case h_2 => cases h
      case h_1 hm =>
        simp only [Option.some.injEq, Prod.mk.injEq] at h
        obtain ⟨rfl, rfl⟩ := h
        intro c w ar hJ hv hs
        obtain ⟨x, rfl, hx⟩ := VRs.arr1 hv
        cases hx with
        | ptr n i hD =>
          obtain ⟨vs, q1, q2, q3⟩ := hs.range (a := (b, i + 1)) hD hl
          obtain ⟨z, rfl, hz⟩ := VRs.inv1 q1
          have hcell := q2 0 z rfl
          cases hz with
          | mp r hr =>
            unfold getMap at hm
            cases hg : σ.heap.get r with
            | none => simp [hg] at hm
            | some o =>
              cases o with
              | cells k t ty => simp [hg] at hm
              | dead => simp [hg] at hm
              | map l2 =>
                simp only [hg, Option.some.injEq] at hm
                subst hm
                obtain ⟨es, clock, g1, g2, g3⟩ := hs.maps r _ hr hg
                have hes : es = #[] := by
                  have := VRs.nilE g2
                  rw [← Array.toArray_toList (xs := es), this]
                subst hes
                have hK := callsIn_wide.1 (hiveKeys_in w (Words.sim hJ hs) (c.ρ b).1 ((c.ρ b).2 + i) (c.ρ r).1 clock hcell g1)
                refine .inr ⟨enters_of Tryz.func66 (by kernel_rfl) rfl _ w, hK.mono ?_⟩
                rintro e w' ⟨rfl, hb⟩
                exact ⟨_, c, rfl, Post.kept hs (below_kept hb), .sl0 _⟩
  case h_3 => cases h
theorem prg : PrgR Tryz.prog g Words where
  tys := tys_ok
  fns := fns_ok g rfl rfl
  known f k hk := by
    have h : known f = some k := hk
    unfold known at h
    simp only [Bool.cond_eq_ite] at h
    split at h
    · rename_i e; rw [beq_eq.1 e]; cases h; exact fun args σ v σ' => keys_ok
    · exact prg0.known f k h
  mixed := prg0.mixed
end Go.Proofs.YtijiggolphppbaaGreatDoor
