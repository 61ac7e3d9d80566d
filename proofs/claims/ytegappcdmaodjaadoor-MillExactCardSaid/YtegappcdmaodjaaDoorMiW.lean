/- apiarylaw06.awake answers true. -/
import Derived.Test.YtegappcdmaodjaaDoorMiR
import Derived.Test.YtegappcdmaodjaaDoorMiM
namespace Go.Proofs.YtegappcdmaodjaaDoor
open Go.RowKit

theorem TabsOK.up {w w' : World} (h : TabsOK w.heap.size w) (hc : Chg (fun _ => False) w w') : TabsOK w'.heap.size w' :=
  have h2 : TabsOK w.heap.size w' := h.chg (hc.mono (fun _ _ h => h.elim))
  ⟨h2.pow, h2.wds, Nat.lt_of_lt_of_le h2.gp hc.size, Nat.lt_of_lt_of_le h2.gw hc.size⟩

def cA : ByteArray := { data := #[105, 0, 105, 1, 99] }
def cB : ByteArray := { data := #[103, 0] }
def cC : ByteArray := { data := #[112, 2, 103, 111, 120] }
def tA : ByteArray := { data := #[97, 98] }
def tB : ByteArray := { data := #[99, 100] }
def tC : ByteArray := { data := #[97, 98, 99, 100] }
def tD : ByteArray := { data := #[112, 2, 103, 111] }
theorem outA (H : ByteArray → ByteArray) : runOut H cA [tA, tB] = ((0, tC), 3) := by kernel_rfl
theorem outB (H : ByteArray → ByteArray) : runOut H cB [] = ((30, .empty), 300) := by kernel_rfl
theorem outC : stepsOut cC = some [tD, { data := #[120] }] := by kernel_rfl
theorem noA : ∀ i (h : i < cA.size), cA[i] ≠ 104 := by decide
theorem noB : ∀ i (h : i < cB.size), cB[i] ≠ 104 := by decide

set_option maxRecDepth 100000 in
set_option maxHeartbeats 4000000 in
theorem awake_any (w : World) (hT : TabsOK w.heap.size w) : Calls Tryd.prog 10 #[] w (Rets (.bool true) (Chg (fun _ => False) w)) := by
  have hc0 : Chg (fun _ => False) w (w.alloc (.cells #[.string tA, .string tB] 9)) := (Chg.refl _ w).alloc _
  have hr1 := run_any (fun x => x) cA (by decide) (.slice (some ⟨w.heap.size, 0, none⟩) 2 2) [tA, tB] (w.alloc (.cells #[.string tA, .string tB] 9))
    ⟨.inr ⟨⟨w.heap.size, 0, none⟩, 2, rfl, fun i hi => by rw [show (⟨w.heap.size, 0, none⟩ : Addr).add i = ⟨w.heap.size, i, none⟩ by unfold Addr.add; split <;> simp_all, cell_of (heap_alloc_new w _)]; match i, hi with | 0, _ => rfl | 1, _ => rfl⟩, by decide, by decide⟩ (hT.up hc0) (.inl noA)
  rw [outA] at hr1
  have hr2 : ∀ W, TabsOK W.heap.size W → Calls Tryd.prog 11 #[.string cB, .slice none 0 0] W (Rets (.tuple #[resV 30 .empty, .int .i64 300]) (Chg (fun _ => False) W)) := fun W hW => by
    have := run_any (fun x => x) cB (by decide) (.slice none 0 0) [] W ⟨.inl ⟨rfl, rfl⟩, by decide, by simp⟩ hW (.inl noB)
    rw [outB] at this
    exact this
  have hr3 : ∀ W, Calls Tryd.prog 13 #[.string cC] W (fun e w' => ∃ v, e = .returned (.tuple #[v, .int .i64 0]) ∧ w'.ownsRow 0 9 1 v 2 [.string tD, .string { data := #[120] }] ∧ Chg (fun _ => False) W w') := fun W => by
    refine (steps_any cC (by decide) W).mono ?_
    rintro e w' ⟨hch, h | h | ⟨_, l, hl, v, rfl, ho, _⟩⟩
    · exact absurd h.1 (by decide)
    · rw [outC] at h; exact absurd h.2.1 (by simp)
    · rw [outC] at hl
      cases hl
      exact ⟨v, rfl, ho, hch⟩
  unfold resV at hr1 hr2
  unfold cA tA tB tC at hr1
  unfold cB at hr2
  unfold cC tD at hr3
  have HT := hid hT
  clear hT
  go_enter Tryd.func10, Tryd.ntmps10
  go_wp2_with (first | (go_at_call 11; refine hr1.mono ?_; rintro e w1 ⟨rfl, hch1⟩; clear hr1) | (go_at_call 11; refine (hr2 _ (HT.out.up ((hc0.trans hch1 (fun _ _ h => h)).alloc _))).mono ?_; rintro e w2 ⟨rfl, hch2⟩; have b1 := hch2.obj (heap_alloc_new w1 _) (fun h => h); have b1c0 := cell_of b1 0; have b1c1 := cell_of b1 1) | (go_at_call 13; refine (hr3 _).mono ?_; rintro e w3 ⟨v, rfl, ho, hch3⟩; obtain ⟨g, cap, rfl, hcap, hgl⟩ := owns_some ho (by decide); have k0 : w3.cell? ⟨g, 0, none⟩ = some (.string tD) := ho.cellAt 0 (by decide); have b2 := hch3.obj (heap_alloc_new w2 _) (fun h => h); have b2c0 := cell_of b2 0; have b1' := hch3.obj (heap_alloc_old' b1 _) (fun h => h); have b1d0 := cell_of b1' 0; have b1d1 := cell_of b1' 1))
  have e : (tD.toList == [112, 2, 103, 111]) = true := by decide +kernel
  rw [e]
  go_ret
  exact ⟨rfl, ((((hc0.trans hch1 (fun _ _ h => h)).alloc _).trans hch2 (fun _ _ h => h)).alloc _).trans hch3 (fun _ _ h => h)⟩
end Go.Proofs.YtegappcdmaodjaaDoor
