/- mill.step's letter 'h' walked. -/
import Derived.Test.YtegappcdmaodjaaDoorMiJ
import Derived.Test.YtegappcdmaodjaaDoorStH
import Derived.StillTailTactics
import Derived.Deep.RegionHeld3
namespace Go.Proofs.YtegappcdmaodjaaDoor
open Go.RowKit

/-- A text's digest, as a text. -/
def hashS (s : ByteArray) : ByteArray := ⟨((List.range 32).map (ofB [s])).toArray⟩
theorem hashS_size (s : ByteArray) : (hashS s).size = 32 := by
  show (((List.range 32).map (ofB [s])).toArray).size = 32
  simp
theorem hashS_get (s : ByteArray) (i : Nat) (h : i < (hashS s).size) : (hashS s)[i] = ofB [s] i := by
  have h2 : i < 32 := by rw [hashS_size] at h; exact h
  have e : (hashS s).data[i]? = some (ofB [s] i) := by
    unfold hashS
    simp [h2]
  exact (Array.getElem?_eq_some_iff.1 e).2

set_option maxRecDepth 100000 in
set_option maxHeartbeats 2000000 in
theorem step_h : StepH hashS := by
  intro B w b v code inV at_ r p0 h hB hr h0 hat s hs1 hs2 hc hT
  have hc' : ((s[0].toNat : Nat) : Int) = 104 := by rw [hc]; rfl
  have htk : ∀ w : World, Calls Tryd.prog 31 #[.int .u8 104] w (Rets (.int .i64 1) (fun w' => w = w')) := fun w => takes_any 104 w
  have hpop := mpops h.drew hB 1 rfl (by omega) (by omega)
  have hs0 : (0 : Int) < s.size := by omega
  go_enter Tryd.func21, Tryd.ntmps21
  go_wp2_with (go_at_call 30; refine (number_any s _ (by unfold maxLen; omega)).mono ?_; rintro e w' ⟨rfl, rfl⟩)
  go_region_held3 (fun _ => True) (trivial) (first | (go_at_call 31; refine (htk _).mono ?_; rintro e w' ⟨rfl, rfl⟩) | (go_at_call 28; refine hpop.mono ?_; rintro e w1 ⟨lv, rfl, hch1, hlv, v1, hM1, hv1⟩))
  have c3 := hM1.cell3
  have f3 := frozen_of hM1.st.heap 3
  obtain ⟨g, cap, rfl, hcap, hgl⟩ := owns_some hlv (by decide)
  have hgw := (World.ownsRow.lt hlv g rfl).1
  have hgb : g ≠ b := by have := h.lt; simp at *; omega
  have e0 : w1.cell? ⟨g, 0, none⟩ = some (.string p0) := hlv.cellAt 0 (by omega)
  have hM2 := hM1.setAt (at_ + s.size)
  rw [Int.natCast_add] at hM2
  have k0 := ((Chg.refl (fun k => k = b) w1).setCell (p := ⟨b, 3, none⟩) (fun _ => rfl) (.int .i64 ((at_ : Int) + (s.size : Int)))).cell e0 hgb
  have hB3 : B ≤ (w1.setCell ⟨b, 3, none⟩ (.int .i64 ((at_ : Int) + (s.size : Int)))).heap.size := Nat.le_trans hB (by have := hch1.size; simpa [World.setCell] using this)
  have hW : Chg (fun k => B ≤ k) w (w1.setCell ⟨b, 3, none⟩ (.int .i64 ((at_ : Int) + (s.size : Int)))) := ((Chg.refl _ w).drew).trans (hch1.setCell (p := ⟨b, 3, none⟩) (fun _ => h.hb) _) (fun _ _ h => h)
  have HM2 := hid hM2
  have hM2' := hM2
  have HWW := hid hW
  have HB3 := hid hB3
  clear hW hB3 hM2 hch1 hlv hM1 hv1 hpop
  have hof : Calls Tryd.prog 16 #[.slice (some ⟨w1.heap.size, 0, none⟩) 1 1] ((w1.setCell ⟨b, 3, none⟩ (.int .i64 ((at_ : Int) + (s.size : Int)))).alloc (.cells #[.string p0] 9)) (Rets (.agg (rowB 32 (ofB [p0]))) (Chg (fun _ => False) ((w1.setCell ⟨b, 3, none⟩ (.int .i64 ((at_ : Int) + (s.size : Int)))).alloc (.cells #[.string p0] 9)))) := by
    have hT3 : TabsOK B ((w1.setCell ⟨b, 3, none⟩ (.int .i64 ((at_ : Int) + (s.size : Int)))).alloc (.cells #[.string p0] 9)) := hT.chg (HWW.out.alloc _)
    have hsz1 : (w1.setCell ⟨b, 3, none⟩ (.int .i64 ((at_ : Int) + (s.size : Int)))).heap.size = w1.heap.size := by simp [World.setCell]
    refine of_any _ [p0] _ 1 1 rfl (by simp) (by simp [sumSize]; omega) (fun i hi => ?_) (by simp) hT3.wds (Nat.lt_of_lt_of_le hT3.gw (Nat.le_trans HB3.out (by simp)))
    obtain rfl : i = 0 := by simpa using hi
    rw [← hsz1]
    exact (cell_of (heap_alloc_new _ _) 0).trans rfl
  have hM3 := hM2'.alloc (.cells #[.string p0] 9)
  have HM3 := hid hM3
  have hB4 : B ≤ ((w1.setCell ⟨b, 3, none⟩ (.int .i64 ((at_ : Int) + (s.size : Int)))).alloc (.cells #[.string p0] 9)).heap.size := Nat.le_trans HB3.out (by simp)
  have hW4 : Chg (fun k => B ≤ k) w ((w1.setCell ⟨b, 3, none⟩ (.int .i64 ((at_ : Int) + (s.size : Int)))).alloc (.cells #[.string p0] 9)) := HWW.out.alloc _
  have HB4 := hid hB4
  have HW4 := hid hW4
  clear hM3 hM2' hB4 hW4 HM2 HB3 HWW
  have hps := hashS_size p0
  have hpg := hid (hashS_get p0)
  obtain ⟨hp, hhp⟩ : ∃ hp, hp = hashS p0 := ⟨_, rfl⟩
  rw [← hhp] at hps
  have hpg : Hid (∀ i (h : i < hp.size), hp[i] = ofB [p0] i) := by
    subst hhp; exact hpg
  have HHP := hid hhp
  clear hhp
  generalize ofB [p0] = D at hof hpg
  go_wp2_with (first | (go_at_call 16; refine hof.mono ?_; rintro e w3 ⟨rfl, hc3⟩; have HC3 := hid hc3; clear hc3) | (refine wpList_alloc0 rfl 37 rfl (rowB 32 (fun _ => 0)) (alloc37 _) ?_; intro w4 ha4 hs4 hc4) | (refine wpList_store0 rfl 37 _ _ rfl w3.heap.size (rowB 32 (fun _ => 0)) (rowB 32 D) rfl rfl ha4 (by rw [rowB_size]; exact size37) rfl (rowB_one _ _) ?_; intro w5 hb5 hs5 hc5))
  go_frame
  have hc35 : Chg (fun _ => False) w3 w5 := hc4.trans hc5 (fun i hi h => by omega)
  have hc05 : Chg (fun _ => False) _ w5 := HC3.out.trans hc35 (fun _ _ h => h)
  have hM5 := HM3.out.chg hc05 (fun _ _ h => h)
  have hW5 : Chg (fun k => B ≤ k) w w5 := HW4.out.trans hc05 (fun _ _ h => h.elim)
  have hB5 : B ≤ w5.heap.size := Nat.le_trans HB4.out hc05.size
  have hby : Lib.Bytes w5 w3.heap.size 0 hp := by
    intro i hi
    rw [Nat.zero_add, rowB_cell hb5 i (by rw [hps] at hi; exact hi), hpg.out i hi]
  have hcvAll : ∀ W, Lib.Bytes W w3.heap.size 0 hp → (convert 35 9 (.slice (some ⟨w3.heap.size, 0, none⟩) 32 32)).run Tryd.prog W = .ok (.string hp) W := fun W hW => by
    have := Lib.run_convert_whole (P := Tryd.prog) W 35 5 9 Tryd.underlying35 Tryd.underlying5 Tryd.underlying9 w3.heap.size 0 hp hW 32
    rwa [hps] at this
  have hd5 : w3.heap.size < w5.heap.size := heap_lt hb5
  have hdb : w3.heap.size ≠ b ∧ v1.ownBlock ≠ some w3.heap.size := by
    have h1 := HM3.out.lt
    have h2 := HM3.out.own_lt
    have h3 := HC3.out.size
    exact ⟨by omega, fun e => by have := h2 _ e; omega⟩
  have hcvd := hcvAll w5.drew hby
  have hcva := hcvAll (w5.alloc (.cells #[.string hp] 9)).drew (fun i hi => cell_alloc_drew (hby i hi) _)
  have hcvp : ∀ w', Chg (fun k => k = b ∨ v1.ownBlock = some k) w5 w' → (convert 35 9 (.slice (some ⟨w3.heap.size, 0, none⟩) 32 32)).run Tryd.prog w' = .ok (.string hp) w' := fun w' hc => hcvAll w' (fun i hi => hc.cell (hby i hi) (fun h => h.elim hdb.1 hdb.2))
  have HP := hid hcvp
  clear hcvAll hcvp
  have hsz : ∀ x ∈ [hp], x.size ≤ maxLen := by
    unfold maxLen; intro x hx; simp at hx; subst hx; omega
  have hpush := mpush_drew hM5 hB5 [hp] (by simp) _ rfl w5.heap.size 1 1 rfl rfl hsz (by omega)
  have HW5 := hid hW5
  clear hc35 hc05 hM5 hW5 hby hpg hc4 hc5 hb5 ha4 hs4 hs5 HC3 HM3 HW4 HB4 hof
  go_region_held3 (fun w' => (convert 35 9 (.slice (some ⟨w3.heap.size, 0, none⟩) 32 32)).run Tryd.prog w' = .ok (.string hp) w') (first | exact hcvd | exact hcva | exact HP.out _ hch3) (first | (go_at_call 32; refine hpush.mono ?_; rintro e w' ⟨rfl, hch2, hch3, hM4⟩))
  go_wp2_with fail
  go_ret
  have ehp := HHP.out
  subst ehp
  exact ⟨rfl, HW5.out.trans hch2 (fun _ _ h => h), hM4⟩
end Go.Proofs.YtegappcdmaodjaaDoor
