/- Texts of the proof, one behind the other: mill.step walked, a theorem a letter (printed by mk.py). -/
import Derived.Test.YthglfmacjoecgaaGreatDoorMh09
import Derived.Deep.RegionHeld3
namespace Go.Proofs.YthglfmacjoecgaaGreatDoor
open Go.RowKit
theorem numN_lt (s : ByteArray) : numN s < 256 := by
  unfold numN
  split
  · exact UInt8.toNat_lt _
  · decide

set_option maxRecDepth 100000 in
set_option maxHeartbeats 2000000 in
theorem step_t {B : Nat} {w : World} {b : Nat} {v : Value} {code : ByteArray} {inV : Value} {at_ : Nat} {r : List ByteArray} {p0 : ByteArray} (h : MachV B w b v code inV at_ (r ++ [p0])) (hB : B ≤ w.heap.size) (hr : r.length ≤ 8) (h0 : p0.size ≤ 512) (hat : at_ ≤ 1000)
    (s : ByteArray) (hs1 : 1 ≤ s.size) (hs2 : s.size ≤ 300) (hc : s[0] = 116) :
    Calls Tryz.prog 61 #[.pointer (some ⟨b, 0, none⟩), .string s] w (Stepped B w b code inV (at_ + s.size) (pushR r [p0.extract 0 (min (numN s : Int) (p0.size : Int)).toNat])) := by
  have hc' : ((s[0].toNat : Nat) : Int) = 116 := by rw [hc]; rfl
  have htk : ∀ w : World, Calls Tryz.prog 96 #[.int .u8 116] w (Rets (.int .i64 1) (fun w' => w = w')) := fun w => takes_any 116 w
  have hpop := mpops h.drew hB 1 rfl (by omega) (by omega)
  have hs0 : (0 : Int) < s.size := by omega
  have hm0 : (0 : Int) ≤ min (numN s : Int) (p0.size : Int) := by omega
  have hm1 : min (numN s : Int) (p0.size : Int) ≤ (p0.size : Int) := by omega
  have hn0 : (0 : Int) ≤ (numN s : Int) := by omega
  have hnn := numN_lt s
  have hnn' : (numN s : Int) < 256 := by omega
  have hp5 : (p0.size : Int) ≤ 512 := by omega
  go_enter Tryz.func61, Tryz.ntmps61
  go_wp2_with (go_at_call 95; refine (number_any s _ (by unfold maxLen; omega)).mono ?_; rintro e w' ⟨rfl, rfl⟩)
  go_region_held3 (fun _ => True) (trivial) (first | (go_at_call 96; refine (htk _).mono ?_; rintro e w' ⟨rfl, rfl⟩) | (go_at_call 93; refine hpop.mono ?_; rintro e w1 ⟨lv, rfl, hch1, hlv, v1, hM1, hv1⟩))
  have c3 := hM1.cell3
  have f3 := frozen_of hM1.st.heap 3
  obtain ⟨g, cap, rfl, hcap, hgl⟩ := owns_some hlv (by decide)
  have hgw := (World.ownsRow.lt hlv g rfl).1
  have hgb : g ≠ b := by have := h.lt; simp at *; omega
  have hgv : v1.ownBlock ≠ some g := fun e => by have := hv1 g e; omega
  have e0 : w1.cell? ⟨g, 0, none⟩ = some (.string p0) := hlv.cellAt 0 (by omega)
  have hM2 := hM1.setAt (at_ + s.size)
  rw [Int.natCast_add] at hM2
  have k0 := ((Chg.refl (fun k => k = b) w1).setCell (p := ⟨b, 3, none⟩) (fun _ => rfl) (.int .i64 ((at_ : Int) + (s.size : Int)))).cell e0 hgb
  have hB3 : B ≤ (w1.setCell ⟨b, 3, none⟩ (.int .i64 ((at_ : Int) + (s.size : Int)))).heap.size := Nat.le_trans hB (by have := hch1.size; simpa [World.setCell] using this)
  have hgs := hid (show w1.heap.size = (w1.setCell ⟨b, 3, none⟩ (.int .i64 ((at_ : Int) + (s.size : Int)))).heap.size by simp [World.setCell])
  have hsz : ∀ x ∈ [p0.extract 0 (min (numN s : Int) (p0.size : Int)).toNat], x.size ≤ maxLen := by
    unfold maxLen; intro x hx; simp at hx; subst hx; simp; omega
  have k0' := cell_alloc_drew k0 (.cells #[.string (p0.extract 0 (min (numN s : Int) (p0.size : Int)).toNat)] 9)
  go_wp2_with fail
  go_region_held3 (fun w' => w'.cell? ⟨g, 0, none⟩ = some (.string p0)) (first | go_keep | exact k0' | exact hch3.cell k0 (fun h => h.elim hgb hgv)) (first | (go_at_call 97; refine (mpush_drew hM2 hB3 [p0.extract 0 (min (numN s : Int) (p0.size : Int)).toNat] (by simp) _ rfl _ _ _ hgs.out rfl hsz (by omega)).mono ?_; rintro e w' ⟨rfl, hch2, hch3, hM4⟩))
  go_wp2_with fail
  go_ret
  exact ⟨rfl, stepped hch1 hch2 h.hb, hM4⟩

set_option maxRecDepth 100000 in
set_option maxHeartbeats 2000000 in
theorem step_k {B : Nat} {w : World} {b : Nat} {v : Value} {code : ByteArray} {inV : Value} {at_ : Nat} {r : List ByteArray} {p0 : ByteArray} (h : MachV B w b v code inV at_ (r ++ [p0])) (hB : B ≤ w.heap.size) (hr : r.length ≤ 8) (h0 : p0.size ≤ 512) (hat : at_ ≤ 1000)
    (s : ByteArray) (hs1 : 1 ≤ s.size) (hs2 : s.size ≤ 300) (hc : s[0] = 107) :
    Calls Tryz.prog 61 #[.pointer (some ⟨b, 0, none⟩), .string s] w (Stepped B w b code inV (at_ + s.size) (pushR r [p0.extract (min (numN s : Int) (p0.size : Int)).toNat p0.size])) := by
  have hc' : ((s[0].toNat : Nat) : Int) = 107 := by rw [hc]; rfl
  have htk : ∀ w : World, Calls Tryz.prog 96 #[.int .u8 107] w (Rets (.int .i64 1) (fun w' => w = w')) := fun w => takes_any 107 w
  have hpop := mpops h.drew hB 1 rfl (by omega) (by omega)
  have hs0 : (0 : Int) < s.size := by omega
  have hm0 : (0 : Int) ≤ min (numN s : Int) (p0.size : Int) := by omega
  have hm1 : min (numN s : Int) (p0.size : Int) ≤ (p0.size : Int) := by omega
  have hn0 : (0 : Int) ≤ (numN s : Int) := by omega
  have hnn := numN_lt s
  have hnn' : (numN s : Int) < 256 := by omega
  have hp5 : (p0.size : Int) ≤ 512 := by omega
  go_enter Tryz.func61, Tryz.ntmps61
  go_wp2_with (go_at_call 95; refine (number_any s _ (by unfold maxLen; omega)).mono ?_; rintro e w' ⟨rfl, rfl⟩)
  go_region_held3 (fun _ => True) (trivial) (first | (go_at_call 96; refine (htk _).mono ?_; rintro e w' ⟨rfl, rfl⟩) | (go_at_call 93; refine hpop.mono ?_; rintro e w1 ⟨lv, rfl, hch1, hlv, v1, hM1, hv1⟩))
  have c3 := hM1.cell3
  have f3 := frozen_of hM1.st.heap 3
  obtain ⟨g, cap, rfl, hcap, hgl⟩ := owns_some hlv (by decide)
  have hgw := (World.ownsRow.lt hlv g rfl).1
  have hgb : g ≠ b := by have := h.lt; simp at *; omega
  have hgv : v1.ownBlock ≠ some g := fun e => by have := hv1 g e; omega
  have e0 : w1.cell? ⟨g, 0, none⟩ = some (.string p0) := hlv.cellAt 0 (by omega)
  have hM2 := hM1.setAt (at_ + s.size)
  rw [Int.natCast_add] at hM2
  have k0 := ((Chg.refl (fun k => k = b) w1).setCell (p := ⟨b, 3, none⟩) (fun _ => rfl) (.int .i64 ((at_ : Int) + (s.size : Int)))).cell e0 hgb
  have hB3 : B ≤ (w1.setCell ⟨b, 3, none⟩ (.int .i64 ((at_ : Int) + (s.size : Int)))).heap.size := Nat.le_trans hB (by have := hch1.size; simpa [World.setCell] using this)
  have hgs := hid (show w1.heap.size = (w1.setCell ⟨b, 3, none⟩ (.int .i64 ((at_ : Int) + (s.size : Int)))).heap.size by simp [World.setCell])
  have hsz : ∀ x ∈ [p0.extract (min (numN s : Int) (p0.size : Int)).toNat p0.size], x.size ≤ maxLen := by
    unfold maxLen; intro x hx; simp at hx; subst hx; simp; omega
  have k0' := cell_alloc_drew k0 (.cells #[.string (p0.extract (min (numN s : Int) (p0.size : Int)).toNat p0.size)] 9)
  go_wp2_with fail
  go_region_held3 (fun w' => w'.cell? ⟨g, 0, none⟩ = some (.string p0)) (first | go_keep | exact k0' | exact hch3.cell k0 (fun h => h.elim hgb hgv)) (first | (go_at_call 97; refine (mpush_drew hM2 hB3 [p0.extract (min (numN s : Int) (p0.size : Int)).toNat p0.size] (by simp) _ rfl _ _ _ hgs.out rfl hsz (by omega)).mono ?_; rintro e w' ⟨rfl, hch2, hch3, hM4⟩))
  go_wp2_with fail
  go_ret
  exact ⟨rfl, stepped hch1 hch2 h.hb, hM4⟩
end Go.Proofs.YthglfmacjoecgaaGreatDoor
