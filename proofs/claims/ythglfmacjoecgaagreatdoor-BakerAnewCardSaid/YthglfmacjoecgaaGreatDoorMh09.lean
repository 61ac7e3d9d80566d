/- Texts of the proof, one behind the other: mill.step walked, a theorem a letter (printed by mk.py). -/
import Derived.Test.YthglfmacjoecgaaGreatDoorMh08
import Derived.Deep.RegionHeld3
namespace Go.Proofs.YthglfmacjoecgaaGreatDoor
open Go.RowKit

set_option maxRecDepth 100000 in
set_option maxHeartbeats 2000000 in
theorem step_x {B : Nat} {w : World} {b : Nat} {v : Value} {code : ByteArray} {inV : Value} {at_ : Nat} {r : List ByteArray} {p0 : ByteArray} (h : MachV B w b v code inV at_ (r ++ [p0])) (hB : B ≤ w.heap.size) (hr : r.length ≤ 8) (_ : p0.size ≤ 512) (hat : at_ ≤ 1000)
    (s : ByteArray) (hs1 : 1 ≤ s.size) (hs2 : s.size ≤ 300) (hc : s[0] = 120) :
    Calls Tryz.prog 61 #[.pointer (some ⟨b, 0, none⟩), .string s] w (Stepped B w b code inV (at_ + s.size) (0, r)) := by
  have hc' : ((s[0].toNat : Nat) : Int) = 120 := by rw [hc]; rfl
  have htk : ∀ w : World, Calls Tryz.prog 96 #[.int .u8 120] w (Rets (.int .i64 1) (fun w' => w = w')) := fun w => takes_any 120 w
  have hpop := mpops h.drew hB 1 rfl (by omega) (by omega)
  have hs0 : (0 : Int) < s.size := by omega
  go_enter Tryz.func61, Tryz.ntmps61
  go_wp2_with (go_at_call 95; refine (number_any s _ (by unfold maxLen; omega)).mono ?_; rintro e w' ⟨rfl, rfl⟩)
  go_region_held3 (fun _ => True) (trivial) (first | (go_at_call 96; refine (htk _).mono ?_; rintro e w' ⟨rfl, rfl⟩) | (go_at_call 93; refine hpop.mono ?_; rintro e w1 ⟨lv, rfl, hch1, hlv, v1, hM1, hv1⟩))
  have c3 := hM1.cell3
  have f3 := frozen_of hM1.st.heap 3
  have hM2 := hM1.setAt (at_ + s.size)
  rw [Int.natCast_add] at hM2
  go_wp2_with fail
  go_ret
  exact ⟨rfl, (((Chg.refl _ w).drew).trans hch1 (fun _ _ h => h)).setCell (p := ⟨b, 3, none⟩) (fun _ => h.hb) _, v1, hM2⟩

set_option maxRecDepth 100000 in
set_option maxHeartbeats 2000000 in
theorem step_g {B : Nat} {w : World} {b : Nat} {v : Value} {code : ByteArray} {inV : Value} {at_ : Nat} {r : List ByteArray} (h : MachV B w b v code inV at_ (r ++ [])) (hB : B ≤ w.heap.size) (hr : r.length ≤ 8) (hat : at_ ≤ 1000)
    (s : ByteArray) (hs1 : 1 ≤ s.size) (hs2 : s.size ≤ 300) (hc : s[0] = 103) :
    Calls Tryz.prog 61 #[.pointer (some ⟨b, 0, none⟩), .string s] w (Stepped B w b code inV (numN s) (0, r)) := by
  have hc' : ((s[0].toNat : Nat) : Int) = 103 := by rw [hc]; rfl
  have htk : ∀ w : World, Calls Tryz.prog 96 #[.int .u8 103] w (Rets (.int .i64 0) (fun w' => w = w')) := fun w => takes_any 103 w
  have hpop := mpops h.drew hB 0 rfl (by omega) (by omega)
  have hs0 : (0 : Int) < s.size := by omega
  go_enter Tryz.func61, Tryz.ntmps61
  go_wp2_with (go_at_call 95; refine (number_any s _ (by unfold maxLen; omega)).mono ?_; rintro e w' ⟨rfl, rfl⟩)
  go_region_held3 (fun _ => True) (trivial) (first | (go_at_call 96; refine (htk _).mono ?_; rintro e w' ⟨rfl, rfl⟩) | (go_at_call 93; refine hpop.mono ?_; rintro e w1 ⟨lv, rfl, hch1, hlv, v1, hM1, hv1⟩))
  have c3 := hM1.cell3
  have f3 := frozen_of hM1.st.heap 3
  have hM2 := (hM1.setAt (at_ + s.size)).setAt (numN s)
  rw [Int.natCast_add] at hM2
  go_wp2_with fail
  go_ret
  exact ⟨rfl, ((((Chg.refl _ w).drew).trans hch1 (fun _ _ h => h)).setCell (p := ⟨b, 3, none⟩) (fun _ => h.hb) _).setCell (p := ⟨b, 3, none⟩) (fun _ => h.hb) _, v1, hM2⟩

set_option maxRecDepth 100000 in
set_option maxHeartbeats 2000000 in
theorem step_j0 {B : Nat} {w : World} {b : Nat} {v : Value} {code : ByteArray} {inV : Value} {at_ : Nat} {r : List ByteArray} {p0 : ByteArray} (h : MachV B w b v code inV at_ (r ++ [p0])) (hB : B ≤ w.heap.size) (hr : r.length ≤ 8) (h0 : p0.size ≤ 512) (hat : at_ ≤ 1000)
    (s : ByteArray) (hs1 : 1 ≤ s.size) (hs2 : s.size ≤ 300) (hc : s[0] = 106) (hz : p0 = ByteArray.empty) :
    Calls Tryz.prog 61 #[.pointer (some ⟨b, 0, none⟩), .string s] w (Stepped B w b code inV (numN s) (0, r)) := by
  have hc' : ((s[0].toNat : Nat) : Int) = 106 := by rw [hc]; rfl
  have htk : ∀ w : World, Calls Tryz.prog 96 #[.int .u8 106] w (Rets (.int .i64 1) (fun w' => w = w')) := fun w => takes_any 106 w
  have hpop := mpops h.drew hB 1 rfl (by omega) (by omega)
  have hs0 : (0 : Int) < s.size := by omega
  go_enter Tryz.func61, Tryz.ntmps61
  go_wp2_with (go_at_call 95; refine (number_any s _ (by unfold maxLen; omega)).mono ?_; rintro e w' ⟨rfl, rfl⟩)
  go_region_held3 (fun _ => True) (trivial) (first | (go_at_call 96; refine (htk _).mono ?_; rintro e w' ⟨rfl, rfl⟩) | (go_at_call 93; refine hpop.mono ?_; rintro e w1 ⟨lv, rfl, hch1, hlv, v1, hM1, hv1⟩))
  have c3 := hM1.cell3
  have f3 := frozen_of hM1.st.heap 3
  obtain ⟨g, cap, rfl, hcap, hgl⟩ := owns_some hlv (by decide)
  have hgw := (World.ownsRow.lt hlv g rfl).1
  have hgb : g ≠ b := by have := h.lt; simp at *; omega
  have hgv : v1.ownBlock ≠ some g := fun e => by have := hv1 g e; omega
  have e0 : w1.cell? ⟨g, 0, none⟩ = some (.string p0) := hlv.cellAt 0 (by omega)
  have hM2 := hM1.setAt (at_ + s.size)
  rw [Int.natCast_add] at hM2
  have k0 := ((Chg.refl (fun k => k = b) w1).setCell (p := ⟨b, 3, none⟩) (fun _ => rfl) (.int .i64 ((at_ : Int) + (s.size : Int)))).cell e0 hgb
  have hB3 : B ≤ (w1.setCell ⟨b, 3, none⟩ (.int .i64 ((at_ : Int) + (s.size : Int)))).heap.size := Nat.le_trans hB (by have := hch1.size; simpa [World.setCell] using this)
  have hgs := hid (show w1.heap.size = (w1.setCell ⟨b, 3, none⟩ (.int .i64 ((at_ : Int) + (s.size : Int)))).heap.size by simp [World.setCell])
  subst hz
  have hM3 := hM2.setAt (numN s)
  go_wp2_with fail
  go_ret
  exact ⟨rfl, ((((Chg.refl _ w).drew).trans hch1 (fun _ _ h => h)).setCell (p := ⟨b, 3, none⟩) (fun _ => h.hb) _).setCell (p := ⟨b, 3, none⟩) (fun _ => h.hb) _, v1, hM3⟩

set_option maxRecDepth 100000 in
set_option maxHeartbeats 2000000 in
theorem step_j1 {B : Nat} {w : World} {b : Nat} {v : Value} {code : ByteArray} {inV : Value} {at_ : Nat} {r : List ByteArray} {p0 : ByteArray} (h : MachV B w b v code inV at_ (r ++ [p0])) (hB : B ≤ w.heap.size) (hr : r.length ≤ 8) (_ : p0.size ≤ 512) (hat : at_ ≤ 1000)
    (s : ByteArray) (hs1 : 1 ≤ s.size) (hs2 : s.size ≤ 300) (hc : s[0] = 106) (hz : p0 ≠ ByteArray.empty) :
    Calls Tryz.prog 61 #[.pointer (some ⟨b, 0, none⟩), .string s] w (Stepped B w b code inV (at_ + s.size) (0, r)) := by
  have hc' : ((s[0].toNat : Nat) : Int) = 106 := by rw [hc]; rfl
  have htk : ∀ w : World, Calls Tryz.prog 96 #[.int .u8 106] w (Rets (.int .i64 1) (fun w' => w = w')) := fun w => takes_any 106 w
  have hpop := mpops h.drew hB 1 rfl (by omega) (by omega)
  have hs0 : (0 : Int) < s.size := by omega
  go_enter Tryz.func61, Tryz.ntmps61
  go_wp2_with (go_at_call 95; refine (number_any s _ (by unfold maxLen; omega)).mono ?_; rintro e w' ⟨rfl, rfl⟩)
  go_region_held3 (fun _ => True) (trivial) (first | (go_at_call 96; refine (htk _).mono ?_; rintro e w' ⟨rfl, rfl⟩) | (go_at_call 93; refine hpop.mono ?_; rintro e w1 ⟨lv, rfl, hch1, hlv, v1, hM1, hv1⟩))
  have c3 := hM1.cell3
  have f3 := frozen_of hM1.st.heap 3
  obtain ⟨g, cap, rfl, hcap, hgl⟩ := owns_some hlv (by decide)
  have hgw := (World.ownsRow.lt hlv g rfl).1
  have hgb : g ≠ b := by have := h.lt; simp at *; omega
  have hgv : v1.ownBlock ≠ some g := fun e => by have := hv1 g e; omega
  have e0 : w1.cell? ⟨g, 0, none⟩ = some (.string p0) := hlv.cellAt 0 (by omega)
  have hM2 := hM1.setAt (at_ + s.size)
  rw [Int.natCast_add] at hM2
  have k0 := ((Chg.refl (fun k => k = b) w1).setCell (p := ⟨b, 3, none⟩) (fun _ => rfl) (.int .i64 ((at_ : Int) + (s.size : Int)))).cell e0 hgb
  have hB3 : B ≤ (w1.setCell ⟨b, 3, none⟩ (.int .i64 ((at_ : Int) + (s.size : Int)))).heap.size := Nat.le_trans hB (by have := hch1.size; simpa [World.setCell] using this)
  have hgs := hid (show w1.heap.size = (w1.setCell ⟨b, 3, none⟩ (.int .i64 ((at_ : Int) + (s.size : Int)))).heap.size by simp [World.setCell])
  have hz1 : p0.toList.isEmpty = false := by
    have e : (p0.toList == (ByteArray.mk #[]).toList) = false := by rw [← beq_toListBytes, ba_eqM]; simp; exact hz
    have e2 : (ByteArray.mk #[]).toList = [] := by unfold ByteArray.toList ByteArray.toList.loop; simp [ByteArray.size]
    rw [e2] at e
    generalize p0.toList = q at e ⊢
    cases q with
    | nil => simp at e
    | cons => rfl
  go_wp2_with fail
  go_ret
  exact ⟨rfl, (((Chg.refl _ w).drew).trans hch1 (fun _ _ h => h)).setCell (p := ⟨b, 3, none⟩) (fun _ => h.hb) _, v1, hM2⟩
end Go.Proofs.YthglfmacjoecgaaGreatDoor
