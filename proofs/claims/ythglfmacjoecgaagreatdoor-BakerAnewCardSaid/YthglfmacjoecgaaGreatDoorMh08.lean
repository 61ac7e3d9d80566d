/- Texts of the proof, one behind the other: mill.step walked, a theorem a letter (printed by mk.py). -/
import Derived.Test.YthglfmacjoecgaaGreatDoorMh07
import Derived.Deep.RegionHeld3
namespace Go.Proofs.YthglfmacjoecgaaGreatDoor
open Go.RowKit

set_option maxRecDepth 100000 in
set_option maxHeartbeats 2000000 in
theorem step_c {B : Nat} {w : World} {b : Nat} {v : Value} {code : ByteArray} {inV : Value} {at_ : Nat} {r : List ByteArray} {p0 p1 : ByteArray} (h : MachV B w b v code inV at_ (r ++ [p0, p1])) (hB : B ≤ w.heap.size) (hr : r.length ≤ 8) (h0 : p0.size ≤ 512) (h1 : p1.size ≤ 512) (hat : at_ ≤ 1000)
    (s : ByteArray) (hs1 : 1 ≤ s.size) (hs2 : s.size ≤ 300) (hc : s[0] = 99) :
    Calls Tryz.prog 61 #[.pointer (some ⟨b, 0, none⟩), .string s] w (Stepped B w b code inV (at_ + s.size) (pushR r [p0 ++ p1])) := by
  have hc' : ((s[0].toNat : Nat) : Int) = 99 := by rw [hc]; rfl
  have htk : ∀ w : World, Calls Tryz.prog 96 #[.int .u8 99] w (Rets (.int .i64 2) (fun w' => w = w')) := fun w => takes_any 99 w
  have hpop := mpops h.drew hB 2 rfl (by omega) (by omega)
  have hs0 : (0 : Int) < s.size := by omega

  have hjs2 : ¬ 9223372036854775807 < p0.size + p1.size := by omega
  go_enter Tryz.func61, Tryz.ntmps61
  go_wp2_with (go_at_call 95; refine (number_any s _ (by unfold maxLen; omega)).mono ?_; rintro e w' ⟨rfl, rfl⟩)
  go_region_held3 (fun _ => True) (trivial) (first | (go_at_call 96; refine (htk _).mono ?_; rintro e w' ⟨rfl, rfl⟩) | (go_at_call 93; refine hpop.mono ?_; rintro e w1 ⟨lv, rfl, hch1, hlv, v1, hM1, hv1⟩))
  have c3 := hM1.cell3
  have f3 := frozen_of hM1.st.heap 3
  obtain ⟨g, cap, rfl, hcap, hgl⟩ := owns_some hlv (by decide)
  have hgw := (World.ownsRow.lt hlv g rfl).1
  have hgb : g ≠ b := by have := h.lt; simp at *; omega
  have hgv : v1.ownBlock ≠ some g := fun e => by have := hv1 g e; omega
  have e0 : w1.cell? ⟨g, 0, none⟩ = some (.string p0) := hlv.cellAt 0 (by omega)
  have e1 : w1.cell? ⟨g, 1, none⟩ = some (.string p1) := hlv.cellAt 1 (by omega)
  have hM2 := hM1.setAt (at_ + s.size)
  rw [Int.natCast_add] at hM2
  have k0 := ((Chg.refl (fun k => k = b) w1).setCell (p := ⟨b, 3, none⟩) (fun _ => rfl) (.int .i64 ((at_ : Int) + (s.size : Int)))).cell e0 hgb
  have k1 := ((Chg.refl (fun k => k = b) w1).setCell (p := ⟨b, 3, none⟩) (fun _ => rfl) (.int .i64 ((at_ : Int) + (s.size : Int)))).cell e1 hgb
  have hB3 : B ≤ (w1.setCell ⟨b, 3, none⟩ (.int .i64 ((at_ : Int) + (s.size : Int)))).heap.size := Nat.le_trans hB (by have := hch1.size; simpa [World.setCell] using this)
  have hgs := hid (show w1.heap.size = (w1.setCell ⟨b, 3, none⟩ (.int .i64 ((at_ : Int) + (s.size : Int)))).heap.size by simp [World.setCell])
  have hsz : ∀ x ∈ [p0 ++ p1], x.size ≤ maxLen := by
    unfold maxLen; intro x hx; simp at hx; subst hx; simp; omega
  have k0' := cell_alloc_drew k0 (.cells #[.string (p0 ++ p1)] 9)
  have k1' := cell_alloc_drew k1 (.cells #[.string (p0 ++ p1)] 9)
  go_wp2_with fail
  go_region_held3 (fun w' => w'.cell? ⟨g, 0, none⟩ = some (.string p0) ∧ w'.cell? ⟨g, 1, none⟩ = some (.string p1)) (first | go_keep | exact ⟨k0', k1'⟩ | exact ⟨hch3.cell k0 (fun h => h.elim hgb hgv), hch3.cell k1 (fun h => h.elim hgb hgv)⟩) (first | (go_at_call 97; refine (mpush_drew hM2 hB3 [p0 ++ p1] (by simp) _ rfl _ _ _ hgs.out rfl hsz (by omega)).mono ?_; rintro e w' ⟨rfl, hch2, hch3, hM4⟩))
  go_wp2_with fail
  go_ret
  exact ⟨rfl, stepped hch1 hch2 h.hb, hM4⟩

set_option maxRecDepth 100000 in
set_option maxHeartbeats 2000000 in
theorem step_d {B : Nat} {w : World} {b : Nat} {v : Value} {code : ByteArray} {inV : Value} {at_ : Nat} {r : List ByteArray} {p0 : ByteArray} (h : MachV B w b v code inV at_ (r ++ [p0])) (hB : B ≤ w.heap.size) (hr : r.length ≤ 8) (h0 : p0.size ≤ 512) (hat : at_ ≤ 1000)
    (s : ByteArray) (hs1 : 1 ≤ s.size) (hs2 : s.size ≤ 300) (hc : s[0] = 100) :
    Calls Tryz.prog 61 #[.pointer (some ⟨b, 0, none⟩), .string s] w (Stepped B w b code inV (at_ + s.size) (pushR r [p0, p0])) := by
  have hc' : ((s[0].toNat : Nat) : Int) = 100 := by rw [hc]; rfl
  have htk : ∀ w : World, Calls Tryz.prog 96 #[.int .u8 100] w (Rets (.int .i64 1) (fun w' => w = w')) := fun w => takes_any 100 w
  have hpop := mpops h.drew hB 1 rfl (by omega) (by omega)
  have hs0 : (0 : Int) < s.size := by omega
  go_enter Tryz.func61, Tryz.ntmps61
  go_wp2_with (go_at_call 95; refine (number_any s _ (by unfold maxLen; omega)).mono ?_; rintro e w' ⟨rfl, rfl⟩)
  go_region_held3 (fun _ => True) (trivial) (first | (go_at_call 96; refine (htk _).mono ?_; rintro e w' ⟨rfl, rfl⟩) | (go_at_call 93; refine hpop.mono ?_; rintro e w1 ⟨lv, rfl, hch1, hlv, v1, hM1, hv1⟩))
  have c3 := hM1.cell3
  have f3 := frozen_of hM1.st.heap 3
  obtain ⟨g, cap, rfl, hcap, hgl⟩ := owns_some hlv (by decide)
  have hgw := (World.ownsRow.lt hlv g rfl).1
  have hgb : g ≠ b := by have := h.lt; simp at *; omega
  have hgv : v1.ownBlock ≠ some g := fun e => by have := hv1 g e; omega
  have e0 : w1.cell? ⟨g, 0, none⟩ = some (.string p0) := hlv.cellAt 0 (by omega)
  have hM2 := hM1.setAt (at_ + s.size)
  rw [Int.natCast_add] at hM2
  have k0 := ((Chg.refl (fun k => k = b) w1).setCell (p := ⟨b, 3, none⟩) (fun _ => rfl) (.int .i64 ((at_ : Int) + (s.size : Int)))).cell e0 hgb
  have hB3 : B ≤ (w1.setCell ⟨b, 3, none⟩ (.int .i64 ((at_ : Int) + (s.size : Int)))).heap.size := Nat.le_trans hB (by have := hch1.size; simpa [World.setCell] using this)
  have hgs := hid (show w1.heap.size = (w1.setCell ⟨b, 3, none⟩ (.int .i64 ((at_ : Int) + (s.size : Int)))).heap.size by simp [World.setCell])
  have hsz : ∀ x ∈ [p0, p0], x.size ≤ maxLen := by
    unfold maxLen; intro x hx; simp at hx; subst hx; omega
  have k0' := cell_alloc_drew k0 (.cells #[.string (p0), .string (p0)] 9)
  go_wp2_with fail
  go_region_held3 (fun w' => w'.cell? ⟨g, 0, none⟩ = some (.string p0)) (first | go_keep | exact k0' | exact hch3.cell k0 (fun h => h.elim hgb hgv)) (first | (go_at_call 97; refine (mpush_drew hM2 hB3 [p0, p0] (by simp) _ rfl _ _ _ hgs.out rfl hsz (by omega)).mono ?_; rintro e w' ⟨rfl, hch2, hch3, hM4⟩))
  go_wp2_with fail
  go_ret
  exact ⟨rfl, stepped hch1 hch2 h.hb, hM4⟩

set_option maxRecDepth 100000 in
set_option maxHeartbeats 2000000 in
theorem step_s {B : Nat} {w : World} {b : Nat} {v : Value} {code : ByteArray} {inV : Value} {at_ : Nat} {r : List ByteArray} {p0 p1 : ByteArray} (h : MachV B w b v code inV at_ (r ++ [p0, p1])) (hB : B ≤ w.heap.size) (hr : r.length ≤ 8) (h0 : p0.size ≤ 512) (h1 : p1.size ≤ 512) (hat : at_ ≤ 1000)
    (s : ByteArray) (hs1 : 1 ≤ s.size) (hs2 : s.size ≤ 300) (hc : s[0] = 115) :
    Calls Tryz.prog 61 #[.pointer (some ⟨b, 0, none⟩), .string s] w (Stepped B w b code inV (at_ + s.size) (pushR r [p1, p0])) := by
  have hc' : ((s[0].toNat : Nat) : Int) = 115 := by rw [hc]; rfl
  have htk : ∀ w : World, Calls Tryz.prog 96 #[.int .u8 115] w (Rets (.int .i64 2) (fun w' => w = w')) := fun w => takes_any 115 w
  have hpop := mpops h.drew hB 2 rfl (by omega) (by omega)
  have hs0 : (0 : Int) < s.size := by omega
  go_enter Tryz.func61, Tryz.ntmps61
  go_wp2_with (go_at_call 95; refine (number_any s _ (by unfold maxLen; omega)).mono ?_; rintro e w' ⟨rfl, rfl⟩)
  go_region_held3 (fun _ => True) (trivial) (first | (go_at_call 96; refine (htk _).mono ?_; rintro e w' ⟨rfl, rfl⟩) | (go_at_call 93; refine hpop.mono ?_; rintro e w1 ⟨lv, rfl, hch1, hlv, v1, hM1, hv1⟩))
  have c3 := hM1.cell3
  have f3 := frozen_of hM1.st.heap 3
  obtain ⟨g, cap, rfl, hcap, hgl⟩ := owns_some hlv (by decide)
  have hgw := (World.ownsRow.lt hlv g rfl).1
  have hgb : g ≠ b := by have := h.lt; simp at *; omega
  have hgv : v1.ownBlock ≠ some g := fun e => by have := hv1 g e; omega
  have e0 : w1.cell? ⟨g, 0, none⟩ = some (.string p0) := hlv.cellAt 0 (by omega)
  have e1 : w1.cell? ⟨g, 1, none⟩ = some (.string p1) := hlv.cellAt 1 (by omega)
  have hM2 := hM1.setAt (at_ + s.size)
  rw [Int.natCast_add] at hM2
  have k0 := ((Chg.refl (fun k => k = b) w1).setCell (p := ⟨b, 3, none⟩) (fun _ => rfl) (.int .i64 ((at_ : Int) + (s.size : Int)))).cell e0 hgb
  have k1 := ((Chg.refl (fun k => k = b) w1).setCell (p := ⟨b, 3, none⟩) (fun _ => rfl) (.int .i64 ((at_ : Int) + (s.size : Int)))).cell e1 hgb
  have hB3 : B ≤ (w1.setCell ⟨b, 3, none⟩ (.int .i64 ((at_ : Int) + (s.size : Int)))).heap.size := Nat.le_trans hB (by have := hch1.size; simpa [World.setCell] using this)
  have hgs := hid (show w1.heap.size = (w1.setCell ⟨b, 3, none⟩ (.int .i64 ((at_ : Int) + (s.size : Int)))).heap.size by simp [World.setCell])
  have hsz : ∀ x ∈ [p1, p0], x.size ≤ maxLen := by
    unfold maxLen; intro x hx; simp at hx; rcases hx with rfl | rfl <;> omega
  have k0' := cell_alloc_drew k0 (.cells #[.string (p1), .string (p0)] 9)
  have k1' := cell_alloc_drew k1 (.cells #[.string (p1), .string (p0)] 9)
  go_wp2_with fail
  go_region_held3 (fun w' => w'.cell? ⟨g, 0, none⟩ = some (.string p0) ∧ w'.cell? ⟨g, 1, none⟩ = some (.string p1)) (first | go_keep | exact ⟨k0', k1'⟩ | exact ⟨hch3.cell k0 (fun h => h.elim hgb hgv), hch3.cell k1 (fun h => h.elim hgb hgv)⟩) (first | (go_at_call 97; refine (mpush_drew hM2 hB3 [p1, p0] (by simp) _ rfl _ _ _ hgs.out rfl hsz (by omega)).mono ?_; rintro e w' ⟨rfl, hch2, hch3, hM4⟩))
  go_wp2_with fail
  go_ret
  exact ⟨rfl, stepped hch1 hch2 h.hb, hM4⟩

set_option maxRecDepth 100000 in
set_option maxHeartbeats 2000000 in
theorem step_eq {B : Nat} {w : World} {b : Nat} {v : Value} {code : ByteArray} {inV : Value} {at_ : Nat} {r : List ByteArray} {p0 p1 : ByteArray} (h : MachV B w b v code inV at_ (r ++ [p0, p1])) (hB : B ≤ w.heap.size) (hr : r.length ≤ 8) (_ : p0.size ≤ 512) (_ : p1.size ≤ 512) (hat : at_ ≤ 1000)
    (s : ByteArray) (hs1 : 1 ≤ s.size) (hs2 : s.size ≤ 300) (hc : s[0] = 61) :
    Calls Tryz.prog 61 #[.pointer (some ⟨b, 0, none⟩), .string s] w (Stepped B w b code inV (at_ + s.size) (pushR r [sameS p0 p1])) := by
  have hc' : ((s[0].toNat : Nat) : Int) = 61 := by rw [hc]; rfl
  have htk : ∀ w : World, Calls Tryz.prog 96 #[.int .u8 61] w (Rets (.int .i64 2) (fun w' => w = w')) := fun w => takes_any 61 w
  have hpop := mpops h.drew hB 2 rfl (by omega) (by omega)
  have hs0 : (0 : Int) < s.size := by omega
  go_enter Tryz.func61, Tryz.ntmps61
  go_wp2_with (go_at_call 95; refine (number_any s _ (by unfold maxLen; omega)).mono ?_; rintro e w' ⟨rfl, rfl⟩)
  go_region_held3 (fun _ => True) (trivial) (first | (go_at_call 96; refine (htk _).mono ?_; rintro e w' ⟨rfl, rfl⟩) | (go_at_call 93; refine hpop.mono ?_; rintro e w1 ⟨lv, rfl, hch1, hlv, v1, hM1, hv1⟩))
  have c3 := hM1.cell3
  have f3 := frozen_of hM1.st.heap 3
  obtain ⟨g, cap, rfl, hcap, hgl⟩ := owns_some hlv (by decide)
  have hgw := (World.ownsRow.lt hlv g rfl).1
  have hgb : g ≠ b := by have := h.lt; simp at *; omega
  have hgv : v1.ownBlock ≠ some g := fun e => by have := hv1 g e; omega
  have e0 : w1.cell? ⟨g, 0, none⟩ = some (.string p0) := hlv.cellAt 0 (by omega)
  have e1 : w1.cell? ⟨g, 1, none⟩ = some (.string p1) := hlv.cellAt 1 (by omega)
  have hM2 := hM1.setAt (at_ + s.size)
  rw [Int.natCast_add] at hM2
  have k0 := ((Chg.refl (fun k => k = b) w1).setCell (p := ⟨b, 3, none⟩) (fun _ => rfl) (.int .i64 ((at_ : Int) + (s.size : Int)))).cell e0 hgb
  have k1 := ((Chg.refl (fun k => k = b) w1).setCell (p := ⟨b, 3, none⟩) (fun _ => rfl) (.int .i64 ((at_ : Int) + (s.size : Int)))).cell e1 hgb
  have hB3 : B ≤ (w1.setCell ⟨b, 3, none⟩ (.int .i64 ((at_ : Int) + (s.size : Int)))).heap.size := Nat.le_trans hB (by have := hch1.size; simpa [World.setCell] using this)
  have hgs := hid (show w1.heap.size = (w1.setCell ⟨b, 3, none⟩ (.int .i64 ((at_ : Int) + (s.size : Int)))).heap.size by simp [World.setCell])
  have hsz : ∀ x ∈ [sameS p0 p1], x.size ≤ maxLen := by
    unfold maxLen; intro x hx; simp at hx; subst hx; unfold sameS; split <;> decide
  have k0' := cell_alloc_drew k0 (.cells #[.string (sameS p0 p1)] 9)
  have k1' := cell_alloc_drew k1 (.cells #[.string (sameS p0 p1)] 9)
  go_wp2_with fail
  go_region_held3 (fun w' => w'.cell? ⟨g, 0, none⟩ = some (.string p0) ∧ w'.cell? ⟨g, 1, none⟩ = some (.string p1)) (first | go_keep | exact ⟨k0', k1'⟩ | exact ⟨hch3.cell k0 (fun h => h.elim hgb hgv), hch3.cell k1 (fun h => h.elim hgb hgv)⟩) (first | (go_at_call 100; refine (same_any p0 p1 _).mono ?_; rintro e w' ⟨rfl, rfl⟩) | (go_at_call 97; refine (mpush_drew hM2 hB3 [sameS p0 p1] (by simp) _ rfl _ _ _ hgs.out rfl hsz (by omega)).mono ?_; rintro e w' ⟨rfl, hch2, hch3, hM4⟩))
  go_wp2_with fail
  go_ret
  exact ⟨rfl, stepped hch1 hch2 h.hb, hM4⟩

set_option maxRecDepth 100000 in
set_option maxHeartbeats 2000000 in
theorem step_p {B : Nat} {w : World} {b : Nat} {v : Value} {code : ByteArray} {inV : Value} {at_ : Nat} {r : List ByteArray} (h : MachV B w b v code inV at_ (r ++ [])) (hB : B ≤ w.heap.size) (hr : r.length ≤ 8) (hat : at_ ≤ 1000)
    (s : ByteArray) (hs1 : 1 ≤ s.size) (hs2 : s.size ≤ 300) (hc : s[0] = 112) (h2 : 2 ≤ s.size) :
    Calls Tryz.prog 61 #[.pointer (some ⟨b, 0, none⟩), .string s] w (Stepped B w b code inV (at_ + s.size) (pushR r [s.extract 2 s.size])) := by
  have hc' : ((s[0].toNat : Nat) : Int) = 112 := by rw [hc]; rfl
  have htk : ∀ w : World, Calls Tryz.prog 96 #[.int .u8 112] w (Rets (.int .i64 0) (fun w' => w = w')) := fun w => takes_any 112 w
  have hpop := mpops h.drew hB 0 rfl (by omega) (by omega)
  have hs0 : (0 : Int) < s.size := by omega
  have h2' : (2 : Int) ≤ (s.size : Int) := by omega
  go_enter Tryz.func61, Tryz.ntmps61
  go_wp2_with (go_at_call 95; refine (number_any s _ (by unfold maxLen; omega)).mono ?_; rintro e w' ⟨rfl, rfl⟩)
  go_region_held3 (fun _ => True) (trivial) (first | (go_at_call 96; refine (htk _).mono ?_; rintro e w' ⟨rfl, rfl⟩) | (go_at_call 93; refine hpop.mono ?_; rintro e w1 ⟨lv, rfl, hch1, hlv, v1, hM1, hv1⟩))
  have c3 := hM1.cell3
  have f3 := frozen_of hM1.st.heap 3
  have hM2 := hM1.setAt (at_ + s.size)
  rw [Int.natCast_add] at hM2
  have hB3 : B ≤ (w1.setCell ⟨b, 3, none⟩ (.int .i64 ((at_ : Int) + (s.size : Int)))).heap.size := Nat.le_trans hB (by have := hch1.size; simpa [World.setCell] using this)
  have hgs := hid (show w1.heap.size = (w1.setCell ⟨b, 3, none⟩ (.int .i64 ((at_ : Int) + (s.size : Int)))).heap.size by simp [World.setCell])
  have hsz : ∀ x ∈ [s.extract 2 s.size], x.size ≤ maxLen := by
    unfold maxLen; intro x hx; simp at hx; subst hx; simp; omega
  go_wp2_with fail
  go_region_held3 (fun _ => True) (trivial) (first | (go_at_call 97; refine (mpush_drew hM2 hB3 [s.extract 2 s.size] (by simp) _ rfl _ _ _ hgs.out rfl hsz (by omega)).mono ?_; rintro e w' ⟨rfl, hch2, hch3, hM4⟩))
  go_wp2_with fail
  go_ret
  exact ⟨rfl, stepped hch1 hch2 h.hb, hM4⟩
end Go.Proofs.YthglfmacjoecgaaGreatDoor
