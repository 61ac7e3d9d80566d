/- mill.step walked, a theorem a letter (printed by mk.py). -/
import Derived.Test.YtegappcdmaodjaaDoorMiH
import Derived.Deep.RegionHeld3
namespace Go.Proofs.YtegappcdmaodjaaDoor
open Go.RowKit

set_option maxRecDepth 100000 in
set_option maxHeartbeats 2000000 in
theorem step_i {B : Nat} {w : World} {b : Nat} {v : Value} {code : ByteArray} {inV : Value} {at_ : Nat} {r : List ByteArray} (h : MachV B w b v code inV at_ (r ++ [])) (hB : B ≤ w.heap.size) (hr : r.length ≤ 8) (hat : at_ ≤ 1000)
    (s : ByteArray) (hs1 : 1 ≤ s.size) (hs2 : s.size ≤ 300) (hc : s[0] = 105) {ins : List ByteArray} {w0 : World} (hin : StrsAt w0 inV ins) (hw0 : w0.heap.size ≤ B) (hc0 : Chg (fun k => B ≤ k) w0 w) (hn : numN s < ins.length) :
    Calls Tryd.prog 21 #[.pointer (some ⟨b, 0, none⟩), .string s] w (Stepped B w b code inV (at_ + s.size) (pushR r [ins[numN s]])) := by
  have hc' : ((s[0].toNat : Nat) : Int) = 105 := by rw [hc]; rfl
  have htk : ∀ w : World, Calls Tryd.prog 31 #[.int .u8 105] w (Rets (.int .i64 0) (fun w' => w = w')) := fun w => takes_any 105 w
  have hpop := mpops h.drew hB 0 rfl (by omega) (by omega)
  have hs0 : (0 : Int) < s.size := by omega
  have hn' : (numN s : Int) < (ins.length : Int) := by omega
  have hlenI := fun W ty => hin.len (P := Tryd.prog) Tryd.underlying22 W ty
  obtain ⟨ad, hix, hadc, hadb⟩ := hin.ix (P := Tryd.prog) Tryd.underlying22 Tryd.sizeOf9 (numN s) hn
  have c2 := h.cell2
  have hadB : ad.block < B := by omega
  have hadS := hin.2.2 _ (List.getElem_mem hn)
  go_enter Tryd.func21, Tryd.ntmps21
  go_wp2_with (go_at_call 30; refine (number_any s _ (by unfold maxLen; omega)).mono ?_; rintro e w' ⟨rfl, rfl⟩)
  go_region_held3 (fun _ => True) (trivial) (first | (go_at_call 31; refine (htk _).mono ?_; rintro e w' ⟨rfl, rfl⟩) | (go_at_call 28; refine hpop.mono ?_; rintro e w1 ⟨lv, rfl, hch1, hlv, v1, hM1, hv1⟩))
  have c3 := hM1.cell3
  have f3 := frozen_of hM1.st.heap 3
  have hM2 := hM1.setAt (at_ + s.size)
  rw [Int.natCast_add] at hM2
  have hB3 : B ≤ (w1.setCell ⟨b, 3, none⟩ (.int .i64 ((at_ : Int) + (s.size : Int)))).heap.size := Nat.le_trans hB (by have := hch1.size; simpa [World.setCell] using this)
  have hgs := hid (show w1.heap.size = (w1.setCell ⟨b, 3, none⟩ (.int .i64 ((at_ : Int) + (s.size : Int)))).heap.size by simp [World.setCell])
  have hW : Chg (fun k => B ≤ k) w.drew (w1.setCell ⟨b, 3, none⟩ (.int .i64 ((at_ : Int) + (s.size : Int)))) := hch1.setCell (p := ⟨b, 3, none⟩) (fun _ => h.hb) _
  have k0 : (w1.setCell ⟨b, 3, none⟩ (.int .i64 ((at_ : Int) + (s.size : Int)))).cell? ⟨b, 2, none⟩ = some inV := hM2.cell2
  have k1 : (w1.setCell ⟨b, 3, none⟩ (.int .i64 ((at_ : Int) + (s.size : Int)))).cell? ad = some (.string ins[numN s]) := (hc0.trans ((((Chg.refl _ w).drew).trans hW (fun _ _ h => h))) (fun _ _ h => h)).cell hadc (by simp; omega)
  have hsz : ∀ x ∈ [ins[numN s]], x.size ≤ maxLen := by
    intro x hx; simp at hx; subst hx; exact hadS
  have k0' := cell_alloc_drew k0 (.cells #[.string ins[numN s]] 9)
  have k1' := cell_alloc_drew k1 (.cells #[.string ins[numN s]] 9)
  go_wp2_with fail
  go_region_held3 (fun w' => w'.cell? ⟨b, 2, none⟩ = some inV ∧ w'.cell? ad = some (.string ins[numN s])) (first | go_keep | exact ⟨k0', k1'⟩ | (obtain ⟨v4, hM5⟩ := hM4; exact ⟨hM5.cell2, hch2.cell k1 (by simp; omega)⟩)) (first | (go_at_call 32; refine (mpush_drew hM2 hB3 [ins[numN s]] (by simp) _ rfl _ _ _ hgs.out rfl hsz (by omega)).mono ?_; rintro e w' ⟨rfl, hch2, hch3, hM4⟩))
  go_wp2_with fail
  go_ret
  exact ⟨rfl, stepped hch1 hch2 h.hb, hM4⟩

set_option maxRecDepth 100000 in
set_option maxHeartbeats 2000000 in
theorem step_bad {B : Nat} {w : World} {b : Nat} {v : Value} {code : ByteArray} {inV : Value} {at_ : Nat} {l : List ByteArray} (h : MachV B w b v code inV at_ l)
    (s : ByteArray) (hs1 : 1 ≤ s.size) (hs2 : s.size ≤ 300) (hc : s[0] = 105) {ins : List ByteArray} {w0 : World} (hin : StrsAt w0 inV ins) (hn : ins.length ≤ numN s) :
    Calls Tryd.prog 21 #[.pointer (some ⟨b, 0, none⟩), .string s] w (Stepped B w b code inV at_ (32, l)) := by
  have hc' : ((s[0].toNat : Nat) : Int) = 105 := by rw [hc]; rfl
  have hn' : (ins.length : Int) ≤ (numN s : Int) := by omega
  have hlenI := fun W ty => hin.len (P := Tryd.prog) Tryd.underlying22 W ty
  have c2 := h.cell2
  have hs0 : (0 : Int) < s.size := by omega
  go_enter Tryd.func21, Tryd.ntmps21
  go_wp2_with (go_at_call 30; refine (number_any s _ (by unfold maxLen; omega)).mono ?_; rintro e w' ⟨rfl, rfl⟩)
  go_ret
  exact ⟨rfl, Chg.refl _ w, v, h⟩

set_option maxRecDepth 100000 in
set_option maxHeartbeats 2000000 in
theorem step_few {B : Nat} {w : World} {b : Nat} {v : Value} {code : ByteArray} {inV : Value} {at_ : Nat} {l : List ByteArray} (h : MachV B w b v code inV at_ l)
    (s : ByteArray) (hs1 : 1 ≤ s.size) (hs2 : s.size ≤ 300) (hc : s[0] ≠ 105) (hl : l.length < takeN s[0]) :
    Calls Tryd.prog 21 #[.pointer (some ⟨b, 0, none⟩), .string s] w (Stepped B w b code inV at_ (31, l)) := by
  have hc' : ((s[0].toNat : Int) == 105) = false := by
    simp
    intro e
    exact hc (UInt8.toNat_inj.1 (by have : (105 : UInt8).toNat = 105 := rfl; omega))
  have htk : ∀ w : World, Calls Tryd.prog 31 #[.int .u8 s[0].toNat] w (Rets (.int .i64 (takeN s[0])) (fun w' => w = w')) := fun w => takes_any s[0] w
  have ht2 : takeN s[0] ≤ 2 := by unfold takeN; split <;> (try split) <;> omega
  have hpop := pop_less w.drew b v _ _ l h.drew.st (takeN s[0]) hl ht2
  have hs0 : (0 : Int) < s.size := by omega
  go_enter Tryd.func21, Tryd.ntmps21
  go_wp2_with (go_at_call 30; refine (number_any s _ (by unfold maxLen; omega)).mono ?_; rintro e w' ⟨rfl, rfl⟩)
  go_region_held3 (fun _ => True) (trivial) (first | (go_at_call 31; refine (htk _).mono ?_; rintro e w' ⟨rfl, rfl⟩) | (go_at_call 28; refine hpop.mono ?_; rintro e w1 ⟨rfl, rfl⟩))
  go_wp2_with fail
  go_ret
  exact ⟨rfl, (Chg.refl _ w).drew, v, h.drew⟩
end Go.Proofs.YtegappcdmaodjaaDoor
