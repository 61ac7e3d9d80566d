/- Texts of the proof, one behind the other: mill.step walked, a theorem a letter (printed by mk.py). -/
import Derived.Test.YthglfmacjoecgaaGreatDoorMg14
import Derived.Deep.RegionHeld3
namespace Go.Proofs.YthglfmacjoecgaaGreatDoor
open Go.RowKit
theorem cell_alloc {W : World} {a : Addr} {u : Value} (h : W.cell? a = some u) (o : Obj) : (W.alloc o).cell? a = some u :=
  ((Chg.refl (fun _ => False) W).alloc o).cell h (fun h => h)
/-- (*stack).push at a machine, the list just laid; what has changed. -/
theorem mpush_alloc {B : Nat} {w : World} {b : Nat} {v : Value} {code : ByteArray} {inV : Value} {at_ : Nat} {l : List ByteArray} (h : MachV B w b v code inV at_ l) (hB : B ≤ w.heap.size) (ss : List ByteArray) (hn2 : ss.length ≤ 100) (arr : Array Value) (ha : arr = (ss.map Value.string).toArray) (g n c : Nat) (hgw : g = w.heap.size) (hn : n = ss.length) (hsz : ∀ s ∈ ss, s.size ≤ maxLen) (hl : l.length ≤ 1000) :
    Calls Tryz.prog 97 #[.pointer (some ⟨b, 0, none⟩), .slice (some ⟨g, 0, none⟩) n c] (w.alloc (.cells arr 9))
      (Rets (.int .i64 (pushR l ss).1) (fun w' => Chg (fun k => B ≤ k) w w' ∧ Chg (fun k => k = b ∨ v.ownBlock = some k) w w' ∧ ∃ v', MachV B w' b v' code inV at_ (pushR l ss).2)) := by
  subst ha hn hgw
  have h' : MachV B (w.alloc (.cells (ss.map Value.string).toArray 9)) b v code inV at_ l := h.alloc _
  refine (push_any _ b v _ _ l h'.st w.heap.size _ c ss rfl hn2 ?_ ?_ ?_ hsz hl).mono ?_
  · intro i hi
    have : (w.alloc (.cells (ss.map Value.string).toArray 9)).heap[w.heap.size]? = some (.cells (ss.map Value.string).toArray 9 (0, 0)) := heap_alloc_new w _
    have := cell_of this i
    refine this.trans ?_
    simp [hi]
  · have := h.lt; omega
  · intro e; have := h.own_lt _ e; omega
  · rintro e w' ⟨rfl, ht⟩
    have hc : Chg (fun k => k = b ∨ v.ownBlock = some k) w w' := (((Chg.refl _ w).alloc _).trans (let ⟨_, _, _, h3⟩ := ht; h3) (fun _ _ h => h))
    obtain ⟨v', h1, h2⟩ := h'.to (by simp; omega) ht
    exact ⟨rfl, ((Chg.refl _ w).alloc _).trans h2 (fun _ _ h => h), hc, v', h1⟩
def itoaS (n : Nat) : ByteArray := ⟨(Lib.itoa (n : Int)).toArray⟩
theorem grow_chg (w : World) (k : Nat) (os : Array Obj) : Chg (fun _ => False) w (Sort.grow (w.drewN k) os) :=
  ⟨rfl, rfl, rfl, by simp [Sort.grow, World.drewN], fun i hi _ => by simp [Sort.grow, World.drewN, Array.getElem?_append, hi]⟩
theorem tabIs_chg {F : Nat → Prop} {w w' : World} {name : String} {k : IntKind} {zs : List Int} {g : Nat} (hg : Tryz.prog.globalNamed name = some g) (h : Lib.TabIs Tryz.prog w name k zs) (hc : Chg F w w') (hF : ¬ F g) : Lib.TabIs Tryz.prog w' name k zs := by
  unfold Lib.TabIs World.var? at h ⊢
  rw [hg] at h ⊢
  simp only [Option.bind_some] at h ⊢
  cases hb : w.heap[g]? with
  | none => simp [hb] at h
  | some o => rw [hb] at h; rw [hc.obj hb hF]; exact h
theorem itoa_any (n : Nat) (hn : n ≤ 1000) (w : World) (ht : Lib.TabIs Tryz.prog w "internal/strconv.uint64pow10" .u64 Lib.pow10Tab) :
    Calls Tryz.prog 99 #[.int .i64 n] w (Rets (.string (itoaS n)) (Chg (fun _ => False) w)) :=
  (Tryz.strconv_Itoa n (by omega) (by omega) w ht).mono fun _ _ ⟨he, k, os, hw⟩ => ⟨he, hw ▸ grow_chg w k os⟩
theorem decDigits_le : ∀ (u : Nat), (Lib.decDigits u).length ≤ u + 1 := by
  intro u
  induction u using Nat.strongRecOn with
  | ind u ih =>
    rw [Lib.decDigits]
    split
    · simp
    · have := ih (u / 10) (by omega)
      simp only [List.length_append, List.length_cons, List.length_nil]
      omega
theorem itoaS_size (n : Nat) : (itoaS n).size ≤ n + 1 := by
  have : Lib.itoa (n : Int) = Lib.decDigits n := by unfold Lib.itoa; rw [if_neg (by omega)]; rfl
  unfold itoaS
  rw [this]
  exact decDigits_le n

set_option maxRecDepth 100000 in
set_option maxHeartbeats 2000000 in
theorem step_r {B : Nat} {w : World} {b : Nat} {v : Value} {code : ByteArray} {inV : Value} {at_ : Nat} {r : List ByteArray} {p0 : ByteArray} (h : MachV B w b v code inV at_ (r ++ [p0])) (hB : B ≤ w.heap.size) (hr : r.length ≤ 8) (h0 : p0.size ≤ 512) (hat : at_ ≤ 1000)
    (s : ByteArray) (hs1 : 1 ≤ s.size) (hs2 : s.size ≤ 300) (hc : s[0] = 114) :
    Calls Tryz.prog 61 #[.pointer (some ⟨b, 0, none⟩), .string s] w (Stepped B w b code inV (at_ + s.size) (pushR r [revS p0])) := by
  have hc' : ((s[0].toNat : Nat) : Int) = 114 := by rw [hc]; rfl
  have htk : ∀ w : World, Calls Tryz.prog 96 #[.int .u8 114] w (Rets (.int .i64 1) (fun w' => w = w')) := fun w => takes_any 114 w
  have hpop := mpops h.drew hB 1 rfl (by omega) (by omega)
  have hs0 : (0 : Int) < s.size := by omega
  go_enter Tryz.func61, Tryz.ntmps61
  go_wp2_with (go_at_call 95; refine (number_any s _ (by unfold maxLen; omega)).mono ?_; rintro e w' ⟨rfl, rfl⟩)
  go_region_held3 (fun _ => True) (trivial) (first | (go_at_call 96; refine (htk _).mono ?_; rintro e w' ⟨rfl, rfl⟩) | (go_at_call 93; refine hpop.mono ?_; rintro e w1 ⟨lv, rfl, hch1, hlv, v1, hM1, hv1⟩))
  have c3 := hM1.cell3
  have f3 := frozen_of hM1.st.heap 3
  obtain ⟨g, cap, rfl, hcap, hgl⟩ := owns_some hlv (by decide)
  have hgw := (World.ownsRow.lt hlv g rfl).1
  have hgb : g ≠ b := by have := h.lt; simp at *; omega
  have hgv : v1.ownBlock ≠ some g := fun e => by have := hv1 g e; omega
  have e0 : w1.cell? ⟨g, 0, none⟩ = some (.string p0) := hlv.cellAt 0 (by omega)
  have hM2 := hM1.setAt (at_ + s.size)
  rw [Int.natCast_add] at hM2
  have k0 := ((Chg.refl (fun k => k = b) w1).setCell (p := ⟨b, 3, none⟩) (fun _ => rfl) (.int .i64 ((at_ : Int) + (s.size : Int)))).cell e0 hgb
  have hB3 : B ≤ (w1.setCell ⟨b, 3, none⟩ (.int .i64 ((at_ : Int) + (s.size : Int)))).heap.size := Nat.le_trans hB (by have := hch1.size; simpa [World.setCell] using this)
  have hgs := hid (show w1.heap.size = (w1.setCell ⟨b, 3, none⟩ (.int .i64 ((at_ : Int) + (s.size : Int)))).heap.size by simp [World.setCell])
  have hsz : ∀ x ∈ [revS p0], x.size ≤ maxLen := by
    unfold maxLen; intro x hx; simp at hx; subst hx; rw [revS_size]; omega
  have hW : Chg (fun k => B ≤ k) w.drew (w1.setCell ⟨b, 3, none⟩ (.int .i64 ((at_ : Int) + (s.size : Int)))).drew := (hch1.setCell (p := ⟨b, 3, none⟩) (fun _ => h.hb) _).drew
  go_wp2_with fail
  go_region_held3 (fun w' => w'.cell? ⟨g, 0, none⟩ = some (.string p0)) (first | exact q0 | exact q0' | exact hch3.cell q0 (fun h => h.elim hgb hgv) | go_keep) (first | (go_at_call 98; refine (turned_any p0 _ (by unfold maxLen; omega)).mono ?_; rintro e w3 ⟨rfl, hch4⟩; have hM5 := hM2.drew.chg hch4 (fun _ _ h => h); have hB5 := Nat.le_trans hB3 hch4.size; have q0 := hch4.cell (p := ⟨g, 0, none⟩) k0 (fun h => h); have q0' := cell_alloc q0 (.cells #[.string (revS p0)] 9)) | (go_at_call 97; refine (mpush_alloc hM5 hB5 [revS p0] (by simp) _ rfl _ _ _ rfl rfl hsz (by omega)).mono ?_; rintro e w' ⟨rfl, hch2, hch3, hM4⟩))
  go_wp2_with fail
  go_ret
  exact ⟨rfl, ((((Chg.refl _ w).drew).trans hW (fun _ _ h => h)).trans (hch4.mono (fun _ _ h => h.elim)) (fun _ _ h => h)).trans hch2 (fun _ _ h => h), hM4⟩

set_option maxRecDepth 100000 in
set_option maxHeartbeats 2000000 in
theorem step_l {B : Nat} {w : World} {b : Nat} {v : Value} {code : ByteArray} {inV : Value} {at_ : Nat} {r : List ByteArray} {p0 : ByteArray} (h : MachV B w b v code inV at_ (r ++ [p0])) (hB : B ≤ w.heap.size) (hr : r.length ≤ 8) (h0 : p0.size ≤ 512) (hat : at_ ≤ 1000)
    (s : ByteArray) (hs1 : 1 ≤ s.size) (hs2 : s.size ≤ 300) (hc : s[0] = 108) (hT : Lib.TabIs Tryz.prog w "internal/strconv.uint64pow10" .u64 Lib.pow10Tab) (gt : Nat) (hgt : Tryz.prog.globalNamed "internal/strconv.uint64pow10" = some gt) (hgB : gt < B) :
    Calls Tryz.prog 61 #[.pointer (some ⟨b, 0, none⟩), .string s] w (Stepped B w b code inV (at_ + s.size) (pushR r [itoaS p0.size])) := by
  have hc' : ((s[0].toNat : Nat) : Int) = 108 := by rw [hc]; rfl
  have htk : ∀ w : World, Calls Tryz.prog 96 #[.int .u8 108] w (Rets (.int .i64 1) (fun w' => w = w')) := fun w => takes_any 108 w
  have hpop := mpops h.drew hB 1 rfl (by omega) (by omega)
  have hs0 : (0 : Int) < s.size := by omega
  go_enter Tryz.func61, Tryz.ntmps61
  go_wp2_with (go_at_call 95; refine (number_any s _ (by unfold maxLen; omega)).mono ?_; rintro e w' ⟨rfl, rfl⟩)
  go_region_held3 (fun _ => True) (trivial) (first | (go_at_call 96; refine (htk _).mono ?_; rintro e w' ⟨rfl, rfl⟩) | (go_at_call 93; refine hpop.mono ?_; rintro e w1 ⟨lv, rfl, hch1, hlv, v1, hM1, hv1⟩))
  have c3 := hM1.cell3
  have f3 := frozen_of hM1.st.heap 3
  obtain ⟨g, cap, rfl, hcap, hgl⟩ := owns_some hlv (by decide)
  have hgw := (World.ownsRow.lt hlv g rfl).1
  have hgb : g ≠ b := by have := h.lt; simp at *; omega
  have hgv : v1.ownBlock ≠ some g := fun e => by have := hv1 g e; omega
  have e0 : w1.cell? ⟨g, 0, none⟩ = some (.string p0) := hlv.cellAt 0 (by omega)
  have hM2 := hM1.setAt (at_ + s.size)
  rw [Int.natCast_add] at hM2
  have k0 := ((Chg.refl (fun k => k = b) w1).setCell (p := ⟨b, 3, none⟩) (fun _ => rfl) (.int .i64 ((at_ : Int) + (s.size : Int)))).cell e0 hgb
  have hB3 : B ≤ (w1.setCell ⟨b, 3, none⟩ (.int .i64 ((at_ : Int) + (s.size : Int)))).heap.size := Nat.le_trans hB (by have := hch1.size; simpa [World.setCell] using this)
  have hgs := hid (show w1.heap.size = (w1.setCell ⟨b, 3, none⟩ (.int .i64 ((at_ : Int) + (s.size : Int)))).heap.size by simp [World.setCell])
  have hsz : ∀ x ∈ [itoaS p0.size], x.size ≤ maxLen := by
    unfold maxLen; intro x hx; simp at hx; subst hx; have := itoaS_size p0.size; omega
  have hW : Chg (fun k => B ≤ k) w.drew (w1.setCell ⟨b, 3, none⟩ (.int .i64 ((at_ : Int) + (s.size : Int)))).drew := (hch1.setCell (p := ⟨b, 3, none⟩) (fun _ => h.hb) _).drew
  go_wp2_with fail
  go_region_held3 (fun w' => w'.cell? ⟨g, 0, none⟩ = some (.string p0)) (first | exact q0 | exact q0' | exact hch3.cell q0 (fun h => h.elim hgb hgv) | go_keep) (first | (go_at_call 99; refine (itoa_any p0.size (by omega) _ (tabIs_chg (g := gt) hgt hT (((Chg.refl _ w).drew).trans hW (fun _ _ h => h)) (by omega))).mono ?_; rintro e w3 ⟨rfl, hch4⟩; have hM5 := hM2.drew.chg hch4 (fun _ _ h => h); have hB5 := Nat.le_trans hB3 hch4.size; have q0 := hch4.cell (p := ⟨g, 0, none⟩) k0 (fun h => h); have q0' := cell_alloc q0 (.cells #[.string (itoaS p0.size)] 9)) | (go_at_call 97; refine (mpush_alloc hM5 hB5 [itoaS p0.size] (by simp) _ rfl _ _ _ rfl rfl hsz (by omega)).mono ?_; rintro e w' ⟨rfl, hch2, hch3, hM4⟩))
  go_wp2_with fail
  go_ret
  exact ⟨rfl, ((((Chg.refl _ w).drew).trans hW (fun _ _ h => h)).trans (hch4.mono (fun _ _ h => h.elim)) (fun _ _ h => h)).trans hch2 (fun _ _ h => h), hM4⟩
end Go.Proofs.YthglfmacjoecgaaGreatDoor
