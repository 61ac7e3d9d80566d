/- Texts of the proof, one behind the other: mill.step walked, a theorem a letter (printed by mk.py); mill.step walked, a theorem a letter (printed by mk.py); mill.step walked, all letters joined: what a step leaves is stepRM. -/
import Derived.Test.YthglfmacjoecgaaGreatDoorMh10
import Derived.Deep.RegionHeld3
namespace Go.Proofs.YthglfmacjoecgaaGreatDoor
open Go.RowKit
theorem cell_alloc {W : World} {a : Addr} {u : Value} (h : W.cell? a = some u) (o : Obj) : (W.alloc o).cell? a = some u :=
  ((Chg.refl (fun _ => False) W).alloc o).cell h (fun h => h)
/-- (*stack).push at a machine, the list just laid; what has changed. -/
theorem mpush_alloc {B : Nat} {w : World} {b : Nat} {v : Value} {code : ByteArray} {inV : Value} {at_ : Nat} {l : List ByteArray} (h : MachV B w b v code inV at_ l) (hB : B ≤ w.heap.size) (ss : List ByteArray) (hn2 : ss.length ≤ 100) (arr : Array Value) (ha : arr = (ss.map Value.string).toArray) (g n c : Nat) (hgw : g = w.heap.size) (hn : n = ss.length) (hsz : ∀ s ∈ ss, s.size ≤ maxLen) (hl : l.length ≤ 1000) :
    Calls Tryz.prog 97 #[.pointer (some ⟨b, 0, none⟩), .slice (some ⟨g, 0, none⟩) n c] (w.alloc (.cells arr 9))
      (Rets (.int .i64 (pushR l ss).1) (fun w' => Chg (fun k => B ≤ k) w w' ∧ Chg (fun k => k = b ∨ v.ownBlock = some k) w w' ∧ ∃ v', MachV B w' b v' code inV at_ (pushR l ss).2)) := by
  subst ha hn hgw
  have h' : MachV B (w.alloc (.cells (ss.map Value.string).toArray 9)) b v code inV at_ l := h.alloc _
  refine (push_any _ b v _ _ l h'.st w.heap.size _ c ss rfl hn2 ?_ ?_ ?_ hsz hl).mono ?_
  · intro i hi
    have : (w.alloc (.cells (ss.map Value.string).toArray 9)).heap[w.heap.size]? = some (.cells (ss.map Value.string).toArray 9 (0, 0)) := heap_alloc_new w _
    have := cell_of this i
    refine this.trans ?_
    simp [hi]
  · have := h.lt; omega
  · intro e; have := h.own_lt _ e; omega
  · rintro e w' ⟨rfl, ht⟩
    have hc : Chg (fun k => k = b ∨ v.ownBlock = some k) w w' := (((Chg.refl _ w).alloc _).trans (let ⟨_, _, _, h3⟩ := ht; h3) (fun _ _ h => h))
    obtain ⟨v', h1, h2⟩ := h'.to (by simp; omega) ht
    exact ⟨rfl, ((Chg.refl _ w).alloc _).trans h2 (fun _ _ h => h), hc, v', h1⟩
def itoaS (n : Nat) : ByteArray := ⟨(Lib.itoa (n : Int)).toArray⟩
theorem grow_chg (w : World) (k : Nat) (os : Array Obj) : Chg (fun _ => False) w (Sort.grow (w.drewN k) os) :=
  ⟨rfl, rfl, rfl, by simp [Sort.grow, World.drewN], fun i hi _ => by simp [Sort.grow, World.drewN, Array.getElem?_append, hi]⟩
theorem tabIs_chg {F : Nat → Prop} {w w' : World} {name : String} {k : IntKind} {zs : List Int} {g : Nat} (hg : Tryz.prog.globalNamed name = some g) (h : Lib.TabIs Tryz.prog w name k zs) (hc : Chg F w w') (hF : ¬ F g) : Lib.TabIs Tryz.prog w' name k zs := by
  unfold Lib.TabIs World.var? at h ⊢
  rw [hg] at h ⊢
  simp only [Option.bind_some] at h ⊢
  cases hb : w.heap[g]? with
  | none => simp [hb] at h
  | some o => rw [hb] at h; rw [hc.obj hb hF]; exact h
theorem itoa_any (n : Nat) (hn : n ≤ 1000) (w : World) (ht : Lib.TabIs Tryz.prog w "internal/strconv.uint64pow10" .u64 Lib.pow10Tab) :
    Calls Tryz.prog 99 #[.int .i64 n] w (Rets (.string (itoaS n)) (Chg (fun _ => False) w)) :=
  (Tryz.strconv_Itoa n (by omega) (by omega) w ht).mono fun _ _ ⟨he, k, os, hw⟩ => ⟨he, hw ▸ grow_chg w k os⟩
theorem decDigits_le : ∀ (u : Nat), (Lib.decDigits u).length ≤ u + 1 := by
  intro u
  induction u using Nat.strongRecOn with
  | ind u ih =>
    rw [Lib.decDigits]
    split
    · simp
    · have := ih (u / 10) (by omega)
      simp only [List.length_append, List.length_cons, List.length_nil]
      omega
theorem itoaS_size (n : Nat) : (itoaS n).size ≤ n + 1 := by
  have : Lib.itoa (n : Int) = Lib.decDigits n := by unfold Lib.itoa; rw [if_neg (by omega)]; rfl
  unfold itoaS
  rw [this]
  exact decDigits_le n

set_option maxRecDepth 100000 in
set_option maxHeartbeats 2000000 in
theorem step_r {B : Nat} {w : World} {b : Nat} {v : Value} {code : ByteArray} {inV : Value} {at_ : Nat} {r : List ByteArray} {p0 : ByteArray} (h : MachV B w b v code inV at_ (r ++ [p0])) (hB : B ≤ w.heap.size) (hr : r.length ≤ 8) (h0 : p0.size ≤ 512) (hat : at_ ≤ 1000)
    (s : ByteArray) (hs1 : 1 ≤ s.size) (hs2 : s.size ≤ 300) (hc : s[0] = 114) :
    Calls Tryz.prog 61 #[.pointer (some ⟨b, 0, none⟩), .string s] w (Stepped B w b code inV (at_ + s.size) (pushR r [revS p0])) := by
  have hc' : ((s[0].toNat : Nat) : Int) = 114 := by rw [hc]; rfl
  have htk : ∀ w : World, Calls Tryz.prog 96 #[.int .u8 114] w (Rets (.int .i64 1) (fun w' => w = w')) := fun w => takes_any 114 w
  have hpop := mpops h.drew hB 1 rfl (by omega) (by omega)
  have hs0 : (0 : Int) < s.size := by omega
  go_enter Tryz.func61, Tryz.ntmps61
  go_wp2_with (go_at_call 95; refine (number_any s _ (by unfold maxLen; omega)).mono ?_; rintro e w' ⟨rfl, rfl⟩)
  go_region_held3 (fun _ => True) (trivial) (first | (go_at_call 96; refine (htk _).mono ?_; rintro e w' ⟨rfl, rfl⟩) | (go_at_call 93; refine hpop.mono ?_; rintro e w1 ⟨lv, rfl, hch1, hlv, v1, hM1, hv1⟩))
  have c3 := hM1.cell3
  have f3 := frozen_of hM1.st.heap 3
  obtain ⟨g, cap, rfl, hcap, hgl⟩ := owns_some hlv (by decide)
  have hgw := (World.ownsRow.lt hlv g rfl).1
  have hgb : g ≠ b := by have := h.lt; simp at *; omega
  have hgv : v1.ownBlock ≠ some g := fun e => by have := hv1 g e; omega
  have e0 : w1.cell? ⟨g, 0, none⟩ = some (.string p0) := hlv.cellAt 0 (by omega)
  have hM2 := hM1.setAt (at_ + s.size)
  rw [Int.natCast_add] at hM2
  have k0 := ((Chg.refl (fun k => k = b) w1).setCell (p := ⟨b, 3, none⟩) (fun _ => rfl) (.int .i64 ((at_ : Int) + (s.size : Int)))).cell e0 hgb
  have hB3 : B ≤ (w1.setCell ⟨b, 3, none⟩ (.int .i64 ((at_ : Int) + (s.size : Int)))).heap.size := Nat.le_trans hB (by have := hch1.size; simpa [World.setCell] using this)
  have hgs := hid (show w1.heap.size = (w1.setCell ⟨b, 3, none⟩ (.int .i64 ((at_ : Int) + (s.size : Int)))).heap.size by simp [World.setCell])
  have hsz : ∀ x ∈ [revS p0], x.size ≤ maxLen := by
    unfold maxLen; intro x hx; simp at hx; subst hx; rw [revS_size]; omega
  have hW : Chg (fun k => B ≤ k) w.drew (w1.setCell ⟨b, 3, none⟩ (.int .i64 ((at_ : Int) + (s.size : Int)))).drew := (hch1.setCell (p := ⟨b, 3, none⟩) (fun _ => h.hb) _).drew
  go_wp2_with fail
  go_region_held3 (fun w' => w'.cell? ⟨g, 0, none⟩ = some (.string p0)) (first | exact q0 | exact q0' | exact hch3.cell q0 (fun h => h.elim hgb hgv) | go_keep) (first | (go_at_call 98; refine (turned_any p0 _ (by unfold maxLen; omega)).mono ?_; rintro e w3 ⟨rfl, hch4⟩; have hM5 := hM2.drew.chg hch4 (fun _ _ h => h); have hB5 := Nat.le_trans hB3 hch4.size; have q0 := hch4.cell (p := ⟨g, 0, none⟩) k0 (fun h => h); have q0' := cell_alloc q0 (.cells #[.string (revS p0)] 9)) | (go_at_call 97; refine (mpush_alloc hM5 hB5 [revS p0] (by simp) _ rfl _ _ _ rfl rfl hsz (by omega)).mono ?_; rintro e w' ⟨rfl, hch2, hch3, hM4⟩))
  go_wp2_with fail
  go_ret
  exact ⟨rfl, ((((Chg.refl _ w).drew).trans hW (fun _ _ h => h)).trans (hch4.mono (fun _ _ h => h.elim)) (fun _ _ h => h)).trans hch2 (fun _ _ h => h), hM4⟩

set_option maxRecDepth 100000 in
set_option maxHeartbeats 2000000 in
theorem step_l {B : Nat} {w : World} {b : Nat} {v : Value} {code : ByteArray} {inV : Value} {at_ : Nat} {r : List ByteArray} {p0 : ByteArray} (h : MachV B w b v code inV at_ (r ++ [p0])) (hB : B ≤ w.heap.size) (hr : r.length ≤ 8) (h0 : p0.size ≤ 512) (hat : at_ ≤ 1000)
    (s : ByteArray) (hs1 : 1 ≤ s.size) (hs2 : s.size ≤ 300) (hc : s[0] = 108) (hT : Lib.TabIs Tryz.prog w "internal/strconv.uint64pow10" .u64 Lib.pow10Tab) (gt : Nat) (hgt : Tryz.prog.globalNamed "internal/strconv.uint64pow10" = some gt) (hgB : gt < B) :
    Calls Tryz.prog 61 #[.pointer (some ⟨b, 0, none⟩), .string s] w (Stepped B w b code inV (at_ + s.size) (pushR r [itoaS p0.size])) := by
  have hc' : ((s[0].toNat : Nat) : Int) = 108 := by rw [hc]; rfl
  have htk : ∀ w : World, Calls Tryz.prog 96 #[.int .u8 108] w (Rets (.int .i64 1) (fun w' => w = w')) := fun w => takes_any 108 w
  have hpop := mpops h.drew hB 1 rfl (by omega) (by omega)
  have hs0 : (0 : Int) < s.size := by omega
  go_enter Tryz.func61, Tryz.ntmps61
  go_wp2_with (go_at_call 95; refine (number_any s _ (by unfold maxLen; omega)).mono ?_; rintro e w' ⟨rfl, rfl⟩)
  go_region_held3 (fun _ => True) (trivial) (first | (go_at_call 96; refine (htk _).mono ?_; rintro e w' ⟨rfl, rfl⟩) | (go_at_call 93; refine hpop.mono ?_; rintro e w1 ⟨lv, rfl, hch1, hlv, v1, hM1, hv1⟩))
  have c3 := hM1.cell3
  have f3 := frozen_of hM1.st.heap 3
  obtain ⟨g, cap, rfl, hcap, hgl⟩ := owns_some hlv (by decide)
  have hgw := (World.ownsRow.lt hlv g rfl).1
  have hgb : g ≠ b := by have := h.lt; simp at *; omega
  have hgv : v1.ownBlock ≠ some g := fun e => by have := hv1 g e; omega
  have e0 : w1.cell? ⟨g, 0, none⟩ = some (.string p0) := hlv.cellAt 0 (by omega)
  have hM2 := hM1.setAt (at_ + s.size)
  rw [Int.natCast_add] at hM2
  have k0 := ((Chg.refl (fun k => k = b) w1).setCell (p := ⟨b, 3, none⟩) (fun _ => rfl) (.int .i64 ((at_ : Int) + (s.size : Int)))).cell e0 hgb
  have hB3 : B ≤ (w1.setCell ⟨b, 3, none⟩ (.int .i64 ((at_ : Int) + (s.size : Int)))).heap.size := Nat.le_trans hB (by have := hch1.size; simpa [World.setCell] using this)
  have hgs := hid (show w1.heap.size = (w1.setCell ⟨b, 3, none⟩ (.int .i64 ((at_ : Int) + (s.size : Int)))).heap.size by simp [World.setCell])
  have hsz : ∀ x ∈ [itoaS p0.size], x.size ≤ maxLen := by
    unfold maxLen; intro x hx; simp at hx; subst hx; have := itoaS_size p0.size; omega
  have hW : Chg (fun k => B ≤ k) w.drew (w1.setCell ⟨b, 3, none⟩ (.int .i64 ((at_ : Int) + (s.size : Int)))).drew := (hch1.setCell (p := ⟨b, 3, none⟩) (fun _ => h.hb) _).drew
  go_wp2_with fail
  go_region_held3 (fun w' => w'.cell? ⟨g, 0, none⟩ = some (.string p0)) (first | exact q0 | exact q0' | exact hch3.cell q0 (fun h => h.elim hgb hgv) | go_keep) (first | (go_at_call 99; refine (itoa_any p0.size (by omega) _ (tabIs_chg (g := gt) hgt hT (((Chg.refl _ w).drew).trans hW (fun _ _ h => h)) (by omega))).mono ?_; rintro e w3 ⟨rfl, hch4⟩; have hM5 := hM2.drew.chg hch4 (fun _ _ h => h); have hB5 := Nat.le_trans hB3 hch4.size; have q0 := hch4.cell (p := ⟨g, 0, none⟩) k0 (fun h => h); have q0' := cell_alloc q0 (.cells #[.string (itoaS p0.size)] 9)) | (go_at_call 97; refine (mpush_alloc hM5 hB5 [itoaS p0.size] (by simp) _ rfl _ _ _ rfl rfl hsz (by omega)).mono ?_; rintro e w' ⟨rfl, hch2, hch3, hM4⟩))
  go_wp2_with fail
  go_ret
  exact ⟨rfl, ((((Chg.refl _ w).drew).trans hW (fun _ _ h => h)).trans (hch4.mono (fun _ _ h => h.elim)) (fun _ _ h => h)).trans hch2 (fun _ _ h => h), hM4⟩
end Go.Proofs.YthglfmacjoecgaaGreatDoor
namespace Go.Proofs.YthglfmacjoecgaaGreatDoor
open Go.RowKit

set_option maxRecDepth 100000 in
set_option maxHeartbeats 2000000 in
theorem step_i {B : Nat} {w : World} {b : Nat} {v : Value} {code : ByteArray} {inV : Value} {at_ : Nat} {r : List ByteArray} (h : MachV B w b v code inV at_ (r ++ [])) (hB : B ≤ w.heap.size) (hr : r.length ≤ 8) (hat : at_ ≤ 1000)
    (s : ByteArray) (hs1 : 1 ≤ s.size) (hs2 : s.size ≤ 300) (hc : s[0] = 105) {ins : List ByteArray} {w0 : World} (hin : StrsAt w0 inV ins) (hw0 : w0.heap.size ≤ B) (hc0 : Chg (fun k => B ≤ k) w0 w) (hn : numN s < ins.length) :
    Calls Tryz.prog 61 #[.pointer (some ⟨b, 0, none⟩), .string s] w (Stepped B w b code inV (at_ + s.size) (pushR r [ins[numN s]])) := by
  have hc' : ((s[0].toNat : Nat) : Int) = 105 := by rw [hc]; rfl
  have htk : ∀ w : World, Calls Tryz.prog 96 #[.int .u8 105] w (Rets (.int .i64 0) (fun w' => w = w')) := fun w => takes_any 105 w
  have hpop := mpops h.drew hB 0 rfl (by omega) (by omega)
  have hs0 : (0 : Int) < s.size := by omega
  have hn' : (numN s : Int) < (ins.length : Int) := by omega
  have hlenI := fun W ty => hin.len (P := Tryz.prog) Tryz.underlying22 W ty
  obtain ⟨ad, hix, hadc, hadb⟩ := hin.ix (P := Tryz.prog) Tryz.underlying22 Tryz.sizeOf9 (numN s) hn
  have c2 := h.cell2
  have hadB : ad.block < B := by omega
  have hadS := hin.2.2 _ (List.getElem_mem hn)
  go_enter Tryz.func61, Tryz.ntmps61
  go_wp2_with (go_at_call 95; refine (number_any s _ (by unfold maxLen; omega)).mono ?_; rintro e w' ⟨rfl, rfl⟩)
  go_region_held3 (fun _ => True) (trivial) (first | (go_at_call 96; refine (htk _).mono ?_; rintro e w' ⟨rfl, rfl⟩) | (go_at_call 93; refine hpop.mono ?_; rintro e w1 ⟨lv, rfl, hch1, hlv, v1, hM1, hv1⟩))
  have c3 := hM1.cell3
  have f3 := frozen_of hM1.st.heap 3
  have hM2 := hM1.setAt (at_ + s.size)
  rw [Int.natCast_add] at hM2
  have hB3 : B ≤ (w1.setCell ⟨b, 3, none⟩ (.int .i64 ((at_ : Int) + (s.size : Int)))).heap.size := Nat.le_trans hB (by have := hch1.size; simpa [World.setCell] using this)
  have hgs := hid (show w1.heap.size = (w1.setCell ⟨b, 3, none⟩ (.int .i64 ((at_ : Int) + (s.size : Int)))).heap.size by simp [World.setCell])
  have hW : Chg (fun k => B ≤ k) w.drew (w1.setCell ⟨b, 3, none⟩ (.int .i64 ((at_ : Int) + (s.size : Int)))) := hch1.setCell (p := ⟨b, 3, none⟩) (fun _ => h.hb) _
  have k0 : (w1.setCell ⟨b, 3, none⟩ (.int .i64 ((at_ : Int) + (s.size : Int)))).cell? ⟨b, 2, none⟩ = some inV := hM2.cell2
  have k1 : (w1.setCell ⟨b, 3, none⟩ (.int .i64 ((at_ : Int) + (s.size : Int)))).cell? ad = some (.string ins[numN s]) := (hc0.trans ((((Chg.refl _ w).drew).trans hW (fun _ _ h => h))) (fun _ _ h => h)).cell hadc (by simp; omega)
  have hsz : ∀ x ∈ [ins[numN s]], x.size ≤ maxLen := by
    intro x hx; simp at hx; subst hx; exact hadS
  have k0' := cell_alloc_drew k0 (.cells #[.string ins[numN s]] 9)
  have k1' := cell_alloc_drew k1 (.cells #[.string ins[numN s]] 9)
  go_wp2_with fail
  go_region_held3 (fun w' => w'.cell? ⟨b, 2, none⟩ = some inV ∧ w'.cell? ad = some (.string ins[numN s])) (first | go_keep | exact ⟨k0', k1'⟩ | (obtain ⟨v4, hM5⟩ := hM4; exact ⟨hM5.cell2, hch2.cell k1 (by simp; omega)⟩)) (first | (go_at_call 97; refine (mpush_drew hM2 hB3 [ins[numN s]] (by simp) _ rfl _ _ _ hgs.out rfl hsz (by omega)).mono ?_; rintro e w' ⟨rfl, hch2, hch3, hM4⟩))
  go_wp2_with fail
  go_ret
  exact ⟨rfl, stepped hch1 hch2 h.hb, hM4⟩

set_option maxRecDepth 100000 in
set_option maxHeartbeats 2000000 in
theorem step_bad {B : Nat} {w : World} {b : Nat} {v : Value} {code : ByteArray} {inV : Value} {at_ : Nat} {l : List ByteArray} (h : MachV B w b v code inV at_ l)
    (s : ByteArray) (hs1 : 1 ≤ s.size) (hs2 : s.size ≤ 300) (hc : s[0] = 105) {ins : List ByteArray} {w0 : World} (hin : StrsAt w0 inV ins) (hn : ins.length ≤ numN s) :
    Calls Tryz.prog 61 #[.pointer (some ⟨b, 0, none⟩), .string s] w (Stepped B w b code inV at_ (32, l)) := by
  have hc' : ((s[0].toNat : Nat) : Int) = 105 := by rw [hc]; rfl
  have hn' : (ins.length : Int) ≤ (numN s : Int) := by omega
  have hlenI := fun W ty => hin.len (P := Tryz.prog) Tryz.underlying22 W ty
  have c2 := h.cell2
  have hs0 : (0 : Int) < s.size := by omega
  go_enter Tryz.func61, Tryz.ntmps61
  go_wp2_with (go_at_call 95; refine (number_any s _ (by unfold maxLen; omega)).mono ?_; rintro e w' ⟨rfl, rfl⟩)
  go_ret
  exact ⟨rfl, Chg.refl _ w, v, h⟩

set_option maxRecDepth 100000 in
set_option maxHeartbeats 2000000 in
theorem step_few {B : Nat} {w : World} {b : Nat} {v : Value} {code : ByteArray} {inV : Value} {at_ : Nat} {l : List ByteArray} (h : MachV B w b v code inV at_ l)
    (s : ByteArray) (hs1 : 1 ≤ s.size) (hs2 : s.size ≤ 300) (hc : s[0] ≠ 105) (hl : l.length < takeN s[0]) :
    Calls Tryz.prog 61 #[.pointer (some ⟨b, 0, none⟩), .string s] w (Stepped B w b code inV at_ (31, l)) := by
  have hc' : ((s[0].toNat : Int) == 105) = false := by
    simp
    intro e
    exact hc (UInt8.toNat_inj.1 (by have : (105 : UInt8).toNat = 105 := rfl; omega))
  have htk : ∀ w : World, Calls Tryz.prog 96 #[.int .u8 s[0].toNat] w (Rets (.int .i64 (takeN s[0])) (fun w' => w = w')) := fun w => takes_any s[0] w
  have ht2 : takeN s[0] ≤ 2 := by unfold takeN; split <;> (try split) <;> omega
  have hpop := pop_less w.drew b v _ _ l h.drew.st (takeN s[0]) hl ht2
  have hs0 : (0 : Int) < s.size := by omega
  go_enter Tryz.func61, Tryz.ntmps61
  go_wp2_with (go_at_call 95; refine (number_any s _ (by unfold maxLen; omega)).mono ?_; rintro e w' ⟨rfl, rfl⟩)
  go_region_held3 (fun _ => True) (trivial) (first | (go_at_call 96; refine (htk _).mono ?_; rintro e w' ⟨rfl, rfl⟩) | (go_at_call 93; refine hpop.mono ?_; rintro e w1 ⟨rfl, rfl⟩))
  go_wp2_with fail
  go_ret
  exact ⟨rfl, (Chg.refl _ w).drew, v, h.drew⟩
end Go.Proofs.YthglfmacjoecgaaGreatDoor
namespace Go.Proofs.YthglfmacjoecgaaGreatDoor
open Go.RowKit

/-- The tables that step reads (laid once; blocks below B). -/
def gPow : Nat := 2
theorem powG : Tryz.prog.globalNamed "internal/strconv.uint64pow10" = some gPow := by kernel_rfl
def gWds : Nat := 0
theorem wdsG : Tryz.prog.globalNamed "apiary/stamp.words" = some gWds := by kernel_rfl
def wordsTab : List Int := [1116352408, 1899447441, 3049323471, 3921009573, 961987163, 1508970993, 2453635748, 2870763221, 3624381080, 310598401, 607225278, 1426881987, 1925078388, 2162078206, 2614888103, 3248222580, 3835390401, 4022224774, 264347078, 604807628, 770255983, 1249150122, 1555081692, 1996064986, 2554220882, 2821834349, 2952996808, 3210313671, 3336571891, 3584528711, 113926993, 338241895, 666307205, 773529912, 1294757372, 1396182291, 1695183700, 1986661051, 2177026350, 2456956037, 2730485921, 2820302411, 3259730800, 3345764771, 3516065817, 3600352804, 4094571909, 275423344, 430227734, 506948616, 659060556, 883997877, 958139571, 1322822218, 1537002063, 1747873779, 1955562222, 2024104815, 2227730452, 2361852424, 2428436474, 2756734187, 3204031479, 3329325298]
structure TabsOK (B : Nat) (w : World) : Prop where
  pow : Lib.TabIs Tryz.prog w "internal/strconv.uint64pow10" .u64 Lib.pow10Tab
  wds : Lib.TabIs Tryz.prog w "apiary/stamp.words" .u32 wordsTab
  gp : gPow < B
  gw : gWds < B
theorem TabsOK.chg {B : Nat} {w w' : World} (h : TabsOK B w) (hc : Chg (fun k => B ≤ k) w w') : TabsOK B w' :=
  ⟨tabIs_chg powG h.pow hc (by have := h.gp; omega), tabIs_chg wdsG h.wds hc (by have := h.gw; omega), h.gp, h.gw⟩

/-- A letter that begins a step. -/
def okL (c : UInt8) : Bool := plainB c || numB c || c == 112
theorem okL_mem (c : UInt8) (h : okL c = true) : c = 99 ∨ c = 100 ∨ c = 115 ∨ c = 120 ∨ c = 114 ∨ c = 104 ∨ c = 108 ∨ c = 61 ∨ c = 105 ∨ c = 116 ∨ c = 107 ∨ c = 106 ∨ c = 103 ∨ c = 112 := by
  have key : ∀ n : Fin 256, okL (UInt8.ofNat n.1) = true → (n.1 = 99 ∨ n.1 = 100 ∨ n.1 = 115 ∨ n.1 = 120 ∨ n.1 = 114 ∨ n.1 = 104 ∨ n.1 = 108 ∨ n.1 = 61 ∨ n.1 = 105 ∨ n.1 = 116 ∨ n.1 = 107 ∨ n.1 = 106 ∨ n.1 = 103 ∨ n.1 = 112) := by decide +kernel
  have h1 := key ⟨c.toNat, c.toNat_lt⟩ (by simpa using h)
  simp only at h1
  have e : ∀ k : Nat, c.toNat = k → c = UInt8.ofNat k := fun k hk => by rw [← hk]; simp
  rcases h1 with h | h | h | h | h | h | h | h | h | h | h | h | h | h <;> (have := e _ h; subst this; decide)

def putsR (H : ByteArray → ByteArray) (ins : List ByteArray) (c : UInt8) (n : Nat) (s a b : ByteArray) : List ByteArray :=
  if c = 105 then [ins.getD n .empty] else if c = 112 then [s.extract 2 s.size] else if c = 99 then [a ++ b] else if c = 100 then [a, a] else if c = 115 then [b, a] else if c = 114 then [revS a]
  else if c = 104 then [H a] else if c = 108 then [itoaS a.size] else if c = 116 then [a.extract 0 (min (n : Int) (a.size : Int)).toNat] else if c = 107 then [a.extract (min (n : Int) (a.size : Int)).toNat a.size]
  else if c = 61 then [sameS a b] else []
def goesR (c : UInt8) (n k : Nat) (a : ByteArray) : Nat := if c = 103 then n else if c = 106 then (if a = ByteArray.empty then n else k) else k
/-- What a step leaves: its code, where it goes on, the stack. -/
def stepRM (H : ByteArray → ByteArray) (ins : List ByteArray) (c : UInt8) (n : Nat) (s : ByteArray) (at_ : Nat) (l : List ByteArray) : Nat × Nat × List ByteArray :=
  if c = 105 ∧ ins.length ≤ n then (32, at_, l) else if l.length < takeN c then (31, at_, l)
  else
    let r := l.take (l.length - takeN c)
    let p := l.drop (l.length - takeN c)
    let q := pushR r (putsR H ins c n s (p.getD 0 .empty) (p.getD 1 .empty))
    (q.1, goesR c n (at_ + s.size) (p.getD 0 .empty), q.2)

theorem split1 {l : List ByteArray} (h : 1 ≤ l.length) : l.take (l.length - 1) ++ [(l.drop (l.length - 1)).getD 0 .empty] = l := by
  have h1 : (l.drop (l.length - 1)).length = 1 := by simp; omega
  obtain ⟨a, ha⟩ := List.length_eq_one_iff.1 h1
  have := List.take_append_drop (l.length - 1) l
  rw [ha] at this ⊢
  simpa using this
theorem split2 {l : List ByteArray} (h : 2 ≤ l.length) : l.take (l.length - 2) ++ [(l.drop (l.length - 2)).getD 0 .empty, (l.drop (l.length - 2)).getD 1 .empty] = l := by
  have h1 : (l.drop (l.length - 2)).length = 2 := by simp; omega
  obtain ⟨a, b, ha⟩ : ∃ a b, l.drop (l.length - 2) = [a, b] := by
    match hd : l.drop (l.length - 2), h1 with
    | [a, b], _ => exact ⟨a, b, rfl⟩
  have := List.take_append_drop (l.length - 2) l
  rw [ha] at this ⊢
  simpa using this
theorem mem1 {l : List ByteArray} (_ : 1 ≤ l.length) {k : Nat} (hk : 1 ≤ k) (hk2 : k ≤ l.length) (i : Nat) (hi : i < k) : (l.drop (l.length - k)).getD i .empty ∈ l := by
  have hl : i < (l.drop (l.length - k)).length := by simp; omega
  rw [List.getD_eq_getElem?_getD, List.getElem?_eq_getElem hl]
  exact List.mem_of_mem_drop (List.getElem_mem hl)

/-- The call of step with the letter 'h', said of any machine. -/
def StepH (H : ByteArray → ByteArray) : Prop :=
  ∀ {B : Nat} {w : World} {b : Nat} {v : Value} {code : ByteArray} {inV : Value} {at_ : Nat} {r : List ByteArray} {p0 : ByteArray} (_ : MachV B w b v code inV at_ (r ++ [p0])) (_ : B ≤ w.heap.size) (_ : r.length ≤ 8) (_ : p0.size ≤ 512) (_ : at_ ≤ 1000)
    (s : ByteArray) (_ : 1 ≤ s.size) (_ : s.size ≤ 300) (_ : s[0] = 104) (_ : TabsOK B w),
    Calls Tryz.prog 61 #[.pointer (some ⟨b, 0, none⟩), .string s] w (Stepped B w b code inV (at_ + s.size) (pushR r [H p0]))

theorem step_any (H : ByteArray → ByteArray) {B : Nat} {w : World} {b : Nat} {v : Value} {code : ByteArray} {inV : Value} {at_ : Nat} {l : List ByteArray} (h : MachV B w b v code inV at_ l) (hB : B ≤ w.heap.size) (hl : l.length ≤ 8) (hall : ∀ x ∈ l, x.size ≤ 512) (hat : at_ ≤ 1000)
    (s : ByteArray) (hs1 : 1 ≤ s.size) (hs2 : s.size ≤ 300) (hok : okL s[0] = true) (hp : s[0] = 112 → 2 ≤ s.size) {ins : List ByteArray} {w0 : World} (hin : StrsAt w0 inV ins) (hw0 : w0.heap.size ≤ B) (hc0 : Chg (fun k => B ≤ k) w0 w) (hT : TabsOK B w)
    (hH : s[0] = 104 → StepH H) :
    Calls Tryz.prog 61 #[.pointer (some ⟨b, 0, none⟩), .string s] w (Stepped B w b code inV (stepRM H ins s[0] (numN s) s at_ l).2.1 ((stepRM H ins s[0] (numN s) s at_ l).1, (stepRM H ins s[0] (numN s) s at_ l).2.2)) := by
  by_cases hi : s[0] = 105 ∧ ins.length ≤ numN s
  · unfold stepRM
    rw [if_pos hi]
    exact step_bad h s hs1 hs2 hi.1 hin hi.2
  by_cases hf : l.length < takeN s[0]
  · have hne : s[0] ≠ 105 := by intro e; rw [e] at hf; exact absurd hf (by show ¬ l.length < 0; omega)
    unfold stepRM
    rw [if_neg hi, if_pos hf]
    exact step_few h s hs1 hs2 hne hf
  have hr : ∀ k, (l.take (l.length - k)).length ≤ 8 := fun k => by simp; omega
  rcases okL_mem _ hok with e | e | e | e | e | e | e | e | e | e | e | e | e | e
  all_goals (unfold stepRM; rw [if_neg hi, if_neg hf]; rw [e] at hf ⊢)
  · have h2 : 2 ≤ l.length := Nat.le_of_not_lt hf
    exact step_c (by rw [show takeN 99 = 2 from rfl, split2 h2]; exact h) hB (hr _) (hall _ (mem1 (by omega) (by decide) h2 0 (by decide))) (hall _ (mem1 (by omega) (by decide) h2 1 (by decide))) hat s hs1 hs2 e
  · have h2 : 1 ≤ l.length := Nat.le_of_not_lt hf
    exact step_d (by rw [show takeN 100 = 1 from rfl, split1 h2]; exact h) hB (hr _) (hall _ (mem1 (by omega) (by decide) h2 0 (by decide))) hat s hs1 hs2 e
  · have h2 : 2 ≤ l.length := Nat.le_of_not_lt hf
    exact step_s (by rw [show takeN 115 = 2 from rfl, split2 h2]; exact h) hB (hr _) (hall _ (mem1 (by omega) (by decide) h2 0 (by decide))) (hall _ (mem1 (by omega) (by decide) h2 1 (by decide))) hat s hs1 hs2 e
  · have h2 : 1 ≤ l.length := Nat.le_of_not_lt hf
    exact step_x (p0 := (l.drop (l.length - 1)).getD 0 .empty) (by rw [show takeN 120 = 1 from rfl, split1 h2]; exact h) hB (hr _) (hall _ (mem1 (by omega) (by decide) h2 0 (by decide))) hat s hs1 hs2 e
  · have h2 : 1 ≤ l.length := Nat.le_of_not_lt hf
    exact step_r (by rw [show takeN 114 = 1 from rfl, split1 h2]; exact h) hB (hr _) (hall _ (mem1 (by omega) (by decide) h2 0 (by decide))) hat s hs1 hs2 e
  · have h2 : 1 ≤ l.length := Nat.le_of_not_lt hf
    exact hH e (by rw [show takeN 104 = 1 from rfl, split1 h2]; exact h) hB (hr _) (hall _ (mem1 (by omega) (by decide) h2 0 (by decide))) hat s hs1 hs2 e hT
  · have h2 : 1 ≤ l.length := Nat.le_of_not_lt hf
    exact step_l (by rw [show takeN 108 = 1 from rfl, split1 h2]; exact h) hB (hr _) (hall _ (mem1 (by omega) (by decide) h2 0 (by decide))) hat s hs1 hs2 e hT.pow _ powG hT.gp
  · have h2 : 2 ≤ l.length := Nat.le_of_not_lt hf
    exact step_eq (by rw [show takeN 61 = 2 from rfl, split2 h2]; exact h) hB (hr _) (hall _ (mem1 (by omega) (by decide) h2 0 (by decide))) (hall _ (mem1 (by omega) (by decide) h2 1 (by decide))) hat s hs1 hs2 e
  · have hn : numN s < ins.length := Nat.lt_of_not_le fun hh => hi ⟨e, hh⟩
    have h3 : l.take (l.length - takeN 105) = l := by rw [show takeN 105 = 0 from rfl]; simp
    have := step_i (r := l) (by rw [List.append_nil]; exact h) hB hl hat s hs1 hs2 e hin hw0 hc0 hn
    have e2 : ∀ a b, putsR H ins 105 (numN s) s a b = [ins[numN s]] := fun a b => by
      show [ins.getD (numN s) .empty] = _
      rw [List.getD_eq_getElem?_getD, List.getElem?_eq_getElem hn]; rfl
    simp only [h3, e2]
    exact this
  · have h2 : 1 ≤ l.length := Nat.le_of_not_lt hf
    exact step_t (by rw [show takeN 116 = 1 from rfl, split1 h2]; exact h) hB (hr _) (hall _ (mem1 (by omega) (by decide) h2 0 (by decide))) hat s hs1 hs2 e
  · have h2 : 1 ≤ l.length := Nat.le_of_not_lt hf
    exact step_k (by rw [show takeN 107 = 1 from rfl, split1 h2]; exact h) hB (hr _) (hall _ (mem1 (by omega) (by decide) h2 0 (by decide))) hat s hs1 hs2 e
  · have h2 : 1 ≤ l.length := Nat.le_of_not_lt hf
    by_cases hz : (l.drop (l.length - 1)).getD 0 .empty = ByteArray.empty
    · have e2 : goesR 106 (numN s) (at_ + s.size) ((l.drop (l.length - takeN 106)).getD 0 .empty) = numN s := by
        show (if (l.drop (l.length - 1)).getD 0 .empty = ByteArray.empty then _ else _) = _
        rw [if_pos hz]
      show Calls _ _ _ _ (Stepped _ _ _ _ _ (goesR 106 (numN s) (at_ + s.size) ((l.drop (l.length - takeN 106)).getD 0 .empty)) _)
      rw [e2]
      exact step_j0 (by rw [show takeN 106 = 1 from rfl, split1 h2]; exact h) hB (hr _) (hall _ (mem1 (by omega) (by decide) h2 0 (by decide))) hat s hs1 hs2 e hz
    · have e2 : goesR 106 (numN s) (at_ + s.size) ((l.drop (l.length - takeN 106)).getD 0 .empty) = at_ + s.size := by
        show (if (l.drop (l.length - 1)).getD 0 .empty = ByteArray.empty then _ else _) = _
        rw [if_neg hz]
      show Calls _ _ _ _ (Stepped _ _ _ _ _ (goesR 106 (numN s) (at_ + s.size) ((l.drop (l.length - takeN 106)).getD 0 .empty)) _)
      rw [e2]
      exact step_j1 (by rw [show takeN 106 = 1 from rfl, split1 h2]; exact h) hB (hr _) (hall _ (mem1 (by omega) (by decide) h2 0 (by decide))) hat s hs1 hs2 e hz
  · have h3 : l.take (l.length - takeN 103) = l := by rw [show takeN 103 = 0 from rfl]; simp
    have := step_g (r := l) (by rw [List.append_nil]; exact h) hB hl hat s hs1 hs2 e
    rw [h3]
    exact this
  · have h3 : l.take (l.length - takeN 112) = l := by rw [show takeN 112 = 0 from rfl]; simp
    have := step_p (r := l) (by rw [List.append_nil]; exact h) hB hl hat s hs1 hs2 e (hp e)
    rw [h3]
    exact this
end Go.Proofs.YthglfmacjoecgaaGreatDoor
