/- apiaryref07.action walked: lemmas, and an action without inputs. -/
import Derived.Test.YtbaipdhgjalgoaaDoorRfI
namespace Go.Proofs.YtbaipdhgjalgoaaDoor
open Go.RowKit

/-- What the reference's action answers. -/
def RAct (o : Option ActR) (w : World) (e : Ending) (w' : World) : Prop :=
  Chg (fun _ => False) w w' ∧ match o with
  | none => NoAct e
  | some a => ∃ oa c, e = .returned (.tuple #[actV a (.slice oa a.ins.length c), .bool true]) ∧ NamesAt w' (.slice oa a.ins.length c) a.ins ∧ ∀ ad, oa = some ad → w.heap.size ≤ ad.block
theorem res3 {W : World} {R : Nat} {T : TypeId} {a b c : Value} (h : W.heap[R]? = some (.cells #[a, b, c] T (0, 0))) (u t v : Value) :
    (((W.setCell ⟨R, 0, none⟩ u).setCell ⟨R, 1, none⟩ t).setCell ⟨R, 2, none⟩ v).cell? ⟨R, 0, none⟩ = some u ∧ (((W.setCell ⟨R, 0, none⟩ u).setCell ⟨R, 1, none⟩ t).setCell ⟨R, 2, none⟩ v).cell? ⟨R, 1, none⟩ = some t ∧ (((W.setCell ⟨R, 0, none⟩ u).setCell ⟨R, 1, none⟩ t).setCell ⟨R, 2, none⟩ v).cell? ⟨R, 2, none⟩ = some v ∧ (W.setCell ⟨R, 0, none⟩ u).cell? ⟨R, 1, none⟩ = some b ∧ ((W.setCell ⟨R, 0, none⟩ u).setCell ⟨R, 1, none⟩ t).cell? ⟨R, 2, none⟩ = some c := by
  have y0 := heap_set_same h 0 u
  have y1 := heap_set_same y0 1 t
  have y2 := heap_set_same y1 2 v
  exact ⟨cell_of y2 0, cell_of y2 1, cell_of y2 2, cell_of y0 1, cell_of y1 2⟩
theorem name_bs (l : List UInt8) (hl : l.length ≤ 100000) (B : Bool) (hB : nameL l = B) (W : World) : Calls Tryd.prog 18 #[.string (bs l)] W (Rets (.bool B) (fun w' => W = w')) := rname_bs l (Nat.le_trans hl (by decide)) B hB W

theorem act_w2 (w w2 : World) (g : Nat) (_hg : g < w.heap.size) (hc : Chg (fun _ => False) ((w.alloc (.cells #[.string { data := #[] }, .slice none 0 0, .string { data := #[] }] 42)).alloc (.cells #[.string { data := #[] }, .slice none 0 0, .string { data := #[] }] 42)) w2) :
    w2.heap[w.heap.size]? = some (.cells #[.string { data := #[] }, .slice none 0 0, .string { data := #[] }] 42 (0, 0)) ∧ w2.heap[w.heap.size + 1]? = some (.cells #[.string { data := #[] }, .slice none 0 0, .string { data := #[] }] 42 (0, 0)) ∧ Chg (fun _ => False) w w2 ∧ ∀ i v, w.cell? ⟨g, i, none⟩ = some v → w2.cell? ⟨g, i, none⟩ = some v := by
  have h0 : Chg (fun _ => False) w ((w.alloc (.cells #[.string { data := #[] }, .slice none 0 0, .string { data := #[] }] 42)).alloc (.cells #[.string { data := #[] }, .slice none 0 0, .string { data := #[] }] 42)) := ((Chg.refl _ w).alloc _).alloc _
  have k0 : ((w.alloc (.cells #[.string { data := #[] }, .slice none 0 0, .string { data := #[] }] 42)).alloc (.cells #[.string { data := #[] }, .slice none 0 0, .string { data := #[] }] 42)).heap[w.heap.size]? = some (.cells #[.string { data := #[] }, .slice none 0 0, .string { data := #[] }] 42 (0, 0)) := heap_alloc_old' (heap_alloc_new' w _) _
  have k1 : ((w.alloc (.cells #[.string { data := #[] }, .slice none 0 0, .string { data := #[] }] 42)).alloc (.cells #[.string { data := #[] }, .slice none 0 0, .string { data := #[] }] 42)).heap[w.heap.size + 1]? = some (.cells #[.string { data := #[] }, .slice none 0 0, .string { data := #[] }] 42 (0, 0)) := by
    have := heap_alloc_new' (w.alloc (.cells #[.string { data := #[] }, .slice none 0 0, .string { data := #[] }] 42)) (.cells #[.string { data := #[] }, .slice none 0 0, .string { data := #[] }] 42)
    simpa using this
  exact ⟨hc.obj k0 (fun h => h), hc.obj k1 (fun h => h), h0.trans hc (fun _ _ h => h), fun i v hv => (h0.trans hc (fun _ _ h => h)).cell hv (fun h => h)⟩
theorem act_w3 (w w2 : World) (g : Nat) (nm cd : ByteArray) (hg : g < w.heap.size) (hc : Chg (fun _ => False) ((w.alloc (.cells #[.string { data := #[] }, .slice none 0 0, .string { data := #[] }] 42)).alloc (.cells #[.string { data := #[] }, .slice none 0 0, .string { data := #[] }] 42)) w2) :
    ((w2.setCell ⟨w.heap.size + 1, 0, none⟩ (.string nm)).setCell ⟨w.heap.size + 1, 2, none⟩ (.string cd)).heap[w.heap.size]? = some (.cells #[.string { data := #[] }, .slice none 0 0, .string { data := #[] }] 42 (0, 0)) ∧ ((w2.setCell ⟨w.heap.size + 1, 0, none⟩ (.string nm)).setCell ⟨w.heap.size + 1, 2, none⟩ (.string cd)).heap[w.heap.size + 1]? = some (.cells #[.string nm, .slice none 0 0, .string cd] 42 (0, 0)) ∧ Chg (fun k => w.heap.size + 1 ≤ k) w ((w2.setCell ⟨w.heap.size + 1, 0, none⟩ (.string nm)).setCell ⟨w.heap.size + 1, 2, none⟩ (.string cd)) ∧ (∀ i v, w.cell? ⟨g, i, none⟩ = some v → ((w2.setCell ⟨w.heap.size + 1, 0, none⟩ (.string nm)).setCell ⟨w.heap.size + 1, 2, none⟩ (.string cd)).cell? ⟨g, i, none⟩ = some v) ∧ w.heap.size + 2 ≤ ((w2.setCell ⟨w.heap.size + 1, 0, none⟩ (.string nm)).setCell ⟨w.heap.size + 1, 2, none⟩ (.string cd)).heap.size := by
  obtain ⟨k0, k1, h0, hcell⟩ := act_w2 w w2 g hg hc
  have h3 : Chg (fun k => k = w.heap.size + 1) w2 ((w2.setCell ⟨w.heap.size + 1, 0, none⟩ (.string nm)).setCell ⟨w.heap.size + 1, 2, none⟩ (.string cd)) := ((Chg.refl (fun k => k = w.heap.size + 1) w2).setCell (p := ⟨w.heap.size + 1, 0, none⟩) (fun _ => rfl) _).setCell (p := ⟨w.heap.size + 1, 2, none⟩) (fun _ => rfl) _
  refine ⟨h3.obj k0 (by omega), ?_, h0.trans (G := fun k => k = w.heap.size + 1) h3 (fun i hi h => by omega) |>.mono (fun i hi h => h.elim), fun i v hv => h3.cell (hcell i v hv) (by show ¬ g = w.heap.size + 1; omega), ?_⟩
  · simpa using heap_set_same (heap_set_same k1 0 (.string nm)) 2 (.string cd)
  · have h1 := hc.size
    have h2 := h3.size
    simp at h1
    omega

theorem names_own {w : World} {sv : Value} {n : Nat} {ss : List (List UInt8)} (h : w.ownsRow 0 9 1 sv n (ss.map strV)) (hn : n = ss.length) (hl : ss.length ≤ 100000) (hw : ∀ s ∈ ss, s.length ≤ 100000) : NamesAt w sv ss := by
  subst hn
  refine ⟨?_, by simp; unfold maxLen; omega, ?_⟩
  · rcases h.2 with ⟨rfl, h0⟩ | ⟨g, cap, cur, rfl, _⟩
    · left; exact ⟨rfl, by rw [List.length_eq_zero_iff.1 h0]; rfl⟩
    · right
      refine ⟨⟨g, 0, none⟩, cap, by simp, fun i hi => ?_⟩
      have hi' : i < ss.length := by simpa using hi
      have h3 := h.cellAt i (by simpa using hi')
      have e3 : (⟨g, 0, none⟩ : Addr).add i = ⟨g, i, none⟩ := by unfold Addr.add; split <;> simp_all
      rw [e3, h3]
      simp [strV, hi']
  · intro s hs
    obtain ⟨y, hy, rfl⟩ := List.mem_map.1 hs
    rw [bs_size]
    exact Nat.le_trans (hw y hy) (by decide)
/-- The result's block is written: what is far from it stays. -/
theorem chg_res {w W : World} (h : Chg (fun k => w.heap.size ≤ k) w W) (u t v : Value) : Chg (fun _ => False) w (((W.setCell ⟨w.heap.size, 0, none⟩ u).setCell ⟨w.heap.size, 1, none⟩ t).setCell ⟨w.heap.size, 2, none⟩ v) := by
  have h1 : Chg (fun _ => False) w W := h.mono (fun i hi e => by have : w.heap.size ≤ i := e; omega)
  exact ((h1.setCell (p := ⟨w.heap.size, 0, none⟩) (fun h => absurd h (Nat.lt_irrefl _)) _).setCell (p := ⟨w.heap.size, 1, none⟩) (fun h => absurd h (Nat.lt_irrefl _)) _).setCell (p := ⟨w.heap.size, 2, none⟩) (fun h => absurd h (Nat.lt_irrefl _)) _

set_option maxRecDepth 100000 in
set_option maxHeartbeats 4000000 in
theorem ract_two (x0 x1 x2 x3 cl : List UInt8) (h0 : x0 = wMake) (hby : x2 = wBy) (hnm : nameL x1 = true) (hcl : codeL x3 = some cl) (l1 : x1.length ≤ 100000) (l3 : x3.length ≤ 100000) (g c : Nat) (w : World) (hcap : 4 ≤ c) (z0 : w.cell? ⟨g, 0, none⟩ = some (.string (bs x0))) (z1 : w.cell? ⟨g, 1, none⟩ = some (.string (bs x1))) (z2 : w.cell? ⟨g, 2, none⟩ = some (.string (bs x2))) (z3 : w.cell? ⟨g, 3, none⟩ = some (.string (bs x3))) :
    Calls Tryd.prog 22 #[.slice (some ⟨g, 0, none⟩) 4 c] w (RAct (some ⟨x1, [], cl⟩) w) := by
  have hgw : g < w.heap.size := World.block_lt_of_cell? w _ z0
  have bl0 : ((bs x0).toList == [109, 97, 107, 101]) = true := by rw [Lib.toList_data, bs_data, h0]; rfl
  have blN : ((bs x2).toList == [98, 121]) = true := by rw [Lib.toList_data, bs_data, hby]; rfl
  have hn1 := name_bs x1 l1 true hnm
  have hcode := fun W => rcode_any x3 (by unfold maxLen; omega) W
  rw [hcl] at hcode
  obtain ⟨cd, hcd⟩ : ∃ cd, cd = bs cl := ⟨_, rfl⟩
  have hcode2 : ∀ W, Calls Tryd.prog 38 #[.string (bs x3)] W (Rets (.tuple #[.string cd, .bool true]) (Chg (fun _ => False) W)) := fun W => by rw [hcd]; exact hcode W
  have w2f := act_w2 w ((w.alloc (.cells #[.string { data := #[] }, .slice none 0 0, .string { data := #[] }] 42)).alloc (.cells #[.string { data := #[] }, .slice none 0 0, .string { data := #[] }] 42)) g hgw (Chg.refl _ _)
  have a0 := w2f.2.2.2 _ _ z0
  have a1 := w2f.2.2.2 _ _ z1
  have a2 := w2f.2.2.2 _ _ z2
  have a3 := w2f.2.2.2 _ _ z3
  obtain ⟨nm, hnm2⟩ : ∃ s, s = bs x1 := ⟨_, rfl⟩
  rw [← hnm2] at a1 hn1 z1
  have HCD := hid hcd
  have HNM := hid hnm2
  have Z1 := hid z1
  have hNc : (4 : Int) ≤ (c : Int) := by omega
  clear z0 z1 z2 z3 w2f hcd hnm2 hcl hnm hcode h0 hby
  have hcode := hcode2
  clear hcode2
  generalize bs x0 = s0 at *
  generalize bs x2 = s2 at *
  generalize bs x3 = s3 at *
  go_enter Tryd.func22, Tryd.ntmps22
  go_wp2_with (first | (go_at_call 18; refine (hn1 _).mono ?_; rintro e w9 ⟨rfl, rfl⟩) | (go_at_call 38; refine (hcode _).mono ?_; rintro e w2 ⟨rfl, hc2⟩; obtain ⟨kR, kA, hcw, hg2⟩ := act_w2 w w2 g hgw hc2; have p0 := cell_of kA 0; have p1 := cell_of kA 1; have p2 := cell_of kA 2; have f0 := frozen_of kA 0; have f2 := frozen_of kA 2; have e1 := hg2 _ _ Z1.out; have w3f := act_w3 w w2 g nm cd hgw hc2; have q0 := cell_of w3f.2.1 0; have q1 := cell_of w3f.2.1 1; have q2 := cell_of w3f.2.1 2; have j0 := frozen_of w3f.1 0; have c0 := cell_of kR 0; have c1 := cell_of kR 1; have c2 := cell_of kR 2; have r0 := frozen_of kR 0; have r1 := frozen_of kR 1; have r2 := frozen_of kR 2; have j1 := frozen_of w3f.1 1; have j2 := frozen_of w3f.1 2; have x3 := res3 w3f.1 (.string nm) (.slice none 0 0) (.string cd); have x0 := x3.1; have x1 := x3.2.1; have x2 := x3.2.2.1; have x4 := x3.2.2.2.1; have x5 := x3.2.2.2.2; have W3F := hid w3f; simp at p0 p1 p2 q0 q1 q2 c0 c1 c2; clear kR kA hcw hg2 hc2 w3f x3))
  refine bodyPost_ret (v := .tuple #[.agg #[.string nm, .slice none 0 0, .string cd], .bool true]) (by simp [results, Tryd.results22, go_sem, x0, x1, x2] <;> rfl) rfl ⟨chg_res (W3F.out.2.2.1.mono (fun i hi h => by have : w.heap.size + 1 ≤ i := h; show w.heap.size ≤ i; omega)) _ _ _, ?_⟩
  exact ⟨none, 0, by rw [HNM.out, HCD.out]; rfl, ⟨.inl ⟨rfl, rfl⟩, Nat.zero_le _, by simp⟩, fun _ h => by cases h⟩
end Go.Proofs.YtbaipdhgjalgoaaDoor
