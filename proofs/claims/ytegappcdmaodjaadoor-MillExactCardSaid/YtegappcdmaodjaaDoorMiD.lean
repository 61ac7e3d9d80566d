/- mill's machine: its block; push and pop said of it; end walked. -/
import Derived.Test.YtegappcdmaodjaaDoorMiC
import Derived.Deep.RegionHeld3
namespace Go.Proofs.YtegappcdmaodjaaDoor
open Go.RowKit

def machCells (v : Value) (code : ByteArray) (inV : Value) (at_ : Nat) : Array Value := #[v, .string code, inV, .int .i64 at_]

/-- The machine at block b: its stack's row v (blocks from B on are the call's own). -/
structure MachV (B : Nat) (w : World) (b : Nat) (v : Value) (code : ByteArray) (inV : Value) (at_ : Nat) (l : List ByteArray) : Prop where
  st : StackAt w b v (machCells v code inV at_) 48 l
  hb : B ≤ b
  hv : ∀ k, v.ownBlock = some k → B ≤ k

theorem MachV.cell0 {B : Nat} {w : World} {b : Nat} {v : Value} {code : ByteArray} {inV : Value} {at_ : Nat} {l : List ByteArray} (h : MachV B w b v code inV at_ l) : w.cell? ⟨b, 0, none⟩ = some v := cell_of h.st.heap 0
theorem MachV.cell1 {B : Nat} {w : World} {b : Nat} {v : Value} {code : ByteArray} {inV : Value} {at_ : Nat} {l : List ByteArray} (h : MachV B w b v code inV at_ l) : w.cell? ⟨b, 1, none⟩ = some (.string code) := cell_of h.st.heap 1
theorem MachV.cell2 {B : Nat} {w : World} {b : Nat} {v : Value} {code : ByteArray} {inV : Value} {at_ : Nat} {l : List ByteArray} (h : MachV B w b v code inV at_ l) : w.cell? ⟨b, 2, none⟩ = some inV := cell_of h.st.heap 2
theorem MachV.cell3 {B : Nat} {w : World} {b : Nat} {v : Value} {code : ByteArray} {inV : Value} {at_ : Nat} {l : List ByteArray} (h : MachV B w b v code inV at_ l) : w.cell? ⟨b, 3, none⟩ = some (.int .i64 at_) := cell_of h.st.heap 3
theorem MachV.lt {B : Nat} {w : World} {b : Nat} {v : Value} {code : ByteArray} {inV : Value} {at_ : Nat} {l : List ByteArray} (h : MachV B w b v code inV at_ l) : b < w.heap.size := heap_lt h.st.heap
theorem MachV.own_lt {B : Nat} {w : World} {b : Nat} {v : Value} {code : ByteArray} {inV : Value} {at_ : Nat} {l : List ByteArray} (h : MachV B w b v code inV at_ l) : ∀ k, v.ownBlock = some k → k < w.heap.size := fun k hk => (World.ownsRow.lt h.st.own k hk).2
theorem MachV.drew {B : Nat} {w : World} {b : Nat} {v : Value} {code : ByteArray} {inV : Value} {at_ : Nat} {l : List ByteArray} (h : MachV B w b v code inV at_ l) : MachV B w.drew b v code inV at_ l := ⟨⟨h.st.heap, h.st.fst, h.st.own, h.st.ne⟩, h.hb, h.hv⟩
theorem MachV.alloc {B : Nat} {w : World} {b : Nat} {v : Value} {code : ByteArray} {inV : Value} {at_ : Nat} {l : List ByteArray} (h : MachV B w b v code inV at_ l) (o : Obj) : MachV B (w.alloc o) b v code inV at_ l :=
  ⟨⟨heap_alloc_old' h.st.heap o, h.st.fst, h.st.own.alloc o, h.st.ne⟩, h.hb, h.hv⟩
theorem MachV.chg {B : Nat} {w w' : World} {b : Nat} {v : Value} {code : ByteArray} {inV : Value} {at_ : Nat} {l : List ByteArray} {F : Nat → Prop} (h : MachV B w b v code inV at_ l) (hc : Chg F w w') (hF : ∀ k, k < w.heap.size → ¬ F k) : MachV B w' b v code inV at_ l :=
  ⟨⟨hc.obj h.st.heap (hF _ h.lt), h.st.fst, hc.owns h.st.own (fun k hk => hF k (h.own_lt k hk)), h.st.ne⟩, h.hb, h.hv⟩
/-- 'm.at = n'. -/
theorem MachV.setAt {B : Nat} {w : World} {b : Nat} {v : Value} {code : ByteArray} {inV : Value} {at_ : Nat} {l : List ByteArray} (h : MachV B w b v code inV at_ l) (n : Nat) : MachV B (w.setCell ⟨b, 3, none⟩ (.int .i64 n)) b v code inV n l :=
  ⟨⟨heap_set_same h.st.heap 3 _, rfl, ownsRow_setCell_other h.st.own h.st.ne _, h.st.ne⟩, h.hb, h.hv⟩
/-- What a push or pop has made of the stack. -/
theorem MachV.to {B : Nat} {w w' : World} {b : Nat} {v : Value} {code : ByteArray} {inV : Value} {at_ : Nat} {l l' : List ByteArray} (h : MachV B w b v code inV at_ l) (hB : B ≤ w.heap.size) (ht : StackTo w b v (machCells v code inV at_) 48 l' w') :
    ∃ v', MachV B w' b v' code inV at_ l' ∧ Chg (fun k => B ≤ k) w w' := by
  obtain ⟨v', h1, h2, h3⟩ := ht
  refine ⟨v', ⟨⟨h1.heap, rfl, h1.own, h1.ne⟩, h.hb, fun k hk => ?_⟩, h3.mono ?_⟩
  · rcases h2 k hk with e | e
    · exact h.hv k e
    · omega
  · rintro i _ (rfl | e)
    · exact h.hb
    · exact h.hv i e

/-- (*stack).push at a machine. -/
theorem mpush {B : Nat} {w : World} {b : Nat} {v : Value} {code : ByteArray} {inV : Value} {at_ : Nat} {l : List ByteArray} (h : MachV B w b v code inV at_ l) (hB : B ≤ w.heap.size) (g n c : Nat) (ss : List ByteArray) (hn : ss.length = n) (hn2 : n ≤ 100)
    (hc : ∀ i (h : i < ss.length), w.cell? ⟨g, i, none⟩ = some (.string ss[i])) (hg : g ≠ b) (hgv : v.ownBlock ≠ some g) (hsz : ∀ s ∈ ss, s.size ≤ maxLen) (hl : l.length ≤ 1000) :
    Calls Tryd.prog 32 #[.pointer (some ⟨b, 0, none⟩), .slice (some ⟨g, 0, none⟩) n c] w
      (Rets (.int .i64 (pushR l ss).1) (fun w' => Chg (fun k => B ≤ k) w w' ∧ ∃ v', MachV B w' b v' code inV at_ (pushR l ss).2)) :=
  (push_any w b v _ _ l h.st g n c ss hn hn2 hc hg hgv hsz hl).mono fun _ _ ⟨he, ht⟩ => ⟨he, let ⟨v', h1, h2⟩ := h.to hB ht; ⟨h2, v', h1⟩⟩

/-- (*stack).push at a machine, the list just laid. -/
theorem mpush_new {B : Nat} {w : World} {b : Nat} {v : Value} {code : ByteArray} {inV : Value} {at_ : Nat} {l : List ByteArray} (h : MachV B w b v code inV at_ l) (hB : B ≤ w.heap.size) (ss : List ByteArray) (hn2 : ss.length ≤ 100) (arr : Array Value) (ha : arr = (ss.map Value.string).toArray) (n c : Nat) (hn : n = ss.length) (hsz : ∀ s ∈ ss, s.size ≤ maxLen) (hl : l.length ≤ 1000) :
    Calls Tryd.prog 32 #[.pointer (some ⟨b, 0, none⟩), .slice (some ⟨w.heap.size, 0, none⟩) n c] (w.alloc (.cells arr 9))
      (Rets (.int .i64 (pushR l ss).1) (fun w' => Chg (fun k => B ≤ k) w w' ∧ ∃ v', MachV B w' b v' code inV at_ (pushR l ss).2)) := by
  subst ha hn
  refine (mpush (h.alloc _) (by simp; omega) w.heap.size _ c ss rfl hn2 ?_ ?_ ?_ hsz hl).mono ?_
  · intro i hi
    rw [cell_of (heap_alloc_new w _)]
    simp [hi]
  · have := h.lt; omega
  · intro e; have := h.own_lt _ e; omega
  · rintro e w' ⟨rfl, h1, h2⟩
    exact ⟨rfl, ((Chg.refl _ w).alloc _).trans h1 (fun _ _ h => h), h2⟩

/-- (*stack).pop at a machine, what is taken being named. -/
theorem mpops {B : Nat} {w : World} {b : Nat} {v : Value} {code : ByteArray} {inV : Value} {at_ : Nat} {r ps : List ByteArray} (h : MachV B w b v code inV at_ (r ++ ps)) (hB : B ≤ w.heap.size) (n : Nat) (hn : ps.length = n) (hn2 : n ≤ 2) (h8 : r.length ≤ 900) :
    Calls Tryd.prog 28 #[.pointer (some ⟨b, 0, none⟩), .int .i64 n] w (fun e w' => ∃ lv, e = .returned (.tuple #[lv, .bool true]) ∧
      Chg (fun k => B ≤ k) w w' ∧ w'.ownsRow w.heap.size 9 1 lv n (ps.map Value.string) ∧ ∃ v', MachV B w' b v' code inV at_ r ∧ ∀ k, v'.ownBlock = some k → k < w.heap.size) := by
  subst hn
  refine (pop_ok w b v _ _ _ h.st ps.length (by simp) hn2 (by simp; omega)).mono ?_
  rintro e w' ⟨lv, rfl, ht, ho⟩
  have e1 : (r ++ ps).length - ps.length = r.length := by simp
  rw [e1, List.drop_left] at ho
  rw [e1, List.take_left] at ht
  obtain ⟨v', h1, h2⟩ := h.to hB ht.to
  obtain ⟨v2, k1, k2, _⟩ := ht
  have h3 := cell_of k1.heap 0
  have h4 := h1.cell0
  have e2 : v' = v2 := by
    have h5 := (cell_of k1.heap 0).trans k1.fst
    rw [h5] at h4
    exact (Option.some.inj h4).symm
  subst e2
  exact ⟨lv, rfl, h2, ho, v', h1, fun k hk => h.own_lt k (k2 k hk)⟩

theorem cell_alloc_drew {W : World} {a : Addr} {u : Value} (h : W.cell? a = some u) (o : Obj) : (W.alloc o).drew.cell? a = some u :=
  (((Chg.refl (fun _ => False) W).alloc o).drew).cell h (fun h => h)

/-- (*stack).push at a machine, the list just laid, an order drawn. -/
theorem mpush_drew {B : Nat} {w : World} {b : Nat} {v : Value} {code : ByteArray} {inV : Value} {at_ : Nat} {l : List ByteArray} (h : MachV B w b v code inV at_ l) (hB : B ≤ w.heap.size) (ss : List ByteArray) (hn2 : ss.length ≤ 100) (arr : Array Value) (ha : arr = (ss.map Value.string).toArray) (g n c : Nat) (hgw : g = w.heap.size) (hn : n = ss.length) (hsz : ∀ s ∈ ss, s.size ≤ maxLen) (hl : l.length ≤ 1000) :
    Calls Tryd.prog 32 #[.pointer (some ⟨b, 0, none⟩), .slice (some ⟨g, 0, none⟩) n c] (w.alloc (.cells arr 9)).drew
      (Rets (.int .i64 (pushR l ss).1) (fun w' => Chg (fun k => B ≤ k) w w' ∧ Chg (fun k => k = b ∨ v.ownBlock = some k) w w' ∧ ∃ v', MachV B w' b v' code inV at_ (pushR l ss).2)) := by
  subst ha hn hgw
  have h' : MachV B (w.alloc (.cells (ss.map Value.string).toArray 9)).drew b v code inV at_ l := (h.alloc _).drew
  refine (push_any _ b v _ _ l h'.st w.heap.size _ c ss rfl hn2 ?_ ?_ ?_ hsz hl).mono ?_
  · intro i hi
    have : (w.alloc (.cells (ss.map Value.string).toArray 9)).heap[w.heap.size]? = some (.cells (ss.map Value.string).toArray 9 (0, 0)) := heap_alloc_new w _
    have := cell_of this i
    refine this.trans ?_
    simp [hi]
  · have := h.lt; omega
  · intro e; have := h.own_lt _ e; omega
  · rintro e w' ⟨rfl, ht⟩
    have hc : Chg (fun k => k = b ∨ v.ownBlock = some k) w w' := ((((Chg.refl _ w).alloc _).drew).trans (let ⟨_, _, _, h3⟩ := ht; h3) (fun _ _ h => h))
    obtain ⟨v', h1, h2⟩ := h'.to (by simp; omega) ht
    exact ⟨rfl, (((Chg.refl _ w).alloc _).drew).trans h2 (fun _ _ h => h), hc, v', h1⟩

/-- What a step that pushes leaves. -/
def Stepped (B : Nat) (w : World) (b : Nat) (code : ByteArray) (inV : Value) (at_ : Nat) (q : Nat × List ByteArray) : Ending → World → Prop :=
  Rets (.int .i64 q.1) (fun w' => Chg (fun k => B ≤ k) w w' ∧ ∃ v', MachV B w' b v' code inV at_ q.2)
theorem stepped {B b : Nat} {w w1 w' : World} {u : Value} (h1 : Chg (fun k => B ≤ k) w.drew w1) (h2 : Chg (fun k => B ≤ k) (w1.setCell ⟨b, 3, none⟩ u) w') (hb : B ≤ b) : Chg (fun k => B ≤ k) w w' :=
  ((((Chg.refl _ w).drew).trans h1 (fun _ _ h => h)).setCell (p := ⟨b, 3, none⟩) (fun _ => hb) u).trans h2 (fun _ _ h => h)
end Go.Proofs.YtegappcdmaodjaaDoor
