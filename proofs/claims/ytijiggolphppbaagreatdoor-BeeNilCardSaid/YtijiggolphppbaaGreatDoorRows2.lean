/- A slice of structs that came in: its cells, its elements. -/
import Derived.Test.YtijiggolphppbaaGreatDoorOpen
import Derived.Deep.Slices
import Derived.Deep.Fields
namespace Go.Proofs.YtijiggolphppbaaGreatDoor
open Go.ChangeShapes Go.WideShapes Go.ChangeAt Go.RowKit

/-- v is a slice of n elements of sz cells each; element i's cells are C i (read only). -/
structure RowsAt (w : World) (v : Value) (sz n : Nat) (C : Nat → List Value) : Prop where
  form : (v = .slice none 0 0 ∧ n = 0) ∨ ∃ (a : Addr) (cap : Nat), v = .slice (some a) n cap ∧ ∀ i, i < n → ∀ j, j < sz → w.cell? (a.add (i * sz + j)) = (C i)[j]?
  le : n ≤ maxLen
  wide : ∀ i, i < n → (C i).length = sz
theorem RowsAt.len {P : Program} {w0 : World} {v : Value} {sz n : Nat} {C : Nat → List Value} (h : RowsAt w0 v sz n C) {t e : TypeId} (ht : P.underlying t = some (.slice e)) (w : World) (ty : TypeId) :
    (Builtin.len_ #[t] ty #[v]).run P w = .ok (.int .i64 n) w := by
  rcases h.form with ⟨rfl, rfl⟩ | ⟨a, cap, rfl, _⟩ <;> (simp [Builtin.len_, run_underlying ht]; rfl)
theorem RowsAt.ix {P : Program} {w0 : World} {v : Value} {sz n : Nat} {C : Nat → List Value} (h : RowsAt w0 v sz n C) {t e : TypeId} (ht : P.underlying t = some (.slice e)) (hs : ∀ w, (sizeOf e).run P w = .ok sz w) (hsz : 0 < sz) (k : Nat) (hk : k < n) :
    ∃ bb oo, (∀ w, (Instr.indexAt t v (.int .i64 k)).run P w = .ok (.pointer (some ⟨bb, oo, none⟩)) w) ∧ (∀ j, j < sz → w0.cell? ⟨bb, oo + j, none⟩ = (C k)[j]?) ∧ bb < w0.heap.size := by
  rcases h.form with ⟨_, rfl⟩ | ⟨a, cap, rfl, hc⟩
  · simp at hk
  · have h0 := hc k hk 0 hsz
    rw [Nat.add_zero, List.getElem?_eq_getElem (by rw [h.wide k hk]; exact hsz)] at h0
    have hsp := World.cell?_spot h0
    have hlt := World.block_lt_of_cell? w0 _ h0
    have he : ∃ oo, a.add (k * sz) = ⟨a.block, oo, none⟩ := by
      cases ha : a.add (k * sz) with
      | mk b o s =>
        rw [ha] at hsp
        simp only at hsp
        subst hsp
        have : b = a.block := by have := congrArg Addr.block ha; unfold Addr.add at this; split at this <;> simp_all
        exact ⟨o, by rw [this]⟩
    obtain ⟨oo, ho⟩ := he
    have hb : (0 : Int) ≤ (k : Int) ∧ (k : Int) < (n : Int) := ⟨by omega, by omega⟩
    refine ⟨a.block, oo, fun w => ?_, fun j hj => ?_, by rw [ho] at hlt; exact hlt⟩
    · simp [Instr.indexAt, run_underlying ht, asIntOf, hb.1, hs, hk, ho]
    · rw [← hc k hk j hj]
      congr 1
      have e1 : (a.add (k * sz)).add j = a.add (k * sz + j) := by
        unfold Addr.add
        by_cases hi : k * sz = 0 <;> by_cases hj : j = 0 <;> simp [hi, hj, Nat.add_assoc]
      rw [← e1, ho]
      unfold Addr.add
      split <;> simp_all

theorem RowsAt.chg {F : Nat → Prop} {w w' : World} {v : Value} {sz n : Nat} {C : Nat → List Value} (h : RowsAt w v sz n C) (hc : Chg F w w') (hF : ∀ k, k < w.heap.size → ¬ F k) : RowsAt w' v sz n C := by
  refine ⟨?_, h.le, h.wide⟩
  rcases h.form with h1 | ⟨a, cap, hv, h1⟩
  · exact .inl h1
  · refine .inr ⟨a, cap, hv, fun i hi j hj => ?_⟩
    have hw := h.wide i hi
    have h2 := h1 i hi j hj
    rw [List.getElem?_eq_getElem (by omega)] at h2 ⊢
    exact hc.cell h2 (hF _ (World.block_lt_of_cell? w _ h2))

theorem rows_of {H : Type} {enc : TypeId × Value → H} {P : Program} {W : World} {base b2 : Nat} {t e : TypeId} {fs : Array Field} {v : Value} {d : DataW H} {p : List MemPlace} (ht : P.underlying t = some (.slice e)) (he : P.underlying e = some (.struct fs))
    (hone : Go.Deep.oneCellFields P fs = true) (hC : P.cellsOf e = fs.size) (hval : Value.okWide P W .any base t v) (h : DataW.Trod enc P W b2 (fun _ => true) true t v d p) :
    ∃ n C, RowsAt W v fs.size n C ∧ ∀ i, i < n → ∀ (j : Nat) (f : Field), fs[j]? = some f → ∃ (u : Value) (y : DataW H × List MemPlace) (m : Nat), (C i)[j]? = some u ∧ DataW.trod enc P W b2 (fun _ => true) true m f.type [u] = some y := by
  obtain ⟨a0, len, cap, rfl⟩ := okWide_slice ht hval
  obtain ⟨fuel, hf⟩ := h
  rcases Go.Deep.open_slice ht hf with ⟨hcs, _⟩ | ⟨a, len', cap', m, n, D, Pl, hcs, _, hl, hm, hmm, _, hi⟩
  · simp [Value.cells] at hcs
    obtain ⟨rfl, rfl, rfl⟩ := hcs
    exact ⟨0, fun _ => [], ⟨.inl ⟨rfl, rfl⟩, Nat.zero_le _, fun i hi => by omega⟩, fun i hi => by omega⟩
  · simp [Value.cells] at hcs
    obtain ⟨rfl, rfl, rfl⟩ := hcs
    simp only [if_true] at hmm
    have hch : ∀ i, ∃ cs : List Value, i < len → (cs.length = fs.size ∧ (∀ j, j < fs.size → W.cell? (a.add (i * fs.size + j)) = cs[j]?) ∧
        ∀ (j : Nat) (f : Field), fs[j]? = some f → ∃ (u : Value) (y : DataW H × List MemPlace) (m : Nat), cs[j]? = some u ∧ DataW.trod enc P W b2 (fun _ => true) true m f.type [u] = some y) := by
      intro i
      by_cases hil : i < len
      · obtain ⟨cs', hc, ht'⟩ := hi i (by omega)
        rw [hC] at hc
        obtain ⟨ys, n', _, _, hlen, hyl, hfs⟩ := DataW.trod_struct he ht'
        obtain ⟨_, hcl, hat⟩ := World.cells?_some hc
        refine ⟨cs', fun _ => ⟨hcl, fun j hj => ?_, fun j f hj => ?_⟩⟩
        · rw [← hat j hj, Go.Deep.add_add]
        · have hjl : j < fs.size := (Array.getElem?_eq_some_iff.1 hj).1
          obtain ⟨ho, hk⟩ := Go.Deep.hone_of hone j f hj
          have h1 := hfs j f hj
          have hjc : j < cs'.length := by omega
          rw [ho, hk, List.drop_eq_getElem_cons hjc, List.take_succ_cons, List.take_zero, List.getElem?_eq_getElem (by omega)] at h1
          exact ⟨_, _, _, List.getElem?_eq_getElem hjc, h1⟩
      · exact ⟨[], fun h => absurd h hil⟩
    refine ⟨len, fun i => Classical.choose (hch i), ⟨.inr ⟨a, cap, rfl, fun i hil j hj => ((Classical.choose_spec (hch i)) hil).2.1 j hj⟩, by omega, fun i hil => ((Classical.choose_spec (hch i)) hil).1⟩, fun i hil => ((Classical.choose_spec (hch i)) hil).2.2⟩

end Go.Proofs.YtijiggolphppbaaGreatDoor
