/- Texts of the proof, one behind the other: A slice that came in, element by element; A slice of whole numbers that came in. -/
import Derived.Test.YthglfmacjoecgaaGreatDoorMg33
import Derived.Test.YthglfmacjoecgaaGreatDoorMg35
namespace Go.Proofs.YthglfmacjoecgaaGreatDoor
open Go.ChangeShapes Go.WideShapes Go.ChangeAt Go.RowKit
theorem rows_gen {H : Type} {enc : TypeId × Value → H} {P : Program} {W : World} {base b2 sz : Nat} {t e : TypeId} {v : Value} {d : DataW H} {p : List MemPlace} (ht : P.underlying t = some (.slice e))
    (hC : P.cellsOf e = sz) (hval : Value.okWide P W .any base t v) (h : DataW.Trod enc P W b2 (fun _ => true) true t v d p) :
    ∃ n C, RowsAt W v sz n C ∧ ∀ i, i < n → ∃ (y : DataW H × List MemPlace) (m : Nat), DataW.trod enc P W b2 (fun _ => true) true m e (C i) = some y := by
  obtain ⟨a0, len, cap, rfl⟩ := okWide_slice ht hval
  obtain ⟨fuel, hf⟩ := h
  rcases Go.Deep.open_slice ht hf with ⟨hcs, _⟩ | ⟨a, len', cap', m, n, D, Pl, hcs, _, hl, hm, hmm, _, hi⟩
  · simp [Value.cells] at hcs
    obtain ⟨rfl, rfl, rfl⟩ := hcs
    exact ⟨0, fun _ => [], ⟨.inl ⟨rfl, rfl⟩, Nat.zero_le _, fun i hi => by omega⟩, fun i hi => by omega⟩
  · simp [Value.cells] at hcs
    obtain ⟨rfl, rfl, rfl⟩ := hcs
    simp only [if_true] at hmm
    have hch : ∀ i, ∃ cs : List Value, i < len → (cs.length = sz ∧ (∀ j, j < sz → W.cell? (a.add (i * sz + j)) = cs[j]?) ∧
        ∃ (y : DataW H × List MemPlace) (m : Nat), DataW.trod enc P W b2 (fun _ => true) true m e cs = some y) := by
      intro i
      by_cases hil : i < len
      · obtain ⟨cs', hc, ht'⟩ := hi i (by omega)
        rw [hC] at hc
        obtain ⟨_, hcl, hat⟩ := World.cells?_some hc
        refine ⟨cs', fun _ => ⟨hcl, fun j hj => ?_, _, _, ht'⟩⟩
        rw [← hat j hj, Go.Deep.add_add]
      · exact ⟨[], fun h => absurd h hil⟩
    refine ⟨len, fun i => Classical.choose (hch i), ⟨.inr ⟨a, cap, rfl, fun i hil j hj => ((Classical.choose_spec (hch i)) hil).2.1 j hj⟩, by omega, fun i hil => ((Classical.choose_spec (hch i)) hil).1⟩, fun i hil => ((Classical.choose_spec (hch i)) hil).2.2⟩
end Go.Proofs.YthglfmacjoecgaaGreatDoor
namespace Go.Proofs.YthglfmacjoecgaaGreatDoor
open Go.ChangeShapes Go.WideShapes Go.ChangeAt Go.RowKit
set_option maxRecDepth 100000 in
theorem places_in {H : Type} {enc : TypeId × Value → H} {W : World} {base b2 : Nat} {v : Value} {d : DataW H} {p : List MemPlace} (hval : Value.okWide Tryz.prog W .any base 75 v) (h : DataW.Trod enc Tryz.prog W b2 (fun _ => true) true 75 v d p) : ∃ ps, PlacesAt W v ps := by
  obtain ⟨n, C, hR, hC⟩ := rows_gen (sz := 1) Tryz.underlying75 (by kernel_rfl) hval h
  obtain ⟨ps, h1, _⟩ := rows_pick hR (fun z : Int => [.int .i64 z]) 0 (fun _ => True) (fun i hi => by
    obtain ⟨y, m, hy⟩ := hC i hi
    obtain ⟨k0, g0, _, _⟩ := DataW.trod_int Tryz.underlying3 hy
    exact ⟨k0, g0, trivial⟩)
  exact ⟨ps, h1⟩
end Go.Proofs.YthglfmacjoecgaaGreatDoor
